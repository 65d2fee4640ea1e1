/-
  Room7: The first levels that a room is told (Room.level, where nothing has been told and no object of users or notifications is given).
  Room8: Apply of an event that makes a room, and of the first event of levels.
  Keys: slices.Sorted(maps.Keys(m)) of a map of values: its keys, rising.
  CreateL: The documents of the law RoomCreates, read as values and as events. No program in sight.
  Users: The law's users: one of five names.
-/
import Derived.Test.YtblbdgepocfngaaGreatDoorWE
import Derived.Test.YtblbdgepocfngaaGreatDoorWD
import Derived.Test.YtblbdgepocfngaaGreatDoorWK
import Derived.Test.YtblbdgepocfngaaGreatDoorShelf4
import Derived.Test.YtblbdgepocfngaaGreatDoorShelf2
import Derived.Test.YtblbdgepocfngaaGreatDoorW6
import Derived.Shelf.SlIter.Sorted
import Derived.Maps.OwnSet
namespace Toc
open Go Go.RowKit Go.Proofs

def otherOf (o : Option JV) : Int := if levelOk (getO o sUsersDefault) then numO (getO o sUsersDefault) else 0
def levelF (R : RoomSt) (o : Option JV) : RoomSt := { R with leveled := true, other := otherOf o, levels := [], needs := [] }

set_option maxRecDepth 100000 in
set_option maxHeartbeats 4000000 in
theorem level_first (r : Ro) (w : World) (hh : Has r w) {pc : Value} {oc : Option JV} (hp : PV r pc oc) (hok : OkO oc) {rb kb lb nb : Nat} {R : RoomSt} (hR : RoomAt w rb kb lb nb R) (hrb : r rb = none) (hl : R.leveled = false)
    (h1 : kindO (getO oc sUsers) ≠ 5) (h2 : kindO (getO oc sNotifications) ≠ 5) :
    Calls Tryz.prog 71 #[ptrV rb, pc] w fun e w' => ∃ lb' nb', e = .returned (.bool true) ∧ w.heap.size ≤ lb' ∧ w.heap.size ≤ nb' ∧ RoomAt w' rb kb lb' nb' (levelF R oc) ∧ Turns [rb] w w' := by
  obtain ⟨n, hn⟩ : ∃ n, numO (getO oc sUsersDefault) = n := ⟨_, rfl⟩
  obtain ⟨b, hb⟩ : ∃ b, levelOk (getO oc sUsersDefault) = b := ⟨_, rfl⟩
  have HOT := Lib.hid (show otherOf oc = if b then n else 0 by unfold otherOf; rw [hn, hb])
  have HN := Lib.hid hn
  have HBO := Lib.hid hb
  have HG1 := Lib.hid (get_any r w hh hp hok (mkS sUsersDefault))
  rw [list_mkS] at HG1
  have HH := Lib.hid hh
  have HP := Lib.hid hp
  have HOK := Lib.hid hok
  have HR := Lib.hid hR
  have H1 := Lib.hid h1
  have H2 := Lib.hid h2
  have HL := Lib.hid hl
  have HRB := Lib.hid hrb
  clear hn hb hh hp hok hR h1 h2 hl hrb
  go_enter Tryz.func71, Tryz.ntmps71
  go_wp2_with fail
  refine HG1.out.mono ?_
  rintro e w1 ⟨p1, rfl, hp1, hb1⟩
  have HB1 := Lib.hid hb1
  have HN1 := Lib.hid (number_any r w1 (HH.out.below hb1) hp1 HN.out HBO.out)
  clear hb1 hp1
  go_wp2_with fail
  refine HN1.out.mono ?_
  rintro e w1 ⟨rfl, rfl⟩
  have HG2 := Lib.hid (get_any r w1 (HH.out.below HB1.out) HP.out HOK.out (mkS sUsers))
  rw [list_mkS] at HG2
  cases b
  all_goals
    go_wp2_with fail
    refine HG2.out.mono ?_
    rintro e w2 ⟨p2, rfl, hp2, hb2⟩
    have HB2 := Lib.hid (below_trans HB1.out hb2)
    have HN2 := Lib.hid (numbers_none r w2 (HH.out.below (below_trans HB1.out hb2)) hp2 H1.out (.func (.func 10) #[] #[]))
    clear hb2 hp2
    go_wp2_with fail
    refine HN2.out.mono ?_
    rintro e w3 ⟨lb2, rfl, hl2, hm2, hb3⟩
    have HB3 := Lib.hid (below_trans HB2.out hb3)
    have HL2 := Lib.hid (Nat.le_trans HB2.out.size hl2)
    have HM2 := Lib.hid hm2
    have HG3 := Lib.hid (get_any r w3 (HH.out.below (below_trans HB2.out hb3)) HP.out HOK.out (mkS sNotifications))
    rw [list_mkS] at HG3
    clear hb3 hl2 hm2
    go_wp2_with fail
    refine HG3.out.mono ?_
    rintro e w4 ⟨p4, rfl, hp4, hb4⟩
    have HB4 := Lib.hid (below_trans HB3.out hb4)
    have HM4 := Lib.hid (HM2.out.turns (Turns.below (S := []) hb4) (by simp))
    have HN4 := Lib.hid (numbers_none r w4 (HH.out.below (below_trans HB3.out hb4)) hp4 H2.out (.func (.func 152) #[] #[]))
    clear hb4 hp4
    go_wp2_with fail
    refine HN4.out.mono ?_
    rintro e w5 ⟨nb2, rfl, hn2, hm5, hb5⟩
    have HB5 := Lib.hid (below_trans HB4.out hb5)
    have HL5 := Lib.hid (Nat.le_trans HB4.out.size hn2)
    have HNE := Lib.hid (show lb2 ≠ nb2 by have := HM4.out.lt; omega)
    have HM5 := Lib.hid (HM4.out.turns (Turns.below (S := []) hb5) (by simp))
    have HM6 := Lib.hid hm5
    have hR5 := HR.out.below HB5.out
    have HR5 := Lib.hid hR5
    have c3 : w5.cell? ⟨rb, 3, none⟩ = some (.bool R.leveled) := blk_cell hR5.blk 3
    rw [HL.out] at c3
    have c4 : w5.cell? ⟨rb, 4, none⟩ = some (.int .i64 R.other) := blk_cell hR5.blk 4
    have c5 : w5.cell? ⟨rb, 5, none⟩ = some (.map (some lb)) := blk_cell hR5.blk 5
    have c6 : w5.cell? ⟨rb, 6, none⟩ = some (.map (some nb)) := blk_cell hR5.blk 6
    have f3 := blk_free hR5.blk
    have s3 := hR5.blk
    clear hn2 hm5 hb5 hR5
    unfold roomObj at s3
    go_wp2_with fail
    go_ret
    have hne := HR5.out.map_ne
    have hT : ∀ {x y z u : Value}, Turns [rb] w5 ((((w5.setCell ⟨rb, 3, none⟩ x).setCell ⟨rb, 4, none⟩ y).setCell ⟨rb, 5, none⟩ z).setCell ⟨rb, 6, none⟩ u) := fun {x y z u} =>
      ((((Turns.refl [rb] w5).setCell (.inl (by simp)) x).setCell (.inl (by simp)) y).setCell (.inl (by simp)) z).setCell (.inl (by simp)) u
    have hlb : w.heap.size ≤ lb2 := HL2.out
    have hlt : rb < w.heap.size := blk_lt HR.out.blk
    have hkl : kb < w.heap.size := HR.out.known.lt
    have hnb : w.heap.size ≤ nb2 := HL5.out
    refine ⟨lb2, nb2, rfl, hlb, hnb, ⟨?_, HR5.out.known.turns hT (by simp; exact hne.1.symm), HM5.out.turns hT (by simp; omega), HM6.out.turns hT (by simp; omega), by omega, by omega, HNE.out⟩, (Turns.below (S := [rb]) HB5.out).trans hT⟩
    rw [blk_set (blk_set (blk_set (blk_set HR5.out.blk 3 _) 4 _) 5 _)]
    unfold levelF
    rw [HOT.out]
    rfl

end Toc

namespace Toc
open Go Go.RowKit Go.Proofs

def applyC (R : RoomSt) (E : Ev) : RoomSt := { R with creator := E.sender }

set_option maxRecDepth 100000 in
set_option maxHeartbeats 4000000 in
theorem apply_create (r : Ro) (w : World) (hG : Glob w) (hh : Has r w) {qe : Nat} {E : Ev} (he : EvV r qe E) (hok : EvOk E) {rb kb lb nb : Nat} {R : RoomSt} (hR : RoomAt w rb kb lb nb R) (hmay : mayR R E = 0)
    (hst : E.state = true) (hkey : E.key = []) (hty : E.type = sCreate) (hcr : R.creator = []) :
    Calls Tryz.prog 27 #[ptrV rb, ptrV qe] w fun e w' => e = .returned (.tuple #[.bool true, .int .i64 0]) ∧ RoomAt w' rb kb lb nb (applyC R E) ∧ Turns [rb] w w' := by
  have hmem : memberB E = false := by unfold memberB; rw [hty]; rw [Bool.and_eq_false_iff, Bool.and_eq_false_iff]; exact .inl (.inr (by decide))
  obtain ⟨bq, hea, hev⟩ := he
  have HMY := Lib.hid (may_any r w hG hh hea hok hR)
  rw [hmay] at HMY
  have HE := Lib.hid hea
  have HV := Lib.hid hev
  have HOK := Lib.hid hok
  have HH := Lib.hid hh
  have HR := Lib.hid hR
  have HG := Lib.hid hG
  have HMEM := Lib.hid hmem
  have hpv : PV r (ptrV bq) (some E.body) := ⟨bq, rfl, hev⟩
  have hok1 : OkO (some E.body) := fun x hx => by cases hx; exact hok.2.2.2.2.2.2
  have HPV := Lib.hid hpv
  have HOK1 := Lib.hid hok1
  have HST := Lib.hid hst
  have HKEY := Lib.hid hkey
  have HTY := Lib.hid hty
  have HCR := Lib.hid hcr
  clear hea hev hok hh hR hG hmem hmay hpv hok1 hst hkey hty hcr
  go_enter Tryz.func27, Tryz.ntmps27
  go_wp2_with fail
  refine HMY.out.mono ?_
  rintro e w1 ⟨rfl, hb1⟩
  have HB1 := Lib.hid hb1
  have d7 : w1.cell? ⟨qe, 7, none⟩ = some (ptrV bq) := blk_cell ((HH.out.below hb1) _ _ HE.out) 7
  obtain ⟨oc, hoc⟩ : ∃ oc, getO (some E.body) sContent = oc := ⟨_, rfl⟩
  have hgc := get_any r w1 (HH.out.below hb1) HPV.out HOK1.out (mkS sContent)
  rw [list_mkS, hoc] at hgc
  have HGC := Lib.hid hgc
  have HOC := Lib.hid (show contentO E = oc from hoc)
  have HOKC := Lib.hid (show OkO oc by rw [← hoc]; exact getO_ok HOK1.out)
  clear hb1 hoc hgc
  go_wp2_with fail
  refine HGC.out.mono ?_
  rintro e w2 ⟨pc, rfl, hpc, hb2⟩
  have HB2 := Lib.hid (below_trans HB1.out hb2)
  have HPC := Lib.hid hpc
  have HME := Lib.hid (membership_any r w2 (HG.out.below HB2.out) (HH.out.below HB2.out) HE.out HOK.out HMEM.out)
  clear hb2 hpc d7
  go_wp2_with fail
  refine HME.out.mono ?_
  rintro e w3 ⟨rfl, hb3⟩
  have HB3 := Lib.hid (below_trans HB2.out hb3)
  have hR3 := HR.out.below HB3.out
  have HR3 := Lib.hid hR3
  have HH3 := Lib.hid (HH.out.below HB3.out)
  have d2 : w3.cell? ⟨qe, 2, none⟩ = some (.string (mkS E.sender)) := blk_cell (HH3.out _ _ HE.out) 2
  have d3 : w3.cell? ⟨qe, 3, none⟩ = some (.string (mkS E.type)) := blk_cell (HH3.out _ _ HE.out) 3
  have d4 : w3.cell? ⟨qe, 4, none⟩ = some (.bool E.state) := blk_cell (HH3.out _ _ HE.out) 4
  have d5 : w3.cell? ⟨qe, 5, none⟩ = some (.string (mkS E.key)) := blk_cell (HH3.out _ _ HE.out) 5
  have c2 : w3.cell? ⟨rb, 2, none⟩ = some (.string (mkS R.creator)) := blk_cell hR3.blk 2
  have f2 := blk_free hR3.blk
  rw [HTY.out] at d3
  rw [HST.out] at d4
  rw [HKEY.out] at d5
  unfold sCreate at d3
  unfold mkS at d3 d5
  rw [HCR.out] at c2
  unfold mkS at c2
  clear hb3
  go_wp2_with fail
  go_ret2
  have hne := hR3.map_ne
  have hT : Turns [rb] w3 (w3.setCell ⟨rb, 2, none⟩ (.string (mkS E.sender))) := (Turns.refl [rb] w3).setCell (.inl (by simp)) _
  refine ⟨rfl, ⟨?_, hR3.known.turns hT (by simp; exact hne.1.symm), hR3.levels.turns hT (by simp; exact hne.2.1.symm), hR3.needs.turns hT (by simp; exact hne.2.2.symm), hR3.n1, hR3.n2, hR3.n3⟩, (Turns.below (S := [rb]) HB3.out).trans hT⟩
  rw [blk_set hR3.blk]
  rfl

set_option maxRecDepth 100000 in
set_option maxHeartbeats 4000000 in
theorem apply_created (r : Ro) (w : World) (hG : Glob w) (hh : Has r w) {qe : Nat} {E : Ev} (he : EvV r qe E) (hok : EvOk E) {rb kb lb nb : Nat} {R : RoomSt} (hR : RoomAt w rb kb lb nb R) (hmay : mayR R E = 0)
    (hst : E.state = true) (hkey : E.key = []) (hty : E.type = sCreate) (hcr : R.creator ≠ []) :
    Calls Tryz.prog 27 #[ptrV rb, ptrV qe] w fun e w' => e = .returned (.tuple #[.bool false, .int .i64 0]) ∧ RoomAt w' rb kb lb nb R ∧ Below w.heap.size w w' := by
  have hmem : memberB E = false := by unfold memberB; rw [hty]; rw [Bool.and_eq_false_iff, Bool.and_eq_false_iff]; exact .inl (.inr (by decide))
  obtain ⟨bq, hea, hev⟩ := he
  have HMY := Lib.hid (may_any r w hG hh hea hok hR)
  rw [hmay] at HMY
  have HE := Lib.hid hea
  have HV := Lib.hid hev
  have HOK := Lib.hid hok
  have HH := Lib.hid hh
  have HR := Lib.hid hR
  have HG := Lib.hid hG
  have HMEM := Lib.hid hmem
  have hpv : PV r (ptrV bq) (some E.body) := ⟨bq, rfl, hev⟩
  have hok1 : OkO (some E.body) := fun x hx => by cases hx; exact hok.2.2.2.2.2.2
  have HPV := Lib.hid hpv
  have HOK1 := Lib.hid hok1
  have HST := Lib.hid hst
  have HKEY := Lib.hid hkey
  have HTY := Lib.hid hty
  have HCR := Lib.hid hcr
  clear hea hev hok hh hR hG hmem hmay hpv hok1 hst hkey hty hcr
  go_enter Tryz.func27, Tryz.ntmps27
  go_wp2_with fail
  refine HMY.out.mono ?_
  rintro e w1 ⟨rfl, hb1⟩
  have HB1 := Lib.hid hb1
  have d7 : w1.cell? ⟨qe, 7, none⟩ = some (ptrV bq) := blk_cell ((HH.out.below hb1) _ _ HE.out) 7
  obtain ⟨oc, hoc⟩ : ∃ oc, getO (some E.body) sContent = oc := ⟨_, rfl⟩
  have hgc := get_any r w1 (HH.out.below hb1) HPV.out HOK1.out (mkS sContent)
  rw [list_mkS, hoc] at hgc
  have HGC := Lib.hid hgc
  have HOC := Lib.hid (show contentO E = oc from hoc)
  have HOKC := Lib.hid (show OkO oc by rw [← hoc]; exact getO_ok HOK1.out)
  clear hb1 hoc hgc
  go_wp2_with fail
  refine HGC.out.mono ?_
  rintro e w2 ⟨pc, rfl, hpc, hb2⟩
  have HB2 := Lib.hid (below_trans HB1.out hb2)
  have HPC := Lib.hid hpc
  have HME := Lib.hid (membership_any r w2 (HG.out.below HB2.out) (HH.out.below HB2.out) HE.out HOK.out HMEM.out)
  clear hb2 hpc d7
  go_wp2_with fail
  refine HME.out.mono ?_
  rintro e w3 ⟨rfl, hb3⟩
  have HB3 := Lib.hid (below_trans HB2.out hb3)
  have hR3 := HR.out.below HB3.out
  have HR3 := Lib.hid hR3
  have HH3 := Lib.hid (HH.out.below HB3.out)
  have d2 : w3.cell? ⟨qe, 2, none⟩ = some (.string (mkS E.sender)) := blk_cell (HH3.out _ _ HE.out) 2
  have d3 : w3.cell? ⟨qe, 3, none⟩ = some (.string (mkS E.type)) := blk_cell (HH3.out _ _ HE.out) 3
  have d4 : w3.cell? ⟨qe, 4, none⟩ = some (.bool E.state) := blk_cell (HH3.out _ _ HE.out) 4
  have d5 : w3.cell? ⟨qe, 5, none⟩ = some (.string (mkS E.key)) := blk_cell (HH3.out _ _ HE.out) 5
  have c2 : w3.cell? ⟨rb, 2, none⟩ = some (.string (mkS R.creator)) := blk_cell hR3.blk 2
  have f2 := blk_free hR3.blk
  rw [HTY.out] at d3
  rw [HST.out] at d4
  rw [HKEY.out] at d5
  unfold sCreate at d3
  unfold mkS at d3 d5
  obtain ⟨c, hc⟩ : ∃ c, mkS R.creator = c := ⟨_, rfl⟩
  rw [hc] at c2
  have hcs : c.toList.isEmpty = false := by rw [← hc, Lib.toList_data]; simpa using HCR.out
  clear hc
  clear hb3
  go_wp2_with fail
  go_ret2
  exact ⟨rfl, hR3, HB3.out⟩

set_option maxRecDepth 100000 in
set_option maxHeartbeats 4000000 in
theorem apply_levels (r : Ro) (w : World) (hG : Glob w) (hh : Has r w) {qe : Nat} {E : Ev} (he : EvV r qe E) (hok : EvOk E) {rb kb lb nb : Nat} {R : RoomSt} (hR : RoomAt w rb kb lb nb R) (hmay : mayR R E = 0)
    (hst : E.state = true) (hkey : E.key = []) (hty : E.type = sPower) (hrb : r rb = none) (hl : R.leveled = false) (h1 : kindO (getO (contentO E) sUsers) ≠ 5) (h2 : kindO (getO (contentO E) sNotifications) ≠ 5) :
    Calls Tryz.prog 27 #[ptrV rb, ptrV qe] w fun e w' => ∃ lb' nb', e = .returned (.tuple #[.bool true, .int .i64 0]) ∧ w.heap.size ≤ lb' ∧ w.heap.size ≤ nb' ∧ RoomAt w' rb kb lb' nb' (levelF R (contentO E)) ∧ Turns [rb] w w' := by
  have hmem : memberB E = false := by unfold memberB; rw [hty]; rw [Bool.and_eq_false_iff, Bool.and_eq_false_iff]; exact .inl (.inr (by decide))
  obtain ⟨bq, hea, hev⟩ := he
  have HMY := Lib.hid (may_any r w hG hh hea hok hR)
  rw [hmay] at HMY
  have HE := Lib.hid hea
  have HV := Lib.hid hev
  have HOK := Lib.hid hok
  have HH := Lib.hid hh
  have HR := Lib.hid hR
  have HG := Lib.hid hG
  have HMEM := Lib.hid hmem
  have hpv : PV r (ptrV bq) (some E.body) := ⟨bq, rfl, hev⟩
  have hok1 : OkO (some E.body) := fun x hx => by cases hx; exact hok.2.2.2.2.2.2
  have HPV := Lib.hid hpv
  have HOK1 := Lib.hid hok1
  have HST := Lib.hid hst
  have HKEY := Lib.hid hkey
  have HTY := Lib.hid hty
  have HL := Lib.hid hl
  have HK1 := Lib.hid h1
  have HK2 := Lib.hid h2
  have HRB := Lib.hid hrb
  clear hea hev hok hh hR hG hmem hmay hpv hok1 hst hkey hty hl h1 h2 hrb
  go_enter Tryz.func27, Tryz.ntmps27
  go_wp2_with fail
  refine HMY.out.mono ?_
  rintro e w1 ⟨rfl, hb1⟩
  have HB1 := Lib.hid hb1
  have d7 : w1.cell? ⟨qe, 7, none⟩ = some (ptrV bq) := blk_cell ((HH.out.below hb1) _ _ HE.out) 7
  obtain ⟨oc, hoc⟩ : ∃ oc, getO (some E.body) sContent = oc := ⟨_, rfl⟩
  have hgc := get_any r w1 (HH.out.below hb1) HPV.out HOK1.out (mkS sContent)
  rw [list_mkS, hoc] at hgc
  have HGC := Lib.hid hgc
  have HOC := Lib.hid (show contentO E = oc from hoc)
  have HOKC := Lib.hid (show OkO oc by rw [← hoc]; exact getO_ok HOK1.out)
  clear hb1 hoc hgc
  go_wp2_with fail
  refine HGC.out.mono ?_
  rintro e w2 ⟨pc, rfl, hpc, hb2⟩
  have HB2 := Lib.hid (below_trans HB1.out hb2)
  have HPC := Lib.hid hpc
  have HME := Lib.hid (membership_any r w2 (HG.out.below HB2.out) (HH.out.below HB2.out) HE.out HOK.out HMEM.out)
  clear hb2 hpc d7
  go_wp2_with fail
  refine HME.out.mono ?_
  rintro e w3 ⟨rfl, hb3⟩
  have HB3 := Lib.hid (below_trans HB2.out hb3)
  have hR3 := HR.out.below HB3.out
  have HR3 := Lib.hid hR3
  have HH3 := Lib.hid (HH.out.below HB3.out)
  have d2 : w3.cell? ⟨qe, 2, none⟩ = some (.string (mkS E.sender)) := blk_cell (HH3.out _ _ HE.out) 2
  have d3 : w3.cell? ⟨qe, 3, none⟩ = some (.string (mkS E.type)) := blk_cell (HH3.out _ _ HE.out) 3
  have d4 : w3.cell? ⟨qe, 4, none⟩ = some (.bool E.state) := blk_cell (HH3.out _ _ HE.out) 4
  have d5 : w3.cell? ⟨qe, 5, none⟩ = some (.string (mkS E.key)) := blk_cell (HH3.out _ _ HE.out) 5
  have c2 : w3.cell? ⟨rb, 2, none⟩ = some (.string (mkS R.creator)) := blk_cell hR3.blk 2
  have f2 := blk_free hR3.blk
  rw [HTY.out] at d3
  rw [HST.out] at d4
  rw [HKEY.out] at d5
  unfold sPower at d3
  unfold mkS at d3 d5
  have HLV := Lib.hid (level_first r w3 HH3.out (HPC.out) HOKC.out hR3 HRB.out HL.out (by rw [← HOC.out]; exact HK1.out) (by rw [← HOC.out]; exact HK2.out))
  clear hb3 hR3
  go_wp2_with fail
  refine HLV.out.mono ?_
  rintro e w4 ⟨lb', nb', rfl, hl1, hl2, hR4, hT4⟩
  go_wp2_with fail
  go_ret2
  rw [HOC.out]
  exact ⟨lb', nb', rfl, Nat.le_trans HB3.out.size hl1, Nat.le_trans HB3.out.size hl2, hR4, (Turns.below (S := [rb]) HB3.out).trans hT4⟩

end Toc

namespace Toc
open Go Go.RowKit Go.Proofs Go.Maps Go.Sort Go.WideElems

def readR : Value → Option (DataW Unit × List MemPlace) := fun _ => some (.lit (.bool true), [])

theorem rd_str {x : MapEntry} {k : Bytes} (hx : x.key = .string (mkS k)) (hk : k.length ≤ maxLen) : WideElems.rd Tryz.prog 9 readR x = some (.string k, .lit (.bool true)) := by
  unfold WideElems.rd keyOf
  rw [Tryz.underlying9, hx]
  simp only [mapKey, Tryz.underlying9]
  rw [if_pos (by rw [size_mkS]; exact hk)]
  simp [readR]

theorem owns_of_map {w : World} {b : Nat} {l : List (Bytes × Value)} (hm : MapAt w b l) (hl : l.length ≤ maxLen) (hk : ∀ p ∈ l, p.1.length ≤ maxLen) :
    ∃ D0 : DataW Unit, w.ownsMap Tryz.prog 9 readR b l.length D0 ∧ (strKeys D0).Perm (l.map (·.1)) ∧ Maps.size D0 = l.length := by
  obtain ⟨es, clock, hb, h⟩ := hm
  have hrd : ∀ x ∈ es.toList, ∃ k, x.key = .string (mkS k) ∧ WideElems.rd Tryz.prog 9 readR x = some (.string k, .lit (.bool true)) := fun x hx => by
    obtain ⟨k, h1, h2⟩ := h.keys hx
    exact ⟨k, h1, rd_str h1 (hk _ h2)⟩
  have F : Fit Tryz.prog 9 readR es clock := ⟨by rw [h.size]; exact hl, h.stamped, fun x hx => by
    obtain ⟨k, _, h2⟩ := hrd x hx
    exact ⟨_, h2⟩⟩
  refine ⟨_, ⟨es, clock, hb, F, by rw [h.size]; exact Nat.le_refl _, rfl⟩, ?_, ?_⟩
  · have hp := (WideShapes.sorted_perm (es.toList.map (rg Tryz.prog 9 readR))).map fun p => strOf p.1
    refine hp.trans ?_
    rw [List.map_map]
    have hkey : es.toList.map ((fun p : Lit × DataW Unit => strOf p.1) ∘ rg Tryz.prog 9 readR) = (es.toList.map fun e => (e.key, e.val)).map fun p => match p.1 with | .string s => s.data.toList | _ => [] := by
      rw [List.map_map]
      refine List.map_congr_left fun x hx => ?_
      obtain ⟨k, h1, h2⟩ := hrd x hx
      simp only [Function.comp, WideElems.rg, h2, h1, Option.getD_some]
      simp [strOf]
    rw [hkey]
    refine (h.rd.map _).trans ?_
    unfold encM
    rw [List.map_map]
    refine List.Perm.of_eq (List.map_congr_left fun p _ => ?_)
    simp [mkS]
  · show (List.foldr DataW.insert [] _).length = _
    rw [length_sorted, List.length_map, Array.length_toList, h.size]

theorem sortsA (m : Nat) : AnyZ.SortsIn Tryz.prog Tryz.sortedA_ren Fence.wide m :=
  ⟨fun blk off cap ss W hH hblk hsz => callsIn_wide.2 (Tryz.slices_Sort_string blk off cap ss W hH hblk hsz),
   fun p cap W => callsIn_wide.2 (Tryz.slices_Sort_string_none p cap W)⟩

/-- maps.Keys(m): a function value over a box that holds the map. -/
theorem keys_call (b : Nat) (w : World) : Calls Tryz.prog 62 #[.map (some b)] w fun e w' =>
    e = .returned (.func (.func 143) #[] #[ptrV w.heap.size]) ∧ w' = w.alloc (.cells #[.map (some b)] 39) :=
  (callsIn_wide (n := 5)).1 (AnyZ.keys_in Tryz.keysA Fence.wide 5 trivial rfl (some b) w)

/-- slices.Sorted of that. -/
theorem sorted_call {w : World} {b bx : Nat} {l : List (Bytes × Value)} (hx : w.cell? ⟨bx, 0, none⟩ = some (.map (some b))) (hm : MapAt w b l) (hl : l.length ≤ 1048576) (hk : ∀ p ∈ l, p.1.length ≤ maxLen) :
    Calls Tryz.prog 61 #[.func (.func 143) #[] #[ptrV bx]] w fun e w' =>
      ∃ v, e = .returned v ∧ w'.ownsRow w.heap.size 9 1 v l.length (l.map fun p => .string (mkS p.1)) ∧ Below w.heap.size w w' := by
  obtain ⟨D0, hown, hp, hs⟩ := owns_of_map hm (by unfold maxLen; omega) hk
  have hseq : SeqGives Fence.wide 2 Tryz.prog 143 #[ptrV bx] encStr (fun ss => ss.Perm (strKeys D0)) (Maps.size D0) w :=
    AnyZ.keys_gives (ρ := Tryz.keysA_ren) { Tryz.keysA with } Fence.wide _ trivial rfl (by omega) bx b l.length D0 w (cell_block_lt hx) hx hown
  have cS := AnyZ.sorted_in Tryz.sortedA Fence.wide 5 trivial trivial trivial trivial rfl (by omega) (sortsA _) (enters_of Tryz.func80 (by kernel_rfl) rfl) 143 #[ptrV bx] trivial (enters_of Tryz.func143 (by kernel_rfl) rfl) _ _ (by rw [hs]; unfold maxLen; omega) (by rw [hs]; omega) _ hseq
  change CallsIn _ _ Tryz.prog 61 _ _ _ at cS
  refine ((callsIn_wide (n := 5)).1 cS).mono ?_
  rintro e w' ⟨v, ss, rfl, hS, hrow, _, hb⟩
  have hperm := hS.trans hp
  have hlen : ss.length = l.length := by rw [hperm.length_eq, List.length_map]
  have hr := (rising_iff l).1 hm.rise
  have hsort : (ss.mergeSort fun x y => decide (x ≤ y)) = l.map (·.1) := sorted_is hperm (List.pairwise_map.2 hr)
  refine ⟨v, rfl, ?_, hb⟩
  rw [hsort, hlen, List.map_map] at hrow
  exact hrow

end Toc

namespace Toc
open Go Go.RowKit Go.Proofs

def sX : Bytes := [36, 120]
def sY : Bytes := [36, 121]
def sZaway : Bytes := [64, 122, 58, 97, 119, 97, 121]
def sOther : Bytes := [64, 111, 116, 104, 101, 114, 58, 97, 119, 97, 121]
def crA : Bytes := [123, 34, 101, 118, 101, 110, 116, 95, 105, 100, 34, 58, 34, 36, 120, 34, 44, 34, 114, 111, 111, 109, 95, 105, 100, 34, 58, 34, 33, 114, 34, 44, 34, 116, 121, 112, 101, 34, 58, 34, 109, 46, 114, 111, 111, 109, 46, 99, 114, 101, 97, 116, 101, 34, 44, 34, 115, 116, 97, 116, 101, 95, 107, 101, 121, 34, 58, 34, 34, 44, 34, 99, 111, 110, 116, 101, 110, 116, 34, 58, 123, 125, 44, 34, 115, 101, 110, 100, 101, 114, 34, 58, 34]
def crB : Bytes := [34, 125]
def userL : List Bytes := [[64, 97, 58, 104, 111, 109, 101], [64, 98, 58, 104, 111, 109, 101], [64, 99, 58, 104, 111, 109, 101], [64, 100, 58, 97, 119, 97, 121], [64, 101, 58, 97, 119, 97, 121]]
def createT (u : Bytes) : Bytes := crA ++ u ++ crB
def createV (u : Bytes) : JV := .obj [(sContent, .obj []), (sEventId, .text sX), (sRoomId, .text sR), (sSender, .text u), (sStateKey, .text []), (sType, .text sCreate)]
def createE (u : Bytes) : Ev := ⟨sX, sR, u, sCreate, true, [], [], createV u⟩
def levelsV (n : Int) : JV := .obj [(sContent, .obj [(sUsersDefault, .int n)]), (sEventId, .text sY), (sRoomId, .text sR), (sSender, .text sZaway), (sStateKey, .text []), (sType, .text sPower)]
def levelsE (n : Int) : Ev := ⟨sY, sR, sZaway, sPower, true, [], [], levelsV n⟩

theorem rising_of_keys {α : Type} {l : List (Bytes × α)} {ks : List Bytes} (h : l.map (·.1) = ks) (hp : ks.Pairwise fun x y => Lib.compareBytes x y = -1) : Rising l := by
  rw [rising_iff]
  rw [← h, List.pairwise_map] at hp
  exact hp

theorem create_parse : ∀ u ∈ userL, parseL (createT u) = some (createV u) := by
  intro u hu
  simp only [userL, List.mem_cons, List.mem_nil_iff, or_false] at hu
  rcases hu with rfl | rfl | rfl | rfl | rfl <;> kernel_rfl
theorem create_event : ∀ u ∈ userL, readEv (some (createV u)) = (0, some (createE u)) := by
  intro u hu
  simp only [userL, List.mem_cons, List.mem_nil_iff, or_false] at hu
  rcases hu with rfl | rfl | rfl | rfl | rfl <;> kernel_rfl
theorem user_ne : ∀ u ∈ userL, u ≠ [] ∧ u.length = 7 ∧ u ≠ sOther := by
  intro u hu
  simp only [userL, List.mem_cons, List.mem_nil_iff, or_false] at hu
  rcases hu with rfl | rfl | rfl | rfl | rfl <;> decide
theorem levels_event (n : Int) : readEv (some (levelsV n)) = (0, some (levelsE n)) := by kernel_rfl
theorem levels_ok {n : Int} (h1 : -9007199254740991 ≤ n) (h2 : n ≤ 9007199254740991) : JOk (levelsV n) := by
  refine .obj (by simp) (rising_of_keys (ks := [sContent, sEventId, sRoomId, sSender, sStateKey, sType]) rfl (by decide +kernel)) ?_ ?_
  · simp [sContent, sEventId, sRoomId, sSender, sStateKey, sType]
  · simp only [List.mem_cons, List.mem_nil_iff, or_false]
    rintro m (rfl | rfl | rfl | rfl | rfl | rfl)
    · exact .obj (by simp) (rising_of_keys (ks := [sUsersDefault]) rfl (by decide +kernel)) (by simp [sUsersDefault]) (by simp only [List.mem_cons, List.mem_nil_iff, or_false]; rintro m rfl; exact .int h1 h2)
    · exact .text (by decide)
    · exact .text (by decide)
    · exact .text (by decide)
    · exact .text (by decide)
    · exact .text (by decide)
theorem create_may (R : RoomSt) (u : Bytes) (h : R.id = sR) : mayR R (createE u) = 0 := by
  unfold mayR
  rw [if_neg (by simp [createE, h]), if_neg (by rintro ⟨h, _⟩; simp [memberB, createE, sCreate, sMember] at h)]
theorem levels_may (R : RoomSt) (n : Int) (h : R.id = sR) : mayR R (levelsE n) = 0 := by
  unfold mayR
  rw [if_neg (by simp [levelsE, h]), if_neg (by rintro ⟨h, _⟩; simp [memberB, levelsE, sPower, sMember] at h)]
theorem levels_other {n : Int} (h1 : 0 ≤ n) (h2 : n ≤ 1000) : otherOf (contentO (levelsE n)) = n := by
  have : getO (contentO (levelsE n)) sUsersDefault = some (.int n) := by kernel_rfl
  unfold otherOf; rw [this]
  have : levelOk (some (JV.int n)) = true := by
    unfold levelOk
    rw [Bool.and_eq_true, Bool.and_eq_true]
    exact ⟨rfl, decide_eq_true (show -1000 ≤ n by omega), decide_eq_true (show n ≤ 1000 by omega)⟩
  rw [this]; rfl

end Toc

namespace Toc
open Go Go.RowKit Go.Proofs

def userOf (c : Int) : Bytes := userL.getD (pickI c 5).toNat []
theorem userOf_mem (c : Int) : userOf c ∈ userL := by
  have h := pickI_range c 5 (by omega)
  unfold userOf
  generalize pickI c 5 = k at h
  obtain ⟨h1, h2⟩ := h
  have : k = 0 ∨ k = 1 ∨ k = 2 ∨ k = 3 ∨ k = 4 := by omega
  rcases this with rfl | rfl | rfl | rfl | rfl <;> decide

set_option maxRecDepth 100000 in
set_option maxHeartbeats 1000000 in
theorem users_any (c : Int) (h1 : -9223372036854775808 ≤ c) (h2 : c ≤ 9223372036854775807) (w : World) :
    Calls Tryz.prog 21 #[.int .i64 c] w fun e w' => e = .returned (.string (mkS (userOf c))) ∧ Below w.heap.size w w' := by
  have hr := pickI_range c 5 (by omega)
  have HP := Lib.hid (fun wx => pick_any c 5 h1 h2 (by omega) (by omega) wx)
  have HU := Lib.hid (show userOf c = userL.getD (pickI c 5).toNat [] from rfl)
  generalize pickI c 5 = k at *
  clear h1 h2
  have hk : k = 0 ∨ k = 1 ∨ k = 2 ∨ k = 3 ∨ k = 4 := by omega
  clear hr
  rcases hk with rfl | rfl | rfl | rfl | rfl
  all_goals
    rw [HU.out]
    clear HU
    go_enter Tryz.func21, Tryz.ntmps21
    go_wp2_with fail
    refine (HP.out _).mono ?_
    rintro e w1 ⟨rfl, rfl⟩
    go_wp2_with fail
    go_ret
    exact ⟨rfl, (Below.refl _ w).alloc (Nat.le_refl _) _⟩

end Toc
