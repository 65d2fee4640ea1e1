/-
  Room: A room in memory; New, membership.
  Room2: What an event of membership makes of a user: the walks of words and joins.
  Room3: The walk of Apply over an event of membership.
-/
import Derived.Test.YtblbdgepocfngaaGreatDoorWC
import Derived.RegionTactic
import Derived.BigRegion
import Derived.Laws.StructEq
import Derived.StillTailTactics
namespace Toc
open Go Go.RowKit Go.Proofs

structure RoomSt where
  id : Bytes
  known : List (Bytes × (Nat × Bytes))
  creator : Bytes
  leveled : Bool
  other : Int
  levels : List (Bytes × Int)
  needs : List (Bytes × Int)

def mapE {α : Type} (f : α → Value) (l : List (Bytes × α)) : List (Bytes × Value) := l.map fun p => (p.1, f p.2)
def encMem (m : Nat × Bytes) : Value := .agg #[.int .i64 m.1, .string (mkS m.2)]
def encInt (n : Int) : Value := .int .i64 n
def newRoom (id : Bytes) : RoomSt := ⟨id, [], [], false, 0, [], []⟩

def roomObj (R : RoomSt) (kb lb nb : Nat) : Obj :=
  .cells #[.string (mkS R.id), .map (some kb), .string (mkS R.creator), .bool R.leveled, .int .i64 R.other, .map (some lb), .map (some nb)] 98 (0, 0)
/-- A room at rb, its maps at kb, lb, nb. -/
structure RoomAt (w : World) (rb kb lb nb : Nat) (R : RoomSt) : Prop where
  blk : w.heap[rb]? = some (roomObj R kb lb nb)
  known : MapAt w kb (mapE encMem R.known)
  levels : MapAt w lb (mapE encInt R.levels)
  needs : MapAt w nb (mapE encInt R.needs)
  n1 : kb ≠ lb
  n2 : kb ≠ nb
  n3 : lb ≠ nb

theorem RoomAt.rise {w : World} {rb kb lb nb : Nat} {R : RoomSt} (h : RoomAt w rb kb lb nb R) : Rising R.known ∧ Rising R.levels ∧ Rising R.needs := by
  have g : ∀ {α : Type} {f : α → Value} {l : List (Bytes × α)}, Rising (mapE f l) → Rising l := by
    intro α f l hr
    rw [rising_iff] at hr ⊢
    unfold mapE at hr
    rw [List.pairwise_map] at hr
    exact hr
  exact ⟨g h.known.rise, g h.levels.rise, g h.needs.rise⟩
theorem RoomAt.turns {w w' : World} {rb kb lb nb : Nat} {R : RoomSt} {S : List Nat} (h : RoomAt w rb kb lb nb R) (ht : Turns S w w') (h1 : rb ∉ S) (h2 : kb ∉ S) (h3 : lb ∉ S) (h4 : nb ∉ S) : RoomAt w' rb kb lb nb R :=
  ⟨ht.heap h.blk h1, h.known.turns ht h2, h.levels.turns ht h3, h.needs.turns ht h4, h.n1, h.n2, h.n3⟩
theorem RoomAt.below {w w' : World} {rb kb lb nb : Nat} {R : RoomSt} (h : RoomAt w rb kb lb nb R) (hb : Below w.heap.size w w') : RoomAt w' rb kb lb nb R :=
  h.turns (Turns.below (S := []) hb) (by simp) (by simp) (by simp) (by simp)
theorem RoomAt.map_ne {w : World} {rb kb lb nb : Nat} {R : RoomSt} (h : RoomAt w rb kb lb nb R) : rb ≠ kb ∧ rb ≠ lb ∧ rb ≠ nb := by
  have g : ∀ {b : Nat} {l : List (Bytes × Value)}, MapAt w b l → rb ≠ b := by
    rintro b l ⟨es, c, hb, _⟩ e
    subst e
    rw [h.blk] at hb; cases hb
  exact ⟨g h.known, g h.levels, g h.needs⟩
theorem mapE_get {α : Type} (f : α → Value) (l : List (Bytes × α)) (k : Bytes) : getK (mapE f l) k = (getK l k).map f := getK_map f l k
theorem mapE_put {α : Type} (f : α → Value) (l : List (Bytes × α)) (k : Bytes) (v : α) : putK (mapE f l) k (f v) = mapE f (putK l k v) := putK_map f l k v

set_option maxRecDepth 100000 in
set_option maxHeartbeats 4000000 in
theorem new_ok (w : World) (hG : Glob w) (s : ByteArray) (hs : s.size ≤ 140737488351232) (hr : roomB s.data.toList = true) :
    Calls Tryz.prog 18 #[.string s] w fun e w' => ∃ rb kb lb nb, e = .returned (.tuple #[ptrV rb, .int .i64 0]) ∧ RoomAt w' rb kb lb nb (newRoom s.data.toList) ∧ Below w.heap.size w w' ∧ w.heap.size ≤ rb ∧ w.heap.size ≤ kb ∧ w.heap.size ≤ lb ∧ w.heap.size ≤ nb := by
  have hmm := @run_makeMap Tryz.prog
  have HI := Lib.hid (isRoom_any s hr hs w hG)
  clear hr
  go_enter Tryz.func18, Tryz.ntmps18
  go_wp2_with fail
  refine HI.out.mono ?_
  rintro e w1 ⟨rfl, hb⟩
  have HB := Lib.hid hb
  clear hb
  go_wp2_with fail
  go_ret2
  have hz := HB.out.size
  refine ⟨_, w1.heap.size, w1.heap.size + 1, w1.heap.size + 1 + 1, rfl, ⟨?_, ?_, ?_, ?_, by omega, by omega, by omega⟩, ?_, by omega, by omega, by omega, by omega⟩
  · have h := blk_new (((w1.alloc (.map #[] 0)).alloc (.map #[] 0)).alloc (.map #[] 0)) (roomObj (newRoom s.data.toList) w1.heap.size (w1.heap.size + 1) (w1.heap.size + 1 + 1))
    simpa [roomObj, newRoom, mkS_list] using h
  · exact (((MapAt.new w1).turns ((Turns.refl [] _).alloc _) (by simp)).turns ((Turns.refl [] _).alloc _) (by simp)).turns ((Turns.refl [] _).alloc _) (by simp)
  · have h := ((MapAt.new (w1.alloc (.map #[] 0))).turns ((Turns.refl [] _).alloc (.map #[] 0)) (by simp)).turns ((Turns.refl [] _).alloc (roomObj (newRoom s.data.toList) w1.heap.size (w1.heap.size + 1) (w1.heap.size + 1 + 1))) (by simp)
    simpa [roomObj, newRoom, mkS_list, mkS, mapE] using h
  · have h := (MapAt.new ((w1.alloc (.map #[] 0)).alloc (.map #[] 0))).turns ((Turns.refl [] _).alloc (roomObj (newRoom s.data.toList) w1.heap.size (w1.heap.size + 1) (w1.heap.size + 1 + 1))) (by simp)
    simpa [roomObj, newRoom, mkS_list, mkS, mapE] using h
  · exact (((HB.out.alloc hz _).alloc (by simp; omega) _).alloc (by simp; omega) _).alloc (by simp; omega) _

set_option maxRecDepth 100000 in
set_option maxHeartbeats 4000000 in
theorem new_no (w : World) (hG : Glob w) (s : ByteArray) (hs : s.size ≤ 140737488351232) (hr : roomB s.data.toList = false) :
    Calls Tryz.prog 18 #[.string s] w fun e w' => e = .returned (.tuple #[.pointer none, .int .i64 92]) ∧ Below w.heap.size w w' := by
  have HI := Lib.hid (isRoom_any s hr hs w hG)
  clear hr
  go_enter Tryz.func18, Tryz.ntmps18
  go_wp2_with fail
  refine HI.out.mono ?_
  rintro e w1 ⟨rfl, hb⟩
  have HB := Lib.hid hb
  clear hb
  go_wp2_with fail
  go_ret2
  exact ⟨rfl, HB.out⟩

/-- An event lies at qe. -/
def EvAt (r : Ro) (qe : Nat) (E : Ev) (pb : Value) : Prop := r qe = some (evObjE E pb)
def memberB (E : Ev) : Bool := E.state && E.type == sMember && userB E.key
/-- Its texts are no longer than texts may be. -/
def EvOk (E : Ev) : Prop := E.id.length ≤ 1073741824 ∧ E.room.length ≤ 1073741824 ∧ E.sender.length ≤ 1073741824 ∧ E.type.length ≤ 1073741824 ∧ E.key.length ≤ 1073741824 ∧ E.redacts.length ≤ 1073741824 ∧ JOk E.body

set_option maxRecDepth 100000 in
set_option maxHeartbeats 4000000 in
theorem membership_any (r : Ro) (w : World) (hG : Glob w) (hh : Has r w) {qe : Nat} {E : Ev} {pb : Value} (he : EvAt r qe E pb) (hok : EvOk E) {b : Bool} (hb : memberB E = b) :
    Calls Tryz.prog 69 #[ptrV qe] w fun e w' => e = .returned (.bool b) ∧ Below w.heap.size w w' := by
  have c3 : w.cell? ⟨qe, 3, none⟩ = some (.string (mkS E.type)) := blk_cell (hh _ _ he) 3
  have c4 : w.cell? ⟨qe, 4, none⟩ = some (.bool E.state) := blk_cell (hh _ _ he) 4
  have c5 : w.cell? ⟨qe, 5, none⟩ = some (.string (mkS E.key)) := blk_cell (hh _ _ he) 5
  have hkl : (mkS E.key).size ≤ 140737488351232 := by rw [size_mkS]; have := hok.2.2.2.2.1; omega
  obtain ⟨st, hst⟩ : ∃ st, E.state = st := ⟨_, rfl⟩
  obtain ⟨tE, htE⟩ : ∃ t, mkS E.type = t := ⟨_, rfl⟩
  obtain ⟨ub, hub⟩ : ∃ u, userB E.key = u := ⟨_, rfl⟩
  have HU := Lib.hid (fun wx hx => isUser_is (mkS E.key) (b := ub) hub hkl wx hx)
  rw [hst] at c4
  rw [htE] at c3
  have hbb : b = (st && E.type == sMember && ub) := by rw [← hb]; unfold memberB; rw [hst, hub]
  have HBB := Lib.hid hbb
  have HG := Lib.hid hG
  clear hb hst hub he hok hbb hG hh
  cases st with
  | false =>
    have hb : b = false := by rw [HBB.out]; rfl
    subst hb
    clear htE
    go_enter Tryz.func69, Tryz.ntmps69
    go_wp2_with fail
    go_ret
    exact ⟨rfl, Below.refl _ _⟩
  | true =>
    by_cases ht : E.type = sMember
    · have htE2 : tE = mkS sMember := by rw [← htE, ht]
      subst htE2
      have hb : b = ub := by rw [HBB.out, ht]; simp
      subst hb
      clear htE ht
      unfold sMember at c3
      go_enter Tryz.func69, Tryz.ntmps69
      go_wp2_with fail
      refine (HU.out w HG.out).mono ?_
      rintro e w1 ⟨rfl, hb⟩
      have HB := Lib.hid hb
      clear hb
      cases b
      · go_wp2_with fail
        go_ret
        exact ⟨rfl, HB.out⟩
      · go_wp2_with fail
        go_ret
        exact ⟨rfl, HB.out⟩
    · have hne : (tE.toList == sMember) = false := str_ne (by rw [← htE]; exact ht)
      have hb : b = false := by rw [HBB.out]; simp [ht]
      subst hb
      clear htE ht
      unfold sMember at hne
      go_enter Tryz.func69, Tryz.ntmps69
      go_wp2_with fail
      go_ret
      exact ⟨rfl, Below.refl _ _⟩

def mayR (R : RoomSt) (E : Ev) : Int :=
  if E.room ≠ R.id then 91
  else if memberB E = true ∧ getK R.known E.key = none ∧ 60 ≤ R.known.length then 93
  else 0

theorem zeroMember (w : World) : (zeroValue 130).run Tryz.prog w = .ok (.agg #[.int .i64 0, .string ⟨#[]⟩]) w := by kernel_rfl
/-- What is found of a user. -/
def memD (o : Option (Nat × Bytes)) : Nat × Bytes := o.getD (0, [])
theorem memD_val (R : RoomSt) (k : Bytes) : (getK (mapE encMem R.known) k).getD (.agg #[.int .i64 0, .string ⟨#[]⟩]) = encMem (memD (getK R.known k)) ∧ (getK (mapE encMem R.known) k).isSome = (getK R.known k).isSome := by
  rw [mapE_get]
  cases getK R.known k <;> exact ⟨rfl, rfl⟩

set_option maxRecDepth 100000 in
set_option maxHeartbeats 4000000 in
theorem may_any (r : Ro) (w : World) (hG : Glob w) (hh : Has r w) {qe : Nat} {E : Ev} {pb : Value} (he : EvAt r qe E pb) (hok : EvOk E) {rb kb lb nb : Nat} {R : RoomSt} (hR : RoomAt w rb kb lb nb R) :
    Calls Tryz.prog 68 #[ptrV rb, ptrV qe] w fun e w' => e = .returned (.int .i64 (mayR R E)) ∧ Below w.heap.size w w' := by
  have c0 : w.cell? ⟨rb, 0, none⟩ = some (.string (mkS R.id)) := blk_cell hR.blk 0
  have c1 : w.cell? ⟨rb, 1, none⟩ = some (.map (some kb)) := blk_cell hR.blk 1
  have d1 : w.cell? ⟨qe, 1, none⟩ = some (.string (mkS E.room)) := blk_cell (hh _ _ he) 1
  have d5 : w.cell? ⟨qe, 5, none⟩ = some (.string (mkS E.key)) := blk_cell (hh _ _ he) 5
  have c0' := fun o => cell_alloc c0 o
  have c1' := fun o => cell_alloc c1 o
  have d1' := fun o => cell_alloc d1 o
  have d5' := fun o => cell_alloc d5 o
  obtain ⟨m, hm⟩ : ∃ m, memD (getK R.known E.key) = m := ⟨_, rfl⟩
  obtain ⟨is, his⟩ : ∃ b, (getK R.known E.key).isSome = b := ⟨_, rfl⟩
  have hl1 := run_look_ok (P := Tryz.prog) Tryz.underlying96 Tryz.underlying9 zeroMember (hR.known.turns ((Turns.refl [] w).drew) (by simp)) E.key
  have hl2 := fun o => run_look_ok (P := Tryz.prog) Tryz.underlying96 Tryz.underlying9 zeroMember (hR.known.turns (((Turns.refl [] w).alloc o).drew) (by simp)) E.key
  rw [(memD_val R E.key).1, (memD_val R E.key).2, hm, his] at hl1
  simp only [(memD_val R E.key).1, (memD_val R E.key).2, hm, his] at hl2
  unfold encMem at hl1 hl2
  have HM := Lib.hid hm
  have HIS := Lib.hid his
  clear hm his
  go_enter Tryz.func68, Tryz.ntmps68
  go_wp2_with fail
  go_region
  have HBA := Lib.hid (((Below.refl w.heap.size w).alloc (Nat.le_refl _) (.cells #[.int .i64 m.1, .string (mkS m.2)] 130)).drew)
  have HRA := Lib.hid (hR.below HBA.out)
  have HHA := Lib.hid (hh.below HBA.out)
  have HGA := Lib.hid (hG.below HBA.out)
  have HOK := Lib.hid hok
  have HE := Lib.hid he
  clear hl1 hl2 c0 c1 d1 d5 c0' c1' d1' d5' hR hh hG hok he
  generalize (w.alloc (.cells #[.int .i64 m.1, .string (mkS m.2)] 130)).drew = wA at *
  obtain ⟨sr, hsr⟩ : ∃ s, mkS E.room = s := ⟨_, rfl⟩
  obtain ⟨si, hsi⟩ : ∃ s, mkS R.id = s := ⟨_, rfl⟩
  have e0 : wA.cell? ⟨rb, 0, none⟩ = some (.string si) := by rw [← hsi]; exact blk_cell HRA.out.blk 0
  have f1 : wA.cell? ⟨qe, 1, none⟩ = some (.string sr) := by rw [← hsr]; exact blk_cell (HHA.out _ _ HE.out) 1
  have HSR := Lib.hid hsr
  have HSI := Lib.hid hsi
  clear hsr hsi
  have hres : mayR R E = if E.room ≠ R.id then 91 else if memberB E = true ∧ getK R.known E.key = none ∧ 60 ≤ R.known.length then 93 else 0 := rfl
  have HRES := Lib.hid hres
  clear hres
  by_cases hrm : E.room = R.id
  · have hss : sr = si := by rw [← HSR.out, ← HSI.out, hrm]
    subst hss
    have HRM := Lib.hid hrm
    clear hrm
    go_wp2_with fail
    go_quiet (fail)
    have HBB := Lib.hid (below_trans HBA.out (((Turns.refl [] wA).drewN nq).toBelow (by simp)))
    have HRB := Lib.hid (HRA.out.turns ((Turns.refl [] wA).drewN nq) (by simp) (by simp) (by simp) (by simp))
    have HHB := Lib.hid (HHA.out.turns ((Turns.refl [] wA).drewN nq) (by simp))
    have HGB := Lib.hid (HGA.out.turns ((Turns.refl [] wA).drewN nq) (by simp))
    clear e0 f1 HRA HHA HGA
    generalize wA.drewN nq = wB at *
    obtain ⟨mb, hmb⟩ : ∃ b, memberB E = b := ⟨_, rfl⟩
    have HMB := Lib.hid hmb
    have HME := Lib.hid (membership_any r wB HGB.out HHB.out HE.out HOK.out hmb)
    clear hmb
    go_wp2_with fail
    refine HME.out.mono ?_
    rintro e wC ⟨rfl, hbC⟩
    have HBC := Lib.hid (below_trans HBB.out hbC)
    have hRC := HRB.out.below hbC
    have k1 : wC.cell? ⟨rb, 1, none⟩ = some (.map (some kb)) := blk_cell hRC.blk 1
    have hlen := run_len_map (P := Tryz.prog) Tryz.underlying96 hRC.known 3
    have hll : (mapE encMem R.known).length = R.known.length := by simp [mapE]
    rw [hll] at hlen
    obtain ⟨n, hn⟩ : ∃ n, R.known.length = n := ⟨_, rfl⟩
    rw [hn] at hlen
    have HN := Lib.hid hn
    clear hbC hRC hll hn
    cases mb with
    | false =>
      go_wp2_with fail
      go_ret
      exact ⟨by rw [HRES.out, if_neg (by simp [HRM.out]), if_neg (by simp [HMB.out])]; rfl, HBC.out⟩
    | true =>
      cases is with
      | true =>
        go_wp2_with fail
        go_ret
        exact ⟨by rw [HRES.out, if_neg (by simp [HRM.out]), if_neg (by intro h; have := HIS.out; rw [h.2.1] at this; cases this)]; rfl, HBC.out⟩
      | false =>
        by_cases h60 : 60 ≤ n
        · have h60' : (60 : Int) ≤ n := by omega
          have HL := Lib.hid h60
          clear h60
          go_wp2_with fail
          go_ret
          exact ⟨by rw [HRES.out, if_neg (by simp [HRM.out]), if_pos ⟨HMB.out, by simpa using HIS.out, by rw [HN.out]; exact HL.out⟩]; rfl, HBC.out⟩
        · have h60' : (n : Int) < 60 := by omega
          have HL := Lib.hid h60
          clear h60
          go_wp2_with fail
          go_ret
          exact ⟨by rw [HRES.out, if_neg (by simp [HRM.out]), if_neg (by rw [HN.out]; intro h; exact HL.out h.2.2)]; rfl, HBC.out⟩
  · have hss : (sr.toList == si.toList) = false := by
      rw [← HSR.out, ← HSI.out, Lib.toList_data, Lib.toList_data, beq_eq_false_iff_ne]
      exact hrm
    have HRM := Lib.hid hrm
    clear hrm
    go_wp2_with fail
    go_quiet (fail)
    go_wp2_with fail
    go_ret
    exact ⟨by rw [HRES.out, if_pos HRM.out]; rfl, below_trans HBA.out (((Turns.refl [] wA).drewN nq).toBelow (by simp))⟩

end Toc

namespace Toc
open Go Go.RowKit Go.Proofs

def howOf (t : Bytes) : Nat := if t = sJoin then 1 else if t = sInvite then 2 else if t = sBan then 3 else 0
def howJ (o : Option JV) : Nat := if isTextO (getO o sMembership) then howOf (textO (getO o sMembership)) else 0
def joinsJ (o : Option JV) : Nat × Bytes := (howJ o, if howJ o = 1 then textO (getO o sDisplayname) else [])
theorem howOf_le (t : Bytes) : howOf t ≤ 3 := by
  unfold howOf
  repeat' split
  all_goals omega
theorem howJ_le (o : Option JV) : howJ o ≤ 3 := by
  unfold howJ
  split
  · exact howOf_le _
  · omega

def wordsV : Value := .agg #[.string (mkS sLeave), .string (mkS sJoin), .string (mkS sInvite), .string (mkS sBan)]
def wordsL : List ByteArray := [mkS sLeave, mkS sJoin, mkS sInvite, mkS sBan]
theorem idx_words (t : Bytes) : max (Lib.idxOfS (wordsL.take 4) (mkS t)) 0 = (howOf t : Int) ∧ -1 ≤ Lib.idxOfS (wordsL.take 4) (mkS t) ∧ Lib.idxOfS (wordsL.take 4) (mkS t) ≤ 3 := by
  have hne : sLeave ≠ sJoin ∧ sLeave ≠ sInvite ∧ sLeave ≠ sBan ∧ sJoin ≠ sInvite ∧ sJoin ≠ sBan ∧ sInvite ≠ sBan := by decide
  obtain ⟨n1, n2, n3, n4, n5, n6⟩ := hne
  have hb : ∀ x y : Bytes, (mkS x = mkS y) ↔ x = y := fun x y => ⟨mkS_inj, fun h => by rw [h]⟩
  unfold howOf wordsL Lib.idxOfS
  simp only [List.take_succ_cons, List.take_zero, Lib.idxFromS, hb]
  by_cases h0 : t = sLeave
  · subst h0; simp [n1, n2, n3]
  by_cases h1 : t = sJoin
  · subst h1; simp [n1]; rfl
  by_cases h2 : t = sInvite
  · subst h2; simp [n2, n4, n4.symm]; rfl
  by_cases h3 : t = sBan
  · subst h3; simp [n3, n5, n6, n5.symm, n6.symm]; rfl
  simp [h1, h2, h3, Ne.symm h0, Ne.symm h1, Ne.symm h2, Ne.symm h3]; rfl

set_option maxRecDepth 100000 in
set_option maxHeartbeats 4000000 in
theorem words_any (w : World) : Calls Tryz.prog 75 #[] w fun e w' => e = .returned wordsV ∧ Below w.heap.size w w' := by
  go_enter Tryz.func75, Tryz.ntmps75
  go_wp2
  refine bodyPost_ret (v := wordsV) (by simp [results, Tryz.results75, go_sem]; rfl) rfl ⟨rfl, (Below.refl _ _).alloc (Nat.le_refl _) _⟩

set_option maxRecDepth 100000 in
set_option maxHeartbeats 4000000 in
theorem joins_any (r : Ro) (w : World) (hh : Has r w) {pv : Value} {o : Option JV} (hp : PV r pv o) (hok : OkO o) :
    Calls Tryz.prog 70 #[pv] w fun e w' => e = .returned (encMem (joinsJ o)) ∧ Below w.heap.size w w' := by
  have HH := Lib.hid hh
  have HP := Lib.hid hp
  have HOK := Lib.hid hok
  clear hh hp hok
  go_enter Tryz.func70, Tryz.ntmps70
  go_wp2_with fail
  refine (words_any _).mono ?_
  rintro e w1 ⟨rfl, hb1⟩
  have hz1 := hb1.size
  simp at hz1
  have hm2 : w1.heap[w.heap.size]? = some (.cells #[.int .i64 0, .string ⟨#[]⟩] 130 (0, 0)) := (hb1.block _ (by simp; omega)).trans (blk_old (blk_new w _) _)
  have hm3 : w1.heap[w.heap.size + 1]? = some (.cells #[.int .i64 0, .string ⟨#[]⟩] 130 (0, 0)) := (hb1.block _ (by simp)).trans (by have := blk_new (w.alloc (.cells #[.int .i64 0, .string ⟨#[]⟩] 130)) (.cells #[.int .i64 0, .string ⟨#[]⟩] 130); simpa using this)
  have hB1 : Below w.heap.size w w1 := ((((Below.refl _ w).alloc (Nat.le_refl _) (.cells #[.int .i64 0, .string ⟨#[]⟩] 130)).alloc (by simp) (.cells #[.int .i64 0, .string ⟨#[]⟩] 130)).trans (hb1.mono (by simp; omega)))
  have HBW := Lib.hid (hB1.alloc (by omega) (.cells #[.string (mkS sLeave), .string (mkS sJoin), .string (mkS sInvite), .string (mkS sBan)] 139))
  have HM2 := Lib.hid (blk_old hm2 (.cells #[.string (mkS sLeave), .string (mkS sJoin), .string (mkS sInvite), .string (mkS sBan)] 139))
  have HM3 := Lib.hid (blk_old hm3 (.cells #[.string (mkS sLeave), .string (mkS sJoin), .string (mkS sInvite), .string (mkS sBan)] 139))
  have HMW := Lib.hid (blk_new w1 (.cells #[.string (mkS sLeave), .string (mkS sJoin), .string (mkS sInvite), .string (mkS sBan)] 139))
  have hzw : w.heap.size + 2 ≤ w1.heap.size := by omega
  clear hm2 hm3 hB1 hb1 hz1
  unfold wordsV
  go_wp2_with fail
  generalize w1.heap.size = bw at *
  generalize w1.alloc (.cells #[.string (mkS sLeave), .string (mkS sJoin), .string (mkS sInvite), .string (mkS sBan)] 139) = wW at *
  obtain ⟨om, hom⟩ : ∃ om, getO o sMembership = om := ⟨_, rfl⟩
  have HT := Lib.hid (rtext_any r wW (HH.out.below HBW.out) HP.out HOK.out (mkS sMembership) (o' := om) hom)
  have HOM := Lib.hid hom
  clear hom
  refine HT.out.mono ?_
  rintro e w3 ⟨rfl, hb3⟩
  have hq2 := (hb3.block _ (blk_lt HM2.out)).trans HM2.out
  have hq3 := (hb3.block _ (blk_lt HM3.out)).trans HM3.out
  have hqw := (hb3.block _ (blk_lt HMW.out)).trans HMW.out
  have HB3 := Lib.hid (below_trans HBW.out hb3)
  have HQ2 := Lib.hid hq2
  have HQ3 := Lib.hid hq3
  have c20 : w3.cell? ⟨w.heap.size, 0, none⟩ = some (.int .i64 0) := blk_cell hq2 0
  have c21 : w3.cell? ⟨w.heap.size, 1, none⟩ = some (.string ⟨#[]⟩) := blk_cell hq2 1
  have c30 : w3.cell? ⟨w.heap.size + 1, 0, none⟩ = some (.int .i64 0) := blk_cell hq3 0
  have c31 : w3.cell? ⟨w.heap.size + 1, 1, none⟩ = some (.string ⟨#[]⟩) := blk_cell hq3 1
  have z20 := blk_free hq2 0
  have z21 := blk_free hq2 1
  have z30 := blk_free hq3 0
  have z31 := blk_free hq3 1
  cases hto : isTextO om with
  | false =>
    have HJ := Lib.hid (show joinsJ o = (0, []) by unfold joinsJ howJ; rw [HOM.out, hto]; rfl)
    clear hb3 hq2 hq3 hqw hto
    go_wp2_with fail
    refine bodyPost_ret (v := .agg #[.int .i64 0, .string ⟨#[]⟩]) (by simp [results, Tryz.results70, go_sem, blk_cell (blk_set (blk_set HQ2.out 0 (.int .i64 0)) 1 (.string ⟨#[]⟩))]) rfl ⟨?_, ?_⟩
    · rw [HJ.out]; rfl
    · exact (HB3.out.setCell (by simp) _).setCell (by simp) _
  | true =>
    have HI := Lib.hid (Tryz.slices_Index_string bw 0 4 4 wordsL (mkS (textO om)) w3 (by simp [wordsL]) (by omega) (fun j hj => by
      rw [blk_cell hqw]
      simp only [wordsL, List.length_cons, List.length_nil] at hj
      obtain rfl | rfl | rfl | rfl : j = 0 ∨ j = 1 ∨ j = 2 ∨ j = 3 := by omega
      all_goals rfl))
    obtain ⟨i1, i2, i3⟩ := idx_words (textO om)
    obtain ⟨n, hn⟩ : ∃ n, Lib.idxOfS (wordsL.take 4) (mkS (textO om)) = n := ⟨_, rfl⟩
    rw [hn] at HI i1 i2 i3
    clear hb3 hq2 hq3 hqw hn
    go_wp2_with fail
    refine HI.out.mono ?_
    rintro e w4 ⟨rfl, rfl⟩
    obtain ⟨h, hh⟩ : ∃ h, max n 0 = h := ⟨_, rfl⟩
    have HMX := Lib.hid hh
    have HHW := Lib.hid (show howJ o = howOf (textO om) by unfold howJ; rw [HOM.out, if_pos hto])
    have HHI := Lib.hid (i1.symm.trans hh)
    clear i1 hh
    by_cases h1 : howOf (textO om) = 1
    · have hm1 : (max n 0 == 1) = true := by rw [HMX.out, ← HHI.out, h1]; rfl
      have HJ := Lib.hid (show joinsJ o = (1, textO (getO o sDisplayname)) by unfold joinsJ; rw [HHW.out, h1]; rfl)
      obtain ⟨od, hod⟩ : ∃ od, getO o sDisplayname = od := ⟨_, rfl⟩
      have HOD := Lib.hid hod
      have hq4 := blk_set HQ3.out 0 (.int .i64 (max n 0))
      have HQ4 := Lib.hid hq4
      have HQ42 := Lib.hid ((blk_set_other (show w.heap.size ≠ w.heap.size + 1 by omega) 0 (.int .i64 (max n 0))).trans HQ2.out)
      have HB4 := Lib.hid (HB3.out.setCell (p := ⟨w.heap.size + 1, 0, none⟩) (by simp) (.int .i64 (max n 0)))
      have HT2 := Lib.hid (rtext_any r _ (HH.out.below HB4.out) HP.out HOK.out (mkS sDisplayname) (o' := od) hod)
      have HM1 : Hid (max n 0 = 1) := Lib.hid (by simpa using hm1)
      clear h1 hod hq4
      go_wp2_with fail
      refine HT2.out.mono ?_
      rintro e w5 ⟨rfl, hb5⟩
      have g3 := (hb5.block _ (blk_lt HQ4.out)).trans HQ4.out
      have g2 := (hb5.block _ (blk_lt HQ42.out)).trans HQ42.out
      have HB5 := Lib.hid (below_trans HB4.out hb5)
      have G2 := Lib.hid g2
      have k20 : w5.cell? ⟨w.heap.size, 0, none⟩ = some (.int .i64 0) := blk_cell g2 0
      have k21 : w5.cell? ⟨w.heap.size, 1, none⟩ = some (.string ⟨#[]⟩) := blk_cell g2 1
      have k30 : w5.cell? ⟨w.heap.size + 1, 0, none⟩ = some (.int .i64 (max n 0)) := blk_cell g3 0
      have k31 : w5.cell? ⟨w.heap.size + 1, 1, none⟩ = some (.string ⟨#[]⟩) := blk_cell g3 1
      have y20 := blk_free g2 0
      have y21 := blk_free g2 1
      have y30 := blk_free g3 0
      have y31 := blk_free g3 1
      clear hb5 g2 g3
      go_wp2_with fail
      refine bodyPost_ret (v := .agg #[.int .i64 (max n 0), .string (mkS (textO od))]) (by simp [results, Tryz.results70, go_sem, blk_cell (blk_set (blk_set ((blk_set_other (show w.heap.size ≠ w.heap.size + 1 by omega) 1 (.string (mkS (textO od)))).trans G2.out) 0 (.int .i64 (max n 0))) 1 (.string (mkS (textO od))))]) rfl ⟨?_, ?_⟩
      · rw [HJ.out, HM1.out, HOD.out]; rfl
      · exact ((HB5.out.setCell (by simp) _).setCell (by simp) _).setCell (by simp) _
    · have hm1 : (max n 0 == 1) = false := by rw [HMX.out, ← HHI.out]; simp; omega
      have HJ := Lib.hid (show joinsJ o = (howOf (textO om), []) by unfold joinsJ; rw [HHW.out, if_neg h1])
      have HI1 : Hid (max n 0 = (howOf (textO om) : Int)) := Lib.hid (by rw [HMX.out, HHI.out])
      clear h1
      go_wp2_with fail
      refine bodyPost_ret (v := .agg #[.int .i64 (max n 0), .string ⟨#[]⟩]) (by simp [results, Tryz.results70, go_sem, blk_cell (blk_set (blk_set ((blk_set_other (show w.heap.size ≠ w.heap.size + 1 by omega) 0 (.int .i64 (max n 0))).trans HQ2.out) 0 (.int .i64 (max n 0))) 1 (.string ⟨#[]⟩))]) rfl ⟨?_, ?_⟩
      · rw [HJ.out, HI1.out]; rfl
      · exact ((HB3.out.setCell (by simp) _).setCell (by simp) _).setCell (by simp) _

end Toc

namespace Toc
open Go Go.RowKit Go.Proofs

theorem neq_member (a b : Int) (s t : ByteArray) (w : World) : (binOp .neq 130 (.agg #[.int .i64 a, .string s]) (.agg #[.int .i64 b, .string t])).run Tryz.prog w = .ok (.bool (!(a == b && s.toList == t.toList))) w := by
  simp [go_sem, Tryz.underlying130]
  by_cases h1 : a = b
  · by_cases h2 : s.toList = t.toList
    · simp [h1, h2]
    · simp [h1, h2]
  · simp [h1]

def changedM (o : Option (Nat × Bytes)) (m : Nat × Bytes) : Bool := match o with | none => true | some x => x.1 != m.1 || x.2 != m.2
def contentO (E : Ev) : Option JV := getJ E.body sContent
def applyM (R : RoomSt) (E : Ev) : RoomSt := { R with known := putK R.known E.key (joinsJ (contentO E)) }

/-- The event's body is a value. -/
def EvV (r : Ro) (qe : Nat) (E : Ev) : Prop := ∃ bq, EvAt r qe E (ptrV bq) ∧ IsV r bq E.body

set_option maxRecDepth 100000 in
set_option maxHeartbeats 4000000 in
theorem apply_member (r : Ro) (w : World) (hG : Glob w) (hh : Has r w) {qe : Nat} {E : Ev} (he : EvV r qe E) (hok : EvOk E) {rb kb lb nb : Nat} {R : RoomSt} (hR : RoomAt w rb kb lb nb R) (hrk : r kb = none) (_hkb : gTop ≤ kb) (hmay : mayR R E = 0) (hmem : memberB E = true) :
    Calls Tryz.prog 27 #[ptrV rb, ptrV qe] w fun e w' => e = .returned (.tuple #[.bool (changedM (getK R.known E.key) (joinsJ (contentO E))), .int .i64 0]) ∧ RoomAt w' rb kb lb nb (applyM R E) ∧ Turns [kb] w w' := by
  obtain ⟨bq, hea, hev⟩ := he
  have HMY := Lib.hid (may_any r w hG hh hea hok hR)
  rw [hmay] at HMY
  have HE := Lib.hid hea
  have HV := Lib.hid hev
  have HOK := Lib.hid hok
  have HH := Lib.hid hh
  have HR := Lib.hid hR
  have HG := Lib.hid hG
  have HMEM := Lib.hid hmem
  have HRK := Lib.hid hrk
  have hpv : PV r (ptrV bq) (some E.body) := ⟨bq, rfl, hev⟩
  have hok1 : OkO (some E.body) := fun x hx => by cases hx; exact hok.2.2.2.2.2.2
  have HPV := Lib.hid hpv
  have HOK1 := Lib.hid hok1
  clear hea hev hok hh hR hG hmem hmay hpv hok1 hrk
  go_enter Tryz.func27, Tryz.ntmps27
  go_wp2_with fail
  refine HMY.out.mono ?_
  rintro e w1 ⟨rfl, hb1⟩
  have HB1 := Lib.hid hb1
  have d7 : w1.cell? ⟨qe, 7, none⟩ = some (ptrV bq) := blk_cell ((HH.out.below hb1) _ _ HE.out) 7
  obtain ⟨oc, hoc⟩ : ∃ oc, getO (some E.body) sContent = oc := ⟨_, rfl⟩
  have hgc := get_any r w1 (HH.out.below hb1) HPV.out HOK1.out (mkS sContent)
  rw [list_mkS, hoc] at hgc
  have HGC := Lib.hid hgc
  have HOC := Lib.hid (show contentO E = oc from hoc)
  have HOKC := Lib.hid (show OkO oc by rw [← hoc]; exact getO_ok HOK1.out)
  clear hb1 hoc hgc
  go_wp2_with fail
  refine HGC.out.mono ?_
  rintro e w2 ⟨pc, rfl, hpc, hb2⟩
  have HB2 := Lib.hid (below_trans HB1.out hb2)
  have HPC := Lib.hid hpc
  have HME := Lib.hid (membership_any r w2 (HG.out.below HB2.out) (HH.out.below HB2.out) HE.out HOK.out HMEM.out)
  clear hb2 hpc d7
  go_wp2_with fail
  refine HME.out.mono ?_
  rintro e w3 ⟨rfl, hb3⟩
  have HB3 := Lib.hid (below_trans HB2.out hb3)
  have hR3 := HR.out.below HB3.out
  have HR3 := Lib.hid hR3
  have HH3 := Lib.hid (HH.out.below HB3.out)
  have c1 : w3.cell? ⟨rb, 1, none⟩ = some (.map (some kb)) := blk_cell hR3.blk 1
  have d5 : w3.cell? ⟨qe, 5, none⟩ = some (.string (mkS E.key)) := blk_cell (HH3.out _ _ HE.out) 5
  have c1' := fun o => cell_alloc c1 o
  have d5' := fun o => cell_alloc d5 o
  obtain ⟨m, hm⟩ : ∃ m, memD (getK R.known E.key) = m := ⟨_, rfl⟩
  obtain ⟨is, his⟩ : ∃ b, (getK R.known E.key).isSome = b := ⟨_, rfl⟩
  have hl1 := run_look_ok (P := Tryz.prog) Tryz.underlying96 Tryz.underlying9 zeroMember (hR3.known.turns ((Turns.refl [] w3).drew) (by simp)) E.key
  have hl2 := fun o => run_look_ok (P := Tryz.prog) Tryz.underlying96 Tryz.underlying9 zeroMember (hR3.known.turns (((Turns.refl [] w3).alloc o).drew) (by simp)) E.key
  rw [(memD_val R E.key).1, (memD_val R E.key).2, hm, his] at hl1
  simp only [(memD_val R E.key).1, (memD_val R E.key).2, hm, his] at hl2
  unfold encMem at hl1 hl2
  have HM := Lib.hid hm
  have HIS := Lib.hid his
  clear hm his hb3 hR3
  go_wp2_with fail
  go_region
  have HBA := Lib.hid ((HB3.out.alloc HB3.out.size (.cells #[.int .i64 m.1, .string (mkS m.2)] 130)).drew)
  have HMA := Lib.hid (show ((w3.alloc (.cells #[.int .i64 m.1, .string (mkS m.2)] 130)).drew).heap[w3.heap.size]? = some (.cells #[.int .i64 m.1, .string (mkS m.2)] 130 (0, 0)) from blk_new w3 _)
  have hw3 := HB3.out.size
  clear hl1 hl2 c1 d5 c1' d5' HR3 HH3
  generalize (w3.alloc (.cells #[.int .i64 m.1, .string (mkS m.2)] 130)).drew = wA at *
  generalize w3.heap.size = bm at *
  have HJ := Lib.hid (joins_any r wA (HH.out.below HBA.out) HPC.out HOKC.out)
  obtain ⟨j, hj⟩ : ∃ j, joinsJ oc = j := ⟨_, rfl⟩
  rw [hj] at HJ
  have HJJ := Lib.hid (show joinsJ (contentO E) = j by rw [HOC.out, hj])
  clear hj
  go_wp2_with fail
  refine HJ.out.mono ?_
  rintro e w4 ⟨rfl, hb4⟩
  have hz4 := hb4.size
  have hbm := blk_lt HMA.out
  have HBB := Lib.hid ((below_trans HBA.out hb4).alloc (Nat.le_trans HBA.out.size hz4) (.cells #[.int .i64 j.1, .string (mkS j.2)] 130))
  have HMB := Lib.hid (blk_old ((hb4.block _ hbm).trans HMA.out) (.cells #[.int .i64 j.1, .string (mkS j.2)] 130))
  have HJB := Lib.hid (blk_new w4 (.cells #[.int .i64 j.1, .string (mkS j.2)] 130))
  have hw4 := Nat.le_trans HBA.out.size hz4
  clear hb4 hz4 hbm
  unfold encMem
  go_wp2_with fail
  generalize w4.heap.size = bj at *
  generalize w4.alloc (.cells #[.int .i64 j.1, .string (mkS j.2)] 130) = wB at *
  have hRB := HR.out.below HBB.out
  have c1 : wB.cell? ⟨rb, 1, none⟩ = some (.map (some kb)) := blk_cell hRB.blk 1
  have d5 : wB.cell? ⟨qe, 5, none⟩ = some (.string (mkS E.key)) := blk_cell ((HH.out.below HBB.out) _ _ HE.out) 5
  have j0 : wB.cell? ⟨bj, 0, none⟩ = some (.int .i64 j.1) := blk_cell HJB.out 0
  have j1 : wB.cell? ⟨bj, 1, none⟩ = some (.string (mkS j.2)) := blk_cell HJB.out 1
  obtain ⟨wC, hrun, hmC, htC⟩ := run_put (P := Tryz.prog) Tryz.underlying96 Tryz.underlying9 (hRB.known.turns ((Turns.refl [] wB).drew) (by simp)) E.key (encMem j)
  rw [mapE_put] at hmC
  unfold encMem at hrun
  have hkl := hRB.known.lt
  have hne := hRB.map_ne
  have htC' : Turns [kb] wB wC := ((Turns.refl [kb] wB).drew).trans htC
  have hRC : RoomAt wC rb kb lb nb (applyM R E) := by
    refine ⟨htC'.heap hRB.blk (by simp; exact hne.1), ?_, hRB.levels.turns htC' (by simp; exact hRB.n1.symm), hRB.needs.turns htC' (by simp; exact hRB.n2.symm), hRB.n1, hRB.n2, hRB.n3⟩
    unfold applyM; rw [HJJ.out]; exact hmC
  have hkw : kb < w.heap.size := HR.out.known.lt
  have hTC := (Turns.below (S := [kb]) HBB.out).trans htC'
  have m0 : wC.cell? ⟨bm, 0, none⟩ = some (.int .i64 m.1) := blk_cell (htC'.heap HMB.out (by simp; omega)) 0
  have m1 : wC.cell? ⟨bm, 1, none⟩ = some (.string (mkS m.2)) := blk_cell (htC'.heap HMB.out (by simp; omega)) 1
  have n0 : wC.cell? ⟨bj, 0, none⟩ = some (.int .i64 j.1) := blk_cell (htC'.heap HJB.out (by simp; omega)) 0
  have n1 : wC.cell? ⟨bj, 1, none⟩ = some (.string (mkS j.2)) := blk_cell (htC'.heap HJB.out (by simp; omega)) 1
  have HRC := Lib.hid hRC
  have HTC := Lib.hid hTC
  have hnm := neq_member j.1 m.1 (mkS j.2) (mkS m.2) wC
  clear hRB hmC htC htC' hkl hne hRC hTC
  go_still_tail 9, (by kernel_rfl)
  change wpList _ _ _ _ _ wB.drew
  cases is with
  | false =>
    have HCH := Lib.hid (show changedM (getK R.known E.key) (joinsJ (contentO E)) = true by
      have := HIS.out
      cases hg : getK R.known E.key with
      | none => rfl
      | some x => rw [hg] at this; cases this)
    go_wp2_with fail
    go_ret2
    exact ⟨by rw [HCH.out]; rfl, HRC.out, HTC.out⟩
  | true =>
    have HCH := Lib.hid (show changedM (getK R.known E.key) (joinsJ (contentO E)) = !((j.1 : Int) == m.1 && (mkS j.2).toList == (mkS m.2).toList) by
      have h1 := HIS.out
      have h2 := HM.out
      cases hg : getK R.known E.key with
      | none => rw [hg] at h1; cases h1
      | some x =>
        rw [hg] at h2
        have : x = m := h2
        subst this
        rw [HJJ.out, Lib.toList_data, Lib.toList_data]
        show (x.1 != j.1 || x.2 != j.2) = _
        rw [Bool.eq_iff_iff]
        simp only [Bool.or_eq_true, bne_iff_ne, Bool.not_eq_true', Bool.and_eq_false_iff, beq_eq_false_iff_ne, ne_eq]
        constructor
        · rintro (h | h)
          · exact .inl (by omega)
          · exact .inr (fun e => h e.symm)
        · rintro (h | h)
          · exact .inl (by omega)
          · exact .inr (fun e => h e.symm))
    clear hnm
    go_wp2_with fail
    all_goals
      go_ret2
      refine ⟨?_, HRC.out, HTC.out⟩
      rw [HCH.out]
      simp [*]

end Toc
