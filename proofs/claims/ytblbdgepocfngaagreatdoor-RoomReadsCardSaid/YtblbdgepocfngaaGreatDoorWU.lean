/-
  Rget: The document's values (tocsinref02): kind, text, get; is.
  RreadEv: The reference's ReadEvent (tocsinref09), of the document's values: readEv.
  Rquote: The document's digits and quote: the walks. Printed by tools/rqgen.py.
-/
import Derived.Test.YtblbdgepocfngaaGreatDoorWQ
import Derived.Test.YtblbdgepocfngaaGreatDoorWA
import Derived.Test.YtblbdgepocfngaaGreatDoorWG
import Derived.Deep.DeepCutAuto
import Derived.Test.YtblbdgepocfngaaGreatDoorWR
import Derived.Test.YtblbdgepocfngaaGreatDoorWP
import Derived.Lib.ItoaLen
namespace Toc
open Go Go.RowKit Go.Proofs

/-- A pointer to a value of the document's, or nil. -/
def PR (r : Ro) (pv : Option Addr) (o : Option JV) : Prop := match o with | none => pv = none | some v => ∃ q, pv = some ⟨q, 0, none⟩ ∧ IsR r q v
theorem PR.cases {r : Ro} {pv : Option Addr} {o : Option JV} (h : PR r pv o) : (pv = none ∧ o = none) ∨ ∃ q v, pv = some ⟨q, 0, none⟩ ∧ o = some v ∧ IsR r q v := by
  cases o with
  | none => exact .inl ⟨h, rfl⟩
  | some v => obtain ⟨q, h1, h2⟩ := h; exact .inr ⟨q, v, h1, rfl, h2⟩
theorem PR.isNone {r : Ro} {pv : Option Addr} {o : Option JV} (h : PR r pv o) : pv.isSome = o.isSome := by
  rcases h.cases with ⟨rfl, rfl⟩ | ⟨q, v, rfl, rfl, _⟩ <;> rfl

theorem IsR.blk {r : Ro} {q : Nat} {v : JV} (h : IsR r q v) : ∃ sv kv, r q = some (rvObj (kindJ v) (truthJ v) (numJ v) (mkS (textJ v)) sv kv) := by
  cases h with
  | null h => exact ⟨_, _, h⟩
  | bool h => exact ⟨_, _, h⟩
  | int h => exact ⟨_, _, h⟩
  | text h => exact ⟨_, _, h⟩
  | list h => exact ⟨_, _, h⟩
  | obj h => exact ⟨_, _, h⟩

set_option maxRecDepth 100000 in
set_option maxHeartbeats 1000000 in
theorem rkind_any (r : Ro) (w : World) (hh : Has r w) {pv : Option Addr} {o : Option JV} (hp : PR r pv o) {k : Int} (hk : (kindO o : Int) = k) :
    Calls Tryz.prog 183 #[.pointer pv] w fun e w' => e = .returned (.int .i64 k) ∧ w = w' := by
  subst hk
  rcases hp.cases with ⟨rfl, rfl⟩ | ⟨q, v, rfl, rfl, hv⟩
  · go_enter Tryz.func183, Tryz.ntmps183
    go_wp2_with fail
    go_ret
    exact ⟨rfl, rfl⟩
  · obtain ⟨sv, mv, hb⟩ := hv.blk
    have c0 : w.cell? ⟨q, 0, none⟩ = some (.int .i64 (kindJ v)) := blk_cell (hh _ _ hb) 0
    have hk : ∃ k : Int, (kindJ v : Int) = k := ⟨_, rfl⟩
    obtain ⟨k, hk⟩ := hk
    have hko : (kindO (some v) : Int) = k := hk
    rw [hk] at c0
    rw [hko]
    clear hb hv hk hko hh hp
    go_enter Tryz.func183, Tryz.ntmps183
    go_wp2_with fail
    go_ret
    exact ⟨rfl, rfl⟩

set_option maxRecDepth 100000 in
set_option maxHeartbeats 1000000 in
theorem rtextv_any (r : Ro) (w : World) (hh : Has r w) {pv : Option Addr} {o : Option JV} (hp : PR r pv o) {s : ByteArray} (hs : mkS (textO o) = s) :
    Calls Tryz.prog 160 #[.pointer pv] w fun e w' => e = .returned (.string s) ∧ w = w' := by
  subst hs
  rcases hp.cases with ⟨rfl, rfl⟩ | ⟨q, v, rfl, rfl, hv⟩
  · go_enter Tryz.func160, Tryz.ntmps160
    go_wp2_with fail
    go_ret
    exact ⟨rfl, rfl⟩
  · obtain ⟨sv, mv, hb⟩ := hv.blk
    obtain ⟨s, hs⟩ : ∃ s, mkS (textJ v) = s := ⟨_, rfl⟩
    have c0 : w.cell? ⟨q, 3, none⟩ = some (.string s) := by rw [← hs]; exact blk_cell (hh _ _ hb) 3
    have hso : mkS (textO (some v)) = s := hs
    rw [hso]
    clear hb hv hs hso hh hp
    go_enter Tryz.func160, Tryz.ntmps160
    go_wp2_with fail
    go_ret
    exact ⟨rfl, rfl⟩

/-- One of a kind. -/
def isO (o : Option JV) (k : Int) : Bool := o.isSome && ((kindO o : Int) == k)
set_option maxRecDepth 100000 in
set_option maxHeartbeats 1000000 in
theorem ris_any (r : Ro) (w : World) (hh : Has r w) {pv : Option Addr} {o : Option JV} (hp : PR r pv o) (k : Int) {b : Bool} (hb : isO o k = b) :
    Calls Tryz.prog 158 #[.pointer pv, .int .i64 k] w fun e w' => e = .returned (.bool b) ∧ w = w' := by
  obtain ⟨k', hk'⟩ : ∃ k' : Int, (kindO o : Int) = k' := ⟨_, rfl⟩
  have HK := Lib.hid (rkind_any r w hh hp hk')
  rcases hp.cases with ⟨rfl, rfl⟩ | ⟨q, v, rfl, rfl, hv⟩
  · have hb2 : b = false := hb.symm
    subst hb2
    clear hb hh hp hk'
    go_enter Tryz.func158, Tryz.ntmps158
    go_wp2_with fail
    go_ret
    exact ⟨rfl, rfl⟩
  · have hb2 : (k' == k) = b := by rw [← hk', ← hb]; rfl
    clear hb hh hp hk' hv
    go_enter Tryz.func158, Tryz.ntmps158
    go_wp2_with fail
    refine HK.out.mono ?_
    rintro e w1 ⟨rfl, rfl⟩
    go_wp2_with fail
    go_ret
    exact ⟨rfl, rfl⟩

/-- The members of a value. -/
def membersJ : JV → List (Bytes × JV) | .obj l => l | _ => []
theorem getK_scan {α : Type} {l : List (Bytes × α)} (k : Bytes) {i : Nat} (hno : ∀ j, j < i → ∀ p, l[j]? = some p → p.1 ≠ k) : ∀ p, l[i]? = some p → p.1 = k → getK l k = some p.2 := by
  intro p hp hk
  induction l generalizing i with
  | nil => simp at hp
  | cons x xs ih =>
    cases i with
    | zero =>
      simp only [List.getElem?_cons_zero, Option.some.injEq] at hp
      subst hp
      unfold getK
      simp [hk]
    | succ i =>
      have hx : x.1 ≠ k := hno 0 (by omega) x rfl
      rw [List.getElem?_cons_succ] at hp
      have := ih (i := i) (fun j hj p hp => hno (j + 1) (by omega) p (by rw [List.getElem?_cons_succ]; exact hp)) hp
      unfold getK at this ⊢
      rw [List.find?_cons]
      have hb : (x.1 == k) = false := by simpa using hx
      rw [hb]; exact this
theorem getK_scan_none {α : Type} {l : List (Bytes × α)} (k : Bytes) (hno : ∀ p ∈ l, p.1 ≠ k) : getK l k = none := by
  unfold getK
  rw [List.find?_eq_none.2 (fun p hp => by simpa using hno p hp)]; rfl

set_option maxRecDepth 100000 in
set_option maxHeartbeats 4000000 in
theorem rget_any (r : Ro) (w : World) (hh : Has r w) {q : Nat} {l : List (Bytes × JV)} (hv : IsR r q (.obj l)) (hl : l.length ≤ 1048576) (key : ByteArray) {o : Option JV} (ho : getK l key.data.toList = o) :
    Calls Tryz.prog 159 #[ptrV q, .string key] w fun e w' => w = w' ∧ ∃ pv, e = .returned (.pointer pv) ∧ PR r pv o := by
  cases hv with
  | @obj _ _ qs sv kv hb h2 h3 hql hvs =>
  have hb' := hh _ _ hb
  unfold rvObj at hb'
  have c4 : w.cell? ⟨q, 4, none⟩ = some sv := blk_cell hb' 4
  have c5 : w.cell? ⟨q, 5, none⟩ = some kv := blk_cell hb' 5
  obtain ⟨n, hn⟩ : ∃ n, l.length = n := ⟨_, rfl⟩
  have hform : ∀ {v : Value} {n : Nat} {xs : List Value}, RowR r v n xs → ∃ a c, v = .slice a n c ∧ n ≤ c := fun h => by
    rcases h with ⟨h0, _, h⟩ | ⟨g, off, cap, arr, T, fr, h, hc, _⟩
    · exact ⟨none, 0, by rw [h, h0], by omega⟩
    · exact ⟨_, cap, h, hc⟩
  obtain ⟨ka, kc, hkv, hkc⟩ := hform h3
  obtain ⟨sa, sc, hsv, hsc⟩ := hform h2
  rw [hn] at hkv hkc hl hsv hsc
  subst hkv
  rw [hn] at h3 h2
  have HK := Lib.hid h3
  have HS := Lib.hid h2
  have HQL := Lib.hid (hql.trans hn)
  have HN := Lib.hid hn
  have HH := Lib.hid hh
  have HO := Lib.hid ho
  have HV := Lib.hid hvs
  clear hb hb' h2 h3 ho hh hvs hform
  go_enter Tryz.func159, Tryz.ntmps159
  go_wp2_with fail
  go_loopw [5] (fun s5 wr => ∃ j : Nat, s5 = .int .i64 j ∧ j ≤ n ∧ (∀ i, i < j → ∀ p, l[i]? = some p → p.1 ≠ key.data.toList) ∧ wr = w) (fun s5 _ => match s5 with | .int _ x => n - x.toNat | _ => 0)
  case atStart => exact ⟨0, rfl, Nat.zero_le _, (fun i hi => by omega), rfl⟩
  case round =>
    obtain ⟨j, rfl, hj, hno, rfl⟩ := hrel
    have HNO := Lib.hid hno
    clear hno
    by_cases hlt : j < n
    · obtain ⟨m, hm⟩ : ∃ m, l[j]? = some m := ⟨_, List.getElem?_eq_getElem (by have := HN.out; omega)⟩
      obtain ⟨g, off, cur, hgb, hka, hcell⟩ := row_form HH.out HK.out (by omega)
      subst hka
      have hc := hcell j (.string (mkS m.1)) (by rw [List.getElem?_map, hm]; rfl)
      obtain ⟨sm, hsm⟩ : ∃ x, mkS m.1 = x := ⟨_, rfl⟩
      rw [hsm] at hc
      have hsml : sm.data.toList = m.1 := by rw [← hsm, list_mkS]
      obtain ⟨b, hb⟩ : ∃ b, (sm.toList == key.toList) = b := ⟨_, rfl⟩
      have hbm : (m.1 == key.data.toList) = b := by rw [← hb, Lib.toList_data, Lib.toList_data, hsml]
      have HM := Lib.hid hm
      have HBM := Lib.hid hbm
      clear hm hgb hcell hsm hsml hbm
      cases b with
      | false =>
        go_wp2_with fail
        go_roundw
        case rel =>
          refine ⟨j + 1, by simp, hlt, (fun i hi p hp => ?_), by first | rfl | trivial⟩
          by_cases hij : i = j
          · subst hij; rw [HM.out] at hp; cases hp; have := HBM.out; simpa using this
          · exact HNO.out i (by omega) p hp
        case measure => simp; omega
      | true =>
        have hke : m.1 = key.data.toList := by have := HBM.out; simpa using this
        obtain ⟨qv, hqv⟩ : ∃ qv, qs[j]? = some qv := ⟨_, List.getElem?_eq_getElem (by have := HQL.out; omega)⟩
        have hs2 : RowR r (.slice sa n sc) n (qs.map ptrV) := by have := HS.out; rw [hsv] at this; exact this
        obtain ⟨g2, off2, cur2, hgb2, hsa, hcell2⟩ := row_form HH.out hs2 (by omega)
        subst hsa
        subst hsv
        have hc2 := hcell2 j (ptrV qv) (by rw [List.getElem?_map, hqv]; rfl)
        have hoo : o = some m.2 := by rw [← HO.out]; exact getK_scan _ HNO.out m HM.out hke
        have hvm : IsR r qv m.2 := by
          have h1 := HV.out j (by have := HQL.out; omega) (by have := HN.out; omega)
          have h2 := HM.out
          rw [List.getElem?_eq_getElem (by have := HN.out; omega)] at h2
          rw [List.getElem?_eq_getElem (by have := HQL.out; omega)] at hqv
          rw [Option.some.inj h2, Option.some.inj hqv] at h1
          exact h1
        have HVM := Lib.hid hvm
        subst hoo
        clear hqv hgb2 hcell2 hke hvm hs2
        go_wp2_with fail
        go_ret
        exact ⟨rfl, some ⟨qv, 0, none⟩, rfl, qv, rfl, HVM.out⟩
    · have hoo : o = none := by
        rw [← HO.out]
        refine getK_scan_none _ (fun p hp => ?_)
        obtain ⟨i, hi, he⟩ := List.mem_iff_getElem.1 hp
        exact HNO.out i (by have := HN.out; omega) p (by rw [List.getElem?_eq_getElem hi, he])
      subst hoo
      go_wp2_with fail
      go_ret
      exact ⟨rfl, none, rfl, rfl⟩

end Toc

namespace Toc
open Go Go.RowKit Go.Proofs

def rEvObj (id room sender type : Bytes) (state : Bool) (key redacts : Bytes) (body : Value) : Obj :=
  .cells #[.string (mkS id), .string (mkS room), .string (mkS sender), .string (mkS type), .bool state, .string (mkS key), .string (mkS redacts), body] 220 (0, 0)
def rEvObjE (E : Ev) (body : Value) : Obj := rEvObj E.id E.room E.sender E.type E.state E.key E.redacts body
/-- What the reference's ReadEvent gives. -/
def ReadRetR (pv : Option Addr) (o : Option JV) (w : World) (e : Ending) (w' : World) : Prop :=
  Below w.heap.size w w' ∧
  match readEv o with
  | (n, none) => e = .returned (.tuple #[.pointer none, .int .i64 n])
  | (n, some E) => ∃ qe, e = .returned (.tuple #[ptrV qe, .int .i64 n]) ∧ w.heap.size ≤ qe ∧ w'.heap[qe]? = some (rEvObjE E (.pointer pv))
theorem ReadRetR.no {pv : Option Addr} {o : Option JV} {w : World} {e : Ending} {w' : World} {n : Int} (h : readEv o = (n, none)) (hb : Below w.heap.size w w') (he : e = .returned (.tuple #[.pointer none, .int .i64 n])) : ReadRetR pv o w e w' :=
  ⟨hb, by rw [h]; exact he⟩
theorem isO_text (o : Option JV) : isO o 3 = isTextO o := by
  cases o with
  | none => rfl
  | some v => cases v <;> rfl
theorem isO_obj (o : Option JV) : isO o 5 = (kindO o == 5) := by
  cases o with
  | none => rfl
  | some v => cases v <;> rfl

set_option maxRecDepth 100000 in
set_option maxHeartbeats 4000000 in
theorem rreadEvent_no (r : Ro) (w : World) (hh : Has r w) {pv : Option Addr} {o : Option JV} (hp : PR r pv o) (h5 : isO o 5 = false) :
    Calls Tryz.prog 73 #[.pointer pv] w fun e w' => e = .returned (.tuple #[.pointer none, .int .i64 90]) ∧ w = w' := by
  have HK := Lib.hid (ris_any r w hh hp 5 h5)
  clear h5 hh hp
  go_enter Tryz.func73, Tryz.ntmps73
  go_wp2_with fail
  refine HK.out.mono ?_
  rintro e w1 ⟨rfl, rfl⟩
  go_wp2_with fail
  go_ret2
  exact ⟨rfl, rfl⟩

/-- Behind the event's making. -/
def REvW (E : Ev) (q : Nat) (w wy : World) : Prop := Below w.heap.size w wy ∧ wy.heap[w.heap.size]? = some (rEvObjE E (ptrV q))
theorem REvW.step {E : Ev} {q : Nat} {w wy wz : World} (h : REvW E q w wy) (hb : Below wy.heap.size wy wz) : REvW E q w wz :=
  ⟨below_trans h.1 hb, (hb.block _ (blk_lt h.2)).trans h.2⟩

set_option maxRecDepth 100000 in
set_option maxHeartbeats 8000000 in
theorem rreadEvent_obj (r : Ro) (w : World) (hh : Has r w) {q : Nat} {l : List (Bytes × JV)} (hv : IsR r q (.obj l)) (hok : JOk (.obj l)) :
    Calls Tryz.prog 73 #[ptrV q] w fun e w' => ReadRetR (some ⟨q, 0, none⟩) (some (.obj l)) w e w' := by
  have hl : l.length ≤ 1048576 := by cases hok; assumption
  have hlen : ∀ k, (textO (getK l k)).length ≤ 1073741824 := fun k => textO_len (o := getO (some (.obj l)) k) (getO_ok (fun x hx => by cases hx; exact hok))
  obtain ⟨v, hvv⟩ : ∃ v : JV, v = .obj l := ⟨_, rfl⟩
  have h5 : kindJ v = 5 := by rw [hvv]; rfl
  have hgj : ∀ k, getJ v k = getK l k := fun k => by rw [hvv]; rfl
  have HGJ := Lib.hid hgj
  obtain ⟨oe, hoe⟩ : ∃ x, getK l sEventId = x := ⟨_, rfl⟩
  obtain ⟨om, hom⟩ : ∃ x, getK l sRoomId = x := ⟨_, rfl⟩
  obtain ⟨os, hos⟩ : ∃ x, getK l sSender = x := ⟨_, rfl⟩
  obtain ⟨ot, hot⟩ : ∃ x, getK l sType = x := ⟨_, rfl⟩
  obtain ⟨ok, hok2⟩ : ∃ x, getK l sStateKey = x := ⟨_, rfl⟩
  obtain ⟨od, hod⟩ : ∃ x, getK l sRedacts = x := ⟨_, rfl⟩
  obtain ⟨oc, hoc⟩ : ∃ x, getK l sContent = x := ⟨_, rfl⟩
  have HGe := Lib.hid (rget_any r w hh hv hl (mkS sEventId) (o := oe) (by rw [list_mkS]; exact hoe))
  have HGm := Lib.hid (rget_any r w hh hv hl (mkS sRoomId) (o := om) (by rw [list_mkS]; exact hom))
  have HGs := Lib.hid (rget_any r w hh hv hl (mkS sSender) (o := os) (by rw [list_mkS]; exact hos))
  have HGt := Lib.hid (rget_any r w hh hv hl (mkS sType) (o := ot) (by rw [list_mkS]; exact hot))
  have HGk := Lib.hid (rget_any r w hh hv hl (mkS sStateKey) (o := ok) (by rw [list_mkS]; exact hok2))
  have HGd := Lib.hid (rget_any r w hh hv hl (mkS sRedacts) (o := od) (by rw [list_mkS]; exact hod))
  have HGc := Lib.hid (rget_any r w hh hv hl (mkS sContent) (o := oc) (by rw [list_mkS]; exact hoc))
  have HIV := Lib.hid (ris_any r w hh (pv := some ⟨q, 0, none⟩) (o := some (.obj l)) ⟨q, rfl, hv⟩ 5 (b := true) rfl)
  have HH := Lib.hid hh
  have HEQ := Lib.hid (And.intro hoe (And.intro hom (And.intro hos (And.intro hot (And.intro hok2 (And.intro hod hoc))))))
  have HLEN := Lib.hid hlen
  have H5 := Lib.hid h5
  rw [show (some (JV.obj l)) = some v by rw [hvv]]
  have hfour : fourOk v = (isTextO oe && isTextO om && isTextO os && isTextO ot) := by unfold fourOk; rw [hgj, hgj, hgj, hgj, hoe, hom, hos, hot]
  have HFOUR := Lib.hid hfour
  clear hoe hom hos hot hok2 hod hoc hh hv hok hl hlen hvv h5 hgj hfour
  go_enter Tryz.func73, Tryz.ntmps73
  go_wp2_with fail
  refine HIV.out.mono ?_
  rintro e w1 ⟨rfl, rfl⟩
  go_wp2_with fail
  refine HGe.out.mono ?_
  rintro e w1 ⟨rfl, pe, rfl, hpe⟩
  have HPe := Lib.hid hpe
  clear hpe
  go_wp2_with fail
  refine HGm.out.mono ?_
  rintro e w1 ⟨rfl, pm, rfl, hpm⟩
  have HPm := Lib.hid hpm
  clear hpm
  go_wp2_with fail
  refine HGs.out.mono ?_
  rintro e w1 ⟨rfl, ps, rfl, hps⟩
  have HPs := Lib.hid hps
  clear hps
  go_wp2_with fail
  refine HGt.out.mono ?_
  rintro e w1 ⟨rfl, pt, rfl, hpt⟩
  have HPt := Lib.hid hpt
  clear hpt
  go_wp2_with fail
  refine HGk.out.mono ?_
  rintro e w1 ⟨rfl, pk, rfl, hpk⟩
  have HPk := Lib.hid hpk
  clear hpk
  go_wp2_with fail
  refine HGd.out.mono ?_
  rintro e w1 ⟨rfl, pd, rfl, hpd⟩
  have HPd := Lib.hid hpd
  clear hpd HGe HGm HGs HGt HGk HGd
  go_upto_region 9 with fail
  go_cut [10] (fun s10 wy => s10 = .bool (fourOk v) ∧ wy = w)
  case first =>
    obtain ⟨be, hbe⟩ : ∃ b, isO oe 3 = b := ⟨_, rfl⟩
    obtain ⟨bm, hbm⟩ : ∃ b, isO om 3 = b := ⟨_, rfl⟩
    obtain ⟨bs, hbs⟩ : ∃ b, isO os 3 = b := ⟨_, rfl⟩
    obtain ⟨bt, hbt⟩ : ∃ b, isO ot 3 = b := ⟨_, rfl⟩
    have HIe := Lib.hid (ris_any r w HH.out HPe.out 3 hbe)
    have HIm := Lib.hid (ris_any r w HH.out HPm.out 3 hbm)
    have HIs := Lib.hid (ris_any r w HH.out HPs.out 3 hbs)
    have HIt := Lib.hid (ris_any r w HH.out HPt.out 3 hbt)
    have HF := Lib.hid (show fourOk v = (be && bm && bs && bt) by rw [HFOUR.out, ← isO_text, ← isO_text, ← isO_text, ← isO_text, hbe, hbm, hbs, hbt])
    clear hbe hbm hbs hbt
    go_wp2_with fail
    refine HIe.out.mono ?_
    rintro e w1 ⟨rfl, rfl⟩
    cases be with
    | false =>
      go_wp2_with fail
      go_meet
      exact ⟨by rw [HF.out]; rfl, rfl⟩
    | true =>
    go_wp2_with fail
    refine HIm.out.mono ?_
    rintro e w1 ⟨rfl, rfl⟩
    cases bm with
    | false =>
      go_wp2_with fail
      go_meet
      exact ⟨by rw [HF.out]; rfl, rfl⟩
    | true =>
    go_wp2_with fail
    refine HIs.out.mono ?_
    rintro e w1 ⟨rfl, rfl⟩
    cases bs with
    | false =>
      go_wp2_with fail
      go_meet
      exact ⟨by rw [HF.out]; rfl, rfl⟩
    | true =>
    go_wp2_with fail
    refine HIt.out.mono ?_
    rintro e w1 ⟨rfl, rfl⟩
    go_wp2_with fail
    go_meet
    exact ⟨by rw [HF.out]; rfl, rfl⟩
  case rest =>
  obtain ⟨rfl, rfl⟩ := hcut
  obtain ⟨bf, hbf⟩ : ∃ b, fourOk v = b := ⟨_, rfl⟩
  rw [hbf]
  obtain ⟨bc, hbc⟩ : ∃ b, isO oc 5 = b := ⟨_, rfl⟩
  have HBF := Lib.hid hbf
  have HBC := Lib.hid hbc
  clear hbf hbc
  go_wp2_with fail
  refine HGc.out.mono ?_
  rintro e w1 ⟨rfl, pc, rfl, hpc⟩
  have HIC := Lib.hid (ris_any r wc HH.out hpc 5 HBC.out)
  clear hpc HGc
  go_wp2_with fail
  refine HIC.out.mono ?_
  rintro e w1 ⟨rfl, rfl⟩
  obtain ⟨bk, hbk⟩ : ∃ b, isO ok 3 = b := ⟨_, rfl⟩
  have HIk := Lib.hid (ris_any r wc HH.out HPk.out 3 hbk)
  have HBK := Lib.hid (show isTextO ok = bk by rw [← isO_text]; exact hbk)
  clear hbk
  go_upto_region 11 with fail
  go_cut [63] (fun s63 wy => s63 = .bool (!bf || !bc || (ok.isSome && !bk)) ∧ wy = wc)
  case first =>
    cases bf with
    | false =>
      go_wp2_with fail
      go_meet
      exact ⟨rfl, rfl⟩
    | true =>
    cases bc with
    | false =>
      go_wp2_with fail
      go_meet
      exact ⟨rfl, rfl⟩
    | true =>
    rcases HPk.out.cases with ⟨rfl, hn⟩ | ⟨qk, vk, rfl, hn, _⟩
    · have HN := Lib.hid hn
      clear hn
      go_wp2_with fail
      go_meet
      exact ⟨by rw [HN.out]; rfl, rfl⟩
    · have HN := Lib.hid hn
      clear hn
      go_wp2_with fail
      refine HIk.out.mono ?_
      rintro e w1 ⟨rfl, rfl⟩
      go_wp2_with fail
      go_meet
      exact ⟨by rw [HN.out]; simp, rfl⟩
  case rest =>
  obtain ⟨rfl, rfl⟩ := hcut
  obtain ⟨bno, hbno⟩ : ∃ b, (!bf || !bc || (ok.isSome && !bk)) = b := ⟨_, rfl⟩
  rw [hbno]
  have HBNO := Lib.hid hbno
  clear hbno
  cases bno with
  | true =>
    have hno : readEv (some v) = (90, none) := by
      have h1 := HBNO.out
      have h2 := HBF.out
      have h3 := HBC.out
      have h4 := HBK.out
      obtain ⟨e1, e2, e3, e4, e5, e6, e7⟩ := HEQ.out
      show readEvJ v = _
      unfold readEvJ
      rw [if_neg (by simp [H5.out]), h2]
      cases bf with
      | false => rfl
      | true =>
      rw [if_neg (by decide), HGJ.out sContent, e7]
      cases bc with
      | false => rw [isO_obj] at h3; rw [if_pos (by simpa using h3)]
      | true =>
      rw [isO_obj] at h3
      rw [if_neg (by simpa using h3), HGJ.out sStateKey, e5, if_pos (by simp at h1; rw [h4]; exact h1)]
    have HNO := Lib.hid hno
    clear hno
    go_wp2_with fail
    go_ret2
    exact ReadRetR.no HNO.out (Below.refl _ _) rfl
  | false =>
  obtain ⟨te, hte⟩ : ∃ s, mkS (textO oe) = s := ⟨_, rfl⟩
  obtain ⟨tm, htm⟩ : ∃ s, mkS (textO om) = s := ⟨_, rfl⟩
  obtain ⟨ts, hts⟩ : ∃ s, mkS (textO os) = s := ⟨_, rfl⟩
  obtain ⟨tt, htt⟩ : ∃ s, mkS (textO ot) = s := ⟨_, rfl⟩
  obtain ⟨tk, htk⟩ : ∃ s, mkS (textO ok) = s := ⟨_, rfl⟩
  have HTe := Lib.hid (rtextv_any r wc HH.out HPe.out hte)
  have HTm := Lib.hid (rtextv_any r wc HH.out HPm.out htm)
  have HTs := Lib.hid (rtextv_any r wc HH.out HPs.out hts)
  have HTt := Lib.hid (rtextv_any r wc HH.out HPt.out htt)
  have HTk := Lib.hid (rtextv_any r wc HH.out HPk.out htk)
  have HNO : Hid (bf = true ∧ bc = true ∧ ¬ (ok.isSome = true ∧ isTextO ok = false)) := Lib.hid (by
    have h1 := HBNO.out
    rw [HBK.out]
    cases bf <;> cases bc <;> simp_all)
  obtain ⟨w2, hw2⟩ : ∃ w2, w2 = wc := ⟨_, rfl⟩
  subst hw2
  obtain ⟨E0, hE0⟩ : ∃ E : Ev, E = { id := textO oe, room := textO om, sender := textO os, type := textO ot, state := ok.isSome, key := textO ok, redacts := [], body := v } := ⟨_, rfl⟩
  have HE0 := Lib.hid hE0
  have HTX := Lib.hid (And.intro hte (And.intro htm (And.intro hts (And.intro htt htk))))
  clear hE0 hte htm hts htt htk
  go_upto_region 13 with fail
  go_cut [12] (fun s12 wy => s12 = ptrV w2.heap.size ∧ REvW E0 q w2 wy)
  case first =>
    have hev : ∀ b, ok.isSome = b → Obj.cells #[.string te, .string tm, .string ts, .string tt, .bool b, .string tk, .string emptyS, ptrV q] 220 (0, 0) = rEvObjE E0 (ptrV q) := fun b hb => by
      obtain ⟨h1, h2, h3, h4, h5⟩ := HTX.out
      rw [HE0.out, ← h1, ← h2, ← h3, ← h4, ← h5, ← hb]; rfl
    have HEV := Lib.hid hev
    clear hev
    go_wp2_with fail
    refine HTe.out.mono ?_
    rintro e w1 ⟨rfl, rfl⟩
    go_wp2_with fail
    refine HTm.out.mono ?_
    rintro e w1 ⟨rfl, rfl⟩
    go_wp2_with fail
    refine HTs.out.mono ?_
    rintro e w1 ⟨rfl, rfl⟩
    go_wp2_with fail
    refine HTt.out.mono ?_
    rintro e w1 ⟨rfl, rfl⟩
    rcases HPk.out.cases with ⟨rfl, hn⟩ | ⟨qk, vk, rfl, hn, _⟩
    all_goals
      have HN := Lib.hid hn
      clear hn
      go_wp2_with fail
      refine HTk.out.mono ?_
      rintro e w1 ⟨rfl, rfl⟩
      go_wp2_with fail
      go_meet
      exact ⟨rfl, (Below.refl _ _).alloc (Nat.le_refl _) _, (blk_new _ _).trans (congrArg some (HEV.out _ (by rw [HN.out]; rfl)))⟩
  case rest =>
  obtain ⟨rfl, hw3⟩ := hcut
  have HW3 := Lib.hid hw3
  clear hw3 HTe HTm HTs HTt HTk
  obtain ⟨tE, htE⟩ : ∃ t : ByteArray, mkS E0.type = t := ⟨_, rfl⟩
  have hq3 := HW3.out.2
  unfold rEvObjE rEvObj at hq3
  have c3 : wc.cell? ⟨w2.heap.size, 3, none⟩ = some (.string tE) := by rw [← htE]; exact blk_cell hq3 3
  have hty0 : tE.data.toList = textO ot := by rw [← htE, list_mkS, HE0.out]
  have HTY0 := Lib.hid hty0
  have HRO : Hid (redOf v = ((textO ot == sRedaction) && od.isSome)) := Lib.hid (by
    obtain ⟨_, _, _, e4, _, e6, _⟩ := HEQ.out
    unfold redOf; rw [HGJ.out, HGJ.out, e4, e6])
  clear htE hty0 hq3
  go_upto_region 14 with fail
  obtain ⟨w3, hw3⟩ : ∃ w3, w3 = wc := ⟨_, rfl⟩
  subst hw3
  go_cut [87] (fun s87 wy => s87 = .bool (redOf v) ∧ wy = w3)
  case first =>
    by_cases hty : tE.data.toList = sRedaction
    · have hty2 : tE = mkS sRedaction := str_eq hty
      have hty3 : (textO ot == sRedaction) = true := by rw [← HTY0.out, hty]; simp
      have HT3 := Lib.hid hty3
      clear hty hty3 HTY0
      subst hty2
      unfold sRedaction at c3
      rcases HPd.out.cases with ⟨rfl, hn⟩ | ⟨qd, vd, rfl, hn, _⟩
      all_goals
        have HN := Lib.hid hn
        clear hn
        go_wp2_with fail
        go_meet
        exact ⟨by rw [HRO.out, HT3.out, HN.out]; rfl, rfl⟩
    · have hty2 : (tE.toList == sRedaction) = false := str_ne hty
      unfold sRedaction at hty2
      have HT3 : Hid ((textO ot == sRedaction) = false) := Lib.hid (by rw [← HTY0.out]; simpa using hty)
      clear hty
      go_wp2_with fail
      go_meet
      exact ⟨by rw [HRO.out, HT3.out]; rfl, rfl⟩
  case rest =>
  obtain ⟨rfl, rfl⟩ := hcut
  obtain ⟨rd, hrd⟩ : ∃ rd, redOf v = rd := ⟨_, rfl⟩
  rw [hrd]
  have HRD := Lib.hid hrd
  have HEV : Hid (evOf v = { E0 with redacts := if rd then textO od else [] }) := Lib.hid (by
    obtain ⟨e1, e2, e3, e4, e5, e6, _⟩ := HEQ.out
    unfold evOf
    rw [HRD.out, HE0.out, HGJ.out, HGJ.out, HGJ.out, HGJ.out, HGJ.out, HGJ.out, e1, e2, e3, e4, e5, e6])
  clear hrd c3
  obtain ⟨w3, hw3⟩ : ∃ w3, w3 = wc := ⟨_, rfl⟩
  subst hw3
  go_upto_if 87 with fail
  go_cut [] (fun wy => ¬ (redOf v = true ∧ isTextO od = false) ∧ (rd && !eventB (evOf v).redacts) = false ∧ REvW (evOf v) q w2 wy)
  case first =>
    cases rd with
    | false =>
      go_wp2_with fail
      go_meet
      refine ⟨by rw [HRD.out]; simp, rfl, ?_⟩
      have : evOf v = E0 := by rw [HEV.out]; rw [HE0.out]; rfl
      rw [this]; exact HW3.out
    | true =>
      obtain ⟨bd, hbd⟩ : ∃ b, isO od 3 = b := ⟨_, rfl⟩
      have HHd := HH.out.below HW3.out.1
      have HId := Lib.hid (ris_any r w3 HHd HPd.out 3 hbd)
      have HBd := Lib.hid (show isTextO od = bd by rw [← isO_text]; exact hbd)
      obtain ⟨td, htd⟩ : ∃ s, mkS (textO od) = s := ⟨_, rfl⟩
      have HTd := Lib.hid (rtextv_any r w3 HHd HPd.out htd)
      have hq3 := HW3.out.2
      unfold rEvObjE rEvObj at hq3
      have c6 : w3.cell? ⟨w2.heap.size, 6, none⟩ = some (.string (mkS E0.redacts)) := blk_cell hq3 6
      have z6 := blk_free hq3 6
      have HTD := Lib.hid htd
      clear hbd HHd htd
      cases bd with
      | false =>
        clear hq3 c6 z6
        go_wp2_with fail
        refine HId.out.mono ?_
        rintro e w4 ⟨rfl, rfl⟩
        go_wp2_with fail
        go_ret2
        exact ReadRetR.no (by
          obtain ⟨n1, n2, n3⟩ := HNO.out
          obtain ⟨e1, e2, e3, e4, e5, e6, e7⟩ := HEQ.out
          have h3 := HBC.out
          rw [n2, isO_obj] at h3
          show readEvJ v = _
          unfold readEvJ
          rw [if_neg (by simp [H5.out]), HBF.out, n1, if_neg (by decide), HGJ.out sContent, e7, if_neg (by simpa using h3), HGJ.out sStateKey, e5, if_neg n3, HGJ.out sRedacts, e6, if_pos ⟨HRD.out, HBd.out⟩]) HW3.out.1 rfl
      | true =>
        have hw4 : REvW (evOf v) q w2 (w3.setCell ⟨w2.heap.size, 6, none⟩ (.string td)) := by
          refine ⟨HW3.out.1.setCell (Nat.le_refl _) _, ?_⟩
          rw [blk_set hq3 6, HEV.out, ← HTD.out]
          simp [rEvObjE, rEvObj]
        have hle : (mkS (textO od)).size ≤ 140737488351232 := by rw [size_mkS]; have := HLEN.out sRedacts; rw [HEQ.out.2.2.2.2.2.1] at this; omega
        rw [HTD.out] at hle
        have HW4 := Lib.hid hw4
        obtain ⟨be, hbe⟩ : ∃ b, eventB td.data.toList = b := ⟨_, rfl⟩
        have HIE := Lib.hid (fun wx => refIsEvent_any td hbe hle wx)
        have HBE := Lib.hid (show eventB (evOf v).redacts = be by rw [← hbe, ← HTD.out, list_mkS, HEV.out]; rfl)
        clear hq3 hw4 hle hbe
        go_wp2_with fail
        refine HId.out.mono ?_
        rintro e w4 ⟨rfl, rfl⟩
        go_wp2_with fail
        refine HTd.out.mono ?_
        rintro e w4 ⟨rfl, rfl⟩
        go_wp2_with fail
        refine (HIE.out _).mono ?_
        rintro e w5 ⟨rfl, hb5⟩
        have HW5 := Lib.hid (HW4.out.step hb5)
        clear hb5
        cases be with
        | false =>
          go_wp2_with fail
          go_ret2
          exact ReadRetR.no (by
            obtain ⟨n1, n2, n3⟩ := HNO.out
            obtain ⟨e1, e2, e3, e4, e5, e6, e7⟩ := HEQ.out
            have h3 := HBC.out
            rw [n2, isO_obj] at h3
            show readEvJ v = _
            unfold readEvJ
            rw [if_neg (by simp [H5.out]), HBF.out, n1, if_neg (by decide), HGJ.out sContent, e7, if_neg (by simpa using h3), HGJ.out sStateKey, e5, if_neg n3, HGJ.out sRedacts, e6, if_neg (by rw [HBd.out]; simp), if_pos (by unfold evBad; rw [HBE.out, HRD.out]; simp)]) HW5.out.1 rfl
        | true =>
          go_wp2_with fail
          go_meet
          exact ⟨by rw [HBd.out]; simp, by rw [HBE.out]; rfl, HW5.out⟩
  case rest =>
  obtain ⟨hno2, hrb, hw4⟩ := hcut
  have hdone : ∀ b, (!eventB (evOf v).id || !roomB (evOf v).room || !userB (evOf v).sender || (evOf v).type == [] || decide (60 < (evOf v).type.length) || decide (60 < (evOf v).key.length)) = b → readEvJ v = if b then (92, none) else (0, some (evOf v)) := fun b hb => by
    obtain ⟨n1, n2, n3⟩ := HNO.out
    obtain ⟨e1, e2, e3, e4, e5, e6, e7⟩ := HEQ.out
    have h3 := HBC.out
    rw [n2, isO_obj] at h3
    unfold readEvJ
    rw [if_neg (by simp [H5.out]), HBF.out, n1, if_neg (by decide), HGJ.out sContent, e7, if_neg (by simpa using h3), HGJ.out sStateKey, e5, if_neg n3, HGJ.out sRedacts, e6, if_neg hno2]
    unfold evBad
    rw [hb, HRD.out, hrb, Bool.or_false]
  have HDONE := Lib.hid hdone
  have HW4 := Lib.hid hw4
  obtain ⟨E, hE⟩ : ∃ E, evOf v = E := ⟨_, rfl⟩
  have hsz : (mkS E.id).size ≤ 140737488351232 ∧ (mkS E.room).size ≤ 140737488351232 ∧ (mkS E.sender).size ≤ 140737488351232 := by
    have hl := HLEN.out
    rw [← hE]
    simp only [size_mkS, evOf, HGJ.out]
    exact ⟨Nat.le_trans (hl _) (by omega), Nat.le_trans (hl _) (by omega), Nat.le_trans (hl _) (by omega)⟩
  rw [hE] at HW4 HDONE
  clear hno2 hrb hw4 hdone hE HW3 HEV HTY0
  obtain ⟨w3, hw3⟩ : ∃ w3, w3 = wc := ⟨_, rfl⟩
  subst hw3
  have HCELL := Lib.hid (show ∀ (wx : World), Below w3.heap.size w3 wx → ∀ o, wx.cell? ⟨w2.heap.size, o, none⟩ = (#[Value.string (mkS E.id), .string (mkS E.room), .string (mkS E.sender), .string (mkS E.type), .bool E.state, .string (mkS E.key), .string (mkS E.redacts), ptrV q] : Array Value)[o]? from
    fun wx hx o => blk_cell ((hx.block _ (blk_lt HW4.out.2)).trans HW4.out.2) o)
  have c0 : w3.cell? ⟨w2.heap.size, 0, none⟩ = some (.string (mkS E.id)) := HCELL.out w3 (Below.refl _ _) 0
  obtain ⟨b1, hb1⟩ : ∃ b, eventB E.id = b := ⟨_, rfl⟩
  obtain ⟨b2, hb2⟩ : ∃ b, roomB E.room = b := ⟨_, rfl⟩
  obtain ⟨b3, hb3⟩ : ∃ b, userB E.sender = b := ⟨_, rfl⟩
  have H1 := Lib.hid (fun wx => refIsEvent_any (mkS E.id) (b := b1) (by rw [list_mkS]; exact hb1) hsz.1 wx)
  have H2 := Lib.hid (fun wx => refIsRoom_any (mkS E.room) (b := b2) (by rw [list_mkS]; exact hb2) hsz.2.1 wx)
  have H3 := Lib.hid (fun wx => refIsUser_any (mkS E.sender) (b := b3) (by rw [list_mkS]; exact hb3) hsz.2.2 wx)
  rw [hb1, hb2, hb3] at HDONE
  clear hb1 hb2 hb3 hsz
  go_wp2_with fail
  refine (H1.out w3).mono ?_
  rintro e w5 ⟨rfl, hb5⟩
  have HB5 := Lib.hid hb5
  have c1 : w5.cell? ⟨w2.heap.size, 1, none⟩ = some (.string (mkS E.room)) := HCELL.out w5 hb5 1
  clear hb5 c0
  go_wp2_with fail
  refine (H2.out w5).mono ?_
  rintro e w6 ⟨rfl, hb6⟩
  have HB6 := Lib.hid (below_trans HB5.out hb6)
  have c2 : w6.cell? ⟨w2.heap.size, 2, none⟩ = some (.string (mkS E.sender)) := HCELL.out w6 HB6.out 2
  clear hb6 c1
  go_wp2_with fail
  refine (H3.out w6).mono ?_
  rintro e w7 ⟨rfl, hb7⟩
  have HB7 := Lib.hid (below_trans HB6.out hb7)
  clear hb7 c2
  obtain ⟨tE, htE⟩ : ∃ t : ByteArray, mkS E.type = t := ⟨_, rfl⟩
  obtain ⟨kE, hkE⟩ : ∃ t : ByteArray, mkS E.key = t := ⟨_, rfl⟩
  have c3 : w7.cell? ⟨w2.heap.size, 3, none⟩ = some (.string tE) := by rw [← htE]; exact HCELL.out w7 HB7.out 3
  have c5 : w7.cell? ⟨w2.heap.size, 5, none⟩ = some (.string kE) := by rw [← hkE]; exact HCELL.out w7 HB7.out 5
  have htl : E.type.length = tE.size := by rw [← htE, size_mkS]
  have hkl : E.key.length = kE.size := by rw [← hkE, size_mkS]
  have htn : E.type = [] → tE = ⟨#[]⟩ := fun h => by rw [← htE, h]
  have htn2 : E.type ≠ [] → tE.toList.isEmpty = false := fun h => by rw [← htE, Lib.toList_data]; simpa using h
  have HTL := Lib.hid htl
  have HKL := Lib.hid hkl
  clear htE hkE
  go_upto_region 24 with fail
  go_cut [150] (fun s150 wy => s150 = .bool (!b1 || !b2 || !b3 || E.type == [] || decide (60 < E.type.length) || decide (60 < E.key.length)) ∧ wy = w7)
  case first =>
    cases b1 with
    | false =>
      clear htl hkl htn htn2
      go_wp2_with fail
      go_meet
      exact ⟨by simp, rfl⟩
    | true =>
    cases b2 with
    | false =>
      clear htl hkl htn htn2
      go_wp2_with fail
      go_meet
      exact ⟨by simp, rfl⟩
    | true =>
    cases b3 with
    | false =>
      clear htl hkl htn htn2
      go_wp2_with fail
      go_meet
      exact ⟨by simp, rfl⟩
    | true =>
    by_cases ht0 : E.type = []
    · have hte := htn ht0
      subst hte
      have HT0 := Lib.hid ht0
      clear htl hkl htn htn2 ht0
      go_wp2_with fail
      go_meet
      exact ⟨by rw [HT0.out]; simp, rfl⟩
    have hte := htn2 ht0
    have HT0 := Lib.hid (show (E.type == []) = false by simpa using ht0)
    clear htn htn2 ht0
    by_cases h60 : 60 < tE.size
    · have h60' : (60 : Int) < tE.size := by omega
      have h60d : decide ((60 : Int) < tE.size) = true := by simpa using h60'
      have H60 := Lib.hid (show decide (60 < E.type.length) = true by rw [HTL.out]; simpa using h60)
      clear htl hkl h60
      go_wp2_with fail
      go_meet
      exact ⟨by rw [HT0.out, H60.out]; simp, rfl⟩
    have h60d : decide ((60 : Int) < tE.size) = false := by simp; omega
    have h60' : (tE.size : Int) ≤ 60 := by omega
    have H60 := Lib.hid (show decide (60 < E.type.length) = false by rw [HTL.out]; simpa using h60)
    clear htl h60
    by_cases hk60 : 60 < kE.size
    · have hk60' : (60 : Int) < kE.size := by omega
      have hk60d : decide ((60 : Int) < kE.size) = true := by simpa using hk60'
      have HK60 := Lib.hid (show decide (60 < E.key.length) = true by rw [HKL.out]; simpa using hk60)
      clear hkl hk60
      go_wp2_with fail
      go_meet
      exact ⟨by rw [HT0.out, H60.out, HK60.out]; simp, rfl⟩
    have hk60d : decide ((60 : Int) < kE.size) = false := by simp; omega
    have hk60' : (kE.size : Int) ≤ 60 := by omega
    have HK60 := Lib.hid (show decide (60 < E.key.length) = false by rw [HKL.out]; simpa using hk60)
    clear hkl hk60
    go_wp2_with fail
    go_meet
    exact ⟨by rw [HT0.out, H60.out, HK60.out]; rfl, rfl⟩
  case rest =>
    obtain ⟨rfl, rfl⟩ := hcut
    obtain ⟨bd, hbd⟩ : ∃ b, (!b1 || !b2 || !b3 || E.type == [] || decide (60 < E.type.length) || decide (60 < E.key.length)) = b := ⟨_, rfl⟩
    rw [hbd]
    have HR := Lib.hid (HDONE.out bd hbd)
    have HW8 := Lib.hid (HW4.out.step HB7.out)
    clear hbd c3 c5 htl hkl htn htn2
    cases bd with
    | true =>
      go_wp2_with fail
      go_ret2
      exact ReadRetR.no HR.out HW8.out.1 rfl
    | false =>
      go_wp2_with fail
      go_ret2
      refine ⟨HW8.out.1, ?_⟩
      rw [show readEv (some v) = _ from HR.out, if_neg (by decide)]
      exact ⟨_, rfl, Nat.le_refl _, HW8.out.2⟩

end Toc

namespace Toc
open Go Go.RowKit Go.Proofs

theorem decDigits_more (m k : Nat) (hm : 1 ≤ m) (hk : k < 10) : Lib.decDigits (10 * m + k) = Lib.decDigits m ++ [UInt8.ofNat (48 + k)] := by
  rw [Lib.decDigits, dif_neg (by omega)]
  rw [show (10 * m + k) / 10 = m by omega, show (10 * m + k) % 10 = k by omega]
theorem digit_cut (k : Nat) (h : k < 10) : (⟨#[48, 49, 50, 51, 52, 53, 54, 55, 56, 57]⟩ : ByteArray).extract k (k + 1) = mkS [UInt8.ofNat (48 + k)] := by
  have : ∀ k : Fin 10, (⟨#[48, 49, 50, 51, 52, 53, 54, 55, 56, 57]⟩ : ByteArray).extract k.val (k.val + 1) = mkS [UInt8.ofNat (48 + k.val)] := by decide
  exact this ⟨k, h⟩
def restD (m : Nat) : Bytes := if m = 0 then [] else Lib.decDigits m
theorem restD_step (m : Nat) (h : 1 ≤ m) : restD m = restD (m / 10) ++ [UInt8.ofNat (48 + m % 10)] := by
  unfold restD
  rw [if_neg (by omega)]
  by_cases h0 : m / 10 = 0
  · rw [if_pos h0, Lib.decDigits_one (by omega), show m % 10 = m by omega]; rfl
  · rw [if_neg h0]
    have := decDigits_more (m / 10) (m % 10) (by omega) (by omega)
    rw [show 10 * (m / 10) + m % 10 = m by omega] at this
    exact this
theorem digits_first (m : Nat) : Lib.decDigits m = restD (m / 10) ++ [UInt8.ofNat (48 + m % 10)] := by
  by_cases h : m = 0
  · subst h; rw [Lib.decDigits_one (by omega)]; rfl
  · rw [← restD_step m (by omega)]; unfold restD; rw [if_neg h]

set_option maxRecDepth 100000 in
set_option maxHeartbeats 4000000 in
theorem rdigits_any (n : Nat) (hn : n ≤ 9223372036854775807) (w : World) {s : ByteArray} (hs : mkS (Lib.decDigits n) = s) :
    Calls Tryz.prog 184 #[.int .i64 n] w fun e w' => e = .returned (.string s) ∧ w = w' := by
  obtain ⟨z, hz⟩ : ∃ z : Int, (n : Int) = z := ⟨_, rfl⟩
  obtain ⟨k, hk⟩ : ∃ k : Nat, n % 10 = k := ⟨_, rfl⟩
  obtain ⟨m, hm⟩ : ∃ m : Nat, n / 10 = m := ⟨_, rfl⟩
  have h1 : z.tmod 10 = (k : Int) := by rw [← hz, ← hk]; exact Int.ofNat_tmod n 10 ▸ rfl
  have h2 : z.tdiv 10 = (m : Int) := by rw [← hz, ← hm]; exact Int.ofNat_tdiv n 10 ▸ rfl
  have hk10 : k < 10 := by omega
  rw [hz]
  have HS := Lib.hid (show s = mkS (restD m ++ [UInt8.ofNat (48 + k)]) by rw [← hs, digits_first, hm, hk])
  have hd := digit_cut k hk10
  obtain ⟨sk, hsk⟩ : ∃ x, mkS [UInt8.ofNat (48 + k)] = x := ⟨_, rfl⟩
  rw [hsk] at hd
  have hkA : (k : Int) + 1 = ((k + 1 : Nat) : Int) := by omega
  obtain ⟨k1, hk1⟩ : ∃ k1, k1 = k + 1 := ⟨_, rfl⟩
  rw [← hk1] at hd hkA
  have hwr : IntKind.i64.wrap (k1 : Int) = k1 := IntWalk.i64_in _ (by omega)
  have hwr2 : IntKind.i64.wrap (k : Int) = k := IntWalk.i64_in _ (by omega)
  have hwr3 : IntKind.i64.wrap (m : Int) = m := IntWalk.i64_in _ (by omega)
  have hkk : (k : Int) ≤ k1 := by omega
  have hk11 : (k1 : Int) ≤ 10 := by omega
  have HSK := Lib.hid hsk
  have HM := Lib.hid (show m ≤ 9223372036854775807 by omega)
  have hss : s.size ≤ 21 := by
    have h1 := Lib.itoa_length_le (n : Int) (by omega) (by omega)
    rw [Lib.itoa_nonneg] at h1
    rw [← hs, size_mkS]; exact h1
  clear hz hk hm hk1 hsk hs
  go_enter Tryz.func184, Tryz.ntmps184
  go_wp2_with fail
  go_loopw [0, 3] (fun s0 s3 wr => ∃ (m' : Nat) (ta : ByteArray), s0 = .int .i64 m' ∧ s3 = .string ta ∧ m' ≤ 9223372036854775807 ∧ mkS (restD m' ++ ta.data.toList) = s ∧ wr = w) (fun s0 _ _ => match s0 with | .int _ x => x.toNat | _ => 0)
  case atStart => exact ⟨m, sk, rfl, rfl, HM.out, by rw [← HSK.out, list_mkS]; exact HS.out.symm, rfl⟩
  case round =>
    obtain ⟨m', ta, rfl, rfl, hm', hs', rfl⟩ := hrel
    have htl : ta.size ≤ s.size := by
      have h1 := congrArg (fun x : ByteArray => x.data.toList.length) hs'
      simp only [List.length_append] at h1
      rw [Lib.size_eq ta, Lib.size_eq s]; omega
    by_cases h0 : m' = 0
    · subst h0
      have hta : ta = s := by rw [← hs']; show ta = mkS ([] ++ ta.data.toList); simp [mkS]
      subst hta
      clear hs'
      go_wp2_with fail
      go_ret
      exact ⟨rfl, rfl⟩
    · obtain ⟨y, hy⟩ : ∃ y : Int, (m' : Int) = y := ⟨_, rfl⟩
      obtain ⟨b, hb⟩ : ∃ b : Nat, m' % 10 = b := ⟨_, rfl⟩
      obtain ⟨c, hc⟩ : ∃ c : Nat, m' / 10 = c := ⟨_, rfl⟩
      have g1 : y.tmod 10 = (b : Int) := by rw [← hy, ← hb]; exact Int.ofNat_tmod m' 10 ▸ rfl
      have g2 : y.tdiv 10 = (c : Int) := by rw [← hy, ← hc]; exact Int.ofNat_tdiv m' 10 ▸ rfl
      have hb10 : b < 10 := by omega
      have hy0 : 0 < y := by omega
      have hd' := digit_cut b hb10
      obtain ⟨sb, hsb⟩ : ∃ x, mkS [UInt8.ofNat (48 + b)] = x := ⟨_, rfl⟩
      rw [hsb] at hd'
      have hbA : (b : Int) + 1 = ((b + 1 : Nat) : Int) := by omega
      obtain ⟨b1, hb1⟩ : ∃ b1, b1 = b + 1 := ⟨_, rfl⟩
      rw [← hb1] at hd' hbA
      have hwr4 : IntKind.i64.wrap (b1 : Int) = b1 := IntWalk.i64_in _ (by omega)
      have hwr5 : IntKind.i64.wrap (b : Int) = b := IntWalk.i64_in _ (by omega)
      have hwr6 : IntKind.i64.wrap (c : Int) = c := IntWalk.i64_in _ (by omega)
      have hbb : (b : Int) ≤ b1 := by omega
      have hb11 : (b1 : Int) ≤ 10 := by omega
      have hsbl : sb.size = 1 := by rw [← hsb, size_mkS]; rfl
      have HST := Lib.hid (show mkS (restD c ++ (sb ++ ta).data.toList) = s by
        rw [← hs', restD_step m' (by omega), hc, hb, show (sb ++ ta).data.toList = sb.data.toList ++ ta.data.toList by simp, ← hsb, list_mkS, List.append_assoc])
      have HC := Lib.hid (show c < m' ∧ c ≤ 9223372036854775807 by omega)
      have HY := Lib.hid hy
      rw [hy]
      clear hs' hsb hb1 hb hc hy h0 hm'
      go_wp2_with fail
      go_roundw
      case rel => exact ⟨c, sb ++ ta, rfl, rfl, HC.out.2, HST.out, by first | rfl | trivial⟩
      case measure => have := HC.out; have := HY.out; simp; omega
/-- Bytes have been written behind a row of the call's own. -/
structure RWr (B : Nat) (w w' : World) (v : Value) (acc : Bytes) : Prop where
  below : Below B w w'
  own : OwnBytes w' B v acc
theorem RWr.more {B : Nat} {w wr w2 : World} {v : Value} {acc : Bytes} (h : RWr B w wr v acc) (hB : B ≤ w.heap.size) {o : Obj} {g n cap : Nat} {news : List Value} {bs : Bytes}
    (hgr : (wr.alloc o).grownBy w2 v.ownBlock) (hown : w2.ownsRow B 5 1 (.slice (some ⟨g, 0, none⟩) n cap) n (Lib.byteCells acc ++ news)) (hn : news = Lib.byteCells bs) (hl : acc.length + bs.length = n) :
    RWr B w w2 (.slice (some ⟨g, 0, none⟩) n cap) (acc ++ bs) := by
  have hs : B ≤ wr.heap.size := Nat.le_trans hB h.below.size
  refine ⟨h.below.trans ((((Turns.refl v.ownBlock.toList wr).alloc o).grown hgr (fun k hk => .inl (by simp [hk]))).below_of hs (fun b hb => ?_)), ?_⟩
  · exact (h.own.lt b (by simpa using hb)).1
  · unfold OwnBytes
    rw [Lib.byteCells_append, List.length_append, hl, ← hn]
    exact hown

theorem below_drew {B : Nat} {w wr : World} (h : Below B w wr) : Below B w wr.drew := ⟨h.os, h.tape, h.output, h.size, h.block⟩

set_option maxRecDepth 100000 in
set_option maxHeartbeats 8000000 in
theorem rquote_any (B : Nat) (w : World) (v : Value) (acc : Bytes) (h : OwnBytes w B v acc) (hB : B ≤ w.heap.size) (s : ByteArray) (hlen : acc.length + (quoteL s.data.toList).length ≤ 140737488355328) :
    Calls Tryz.prog 185 #[v, .string s] w fun e w' => ∃ v', e = .returned v' ∧ RWr B w w' v' (acc ++ quoteL s.data.toList) := by
  obtain ⟨i0, hi5, hz0, hz1, hz2⟩ := info_parts (show (Tryz.prog.info? 5).map (fun i => (i.zero, i.size, i.bytes)) = some (some (.int .u8 0), 1, 1) by kernel_rfl)
  have hql : (quoteL s.data.toList).length = (s.data.toList.flatMap quoteC).length + 2 := by simp [quoteL]
  have HLE := Lib.hid (fun i => flat_take_le s.data.toList i)
  have hmax : s.size ≤ (s.data.toList.flatMap quoteC).length := by rw [Lib.size_eq]; exact flat_ge _
  have HW0 := Lib.hid (show RWr B w w v acc from ⟨Below.refl _ _, h⟩)
  obtain ⟨nf, hnf⟩ : ∃ n, (s.data.toList.flatMap quoteC).length = n := ⟨_, rfl⟩
  rw [hql, hnf] at hlen
  rw [hnf] at hmax
  have HNF := Lib.hid hnf
  clear h hql hnf
  go_enter Tryz.func185, Tryz.ntmps185
  go_wp2_with (at_builtin; refine wpList_append_lies _ rfl _ _ 34 rfl B 5 i0 (.int .u8 0) 1 1 Tryz.underlying34 hi5 hz0 hz1 hz2 rfl (by decide) _ _ _ rfl (HW0.out.own.alloc _) ⟨w.heap.size, 0, none⟩ 1 1 [.int .u8 34] rfl rfl (World.news_of_block (blk_new _ _)) (by simp [Value.oneCell']) (by decide) (by unfold maxLen; omega) (by omega) (by have := HW0.out.below.size; simp; omega) _ rfl ?_)
  intro g w1c w1 hown hgr _ _
  have HW1 := Lib.hid (HW0.out.more hB hgr hown (bs := [34]) rfl rfl)
  clear hown hgr
  go_wp2_with fail
  generalize Value.slice (some ⟨g, 0, none⟩) (acc.length + 1) w1c = v1 at *
  go_loopw [0, 6] (fun s0 s6 wr => ∃ (i : Nat) (vr : Value), s0 = vr ∧ s6 = .int .i64 i ∧ i ≤ s.size ∧ RWr B w wr vr (acc ++ [34] ++ (s.data.toList.take i).flatMap quoteC)) (fun _ s6 _ => match s6 with | .int _ k => s.size - k.toNat | _ => 0)
  case atStart => exact ⟨0, _, rfl, rfl, Nat.zero_le _, by simpa using HW1.out⟩
  case round =>
    obtain ⟨i, vr, rfl, rfl, hi, hW⟩ := hrel
    have HW := Lib.hid hW
    clear hW HW1
    have hle := HLE.out i
    by_cases hlt : i < s.size
    · obtain ⟨c, hc⟩ : ∃ c, s[i]'hlt = c := ⟨_, rfl⟩
      have hci : s.data.toList[i]? = some c := by rw [← hc]; exact List.getElem?_eq_getElem (by rw [← Lib.size_eq]; exact hlt)
      have hstep := flat_take _ _ _ hci
      have hle2 := HLE.out (i + 1)
      rw [hstep, List.length_append, HNF.out] at hle2
      have hac : (acc ++ [34] ++ (s.data.toList.take i).flatMap quoteC).length = acc.length + 1 + ((s.data.toList.take i).flatMap quoteC).length := by rw [List.length_append, List.length_append]; rfl
      obtain ⟨na, hna⟩ : ∃ n, (acc ++ [34] ++ (s.data.toList.take i).flatMap quoteC).length = n := ⟨_, rfl⟩
      obtain ⟨nt, hnt⟩ : ∃ n, ((s.data.toList.take i).flatMap quoteC).length = n := ⟨_, rfl⟩
      rw [hna, hnt] at hac
      rw [hnt] at hle2
      obtain ⟨ac, hacc⟩ : ∃ x, acc ++ [34] ++ (s.data.toList.take i).flatMap quoteC = x := ⟨_, rfl⟩
      rw [hacc] at HW hna
      have HST := Lib.hid (show acc ++ [34] ++ (s.data.toList.take (i + 1)).flatMap quoteC = ac ++ quoteC c by rw [hstep, ← List.append_assoc, hacc])
      have HNA := Lib.hid hna
      have HAC := Lib.hid hac
      clear hci hstep hacc hnt hle
      obtain ⟨z, hz⟩ : ∃ z : Int, (c.toNat : Int) = z := ⟨_, rfl⟩
      have hzr : 0 ≤ z ∧ z < 256 := ⟨by omega, by have := c.toNat_lt; omega⟩
      have hne : ∀ k : Nat, k < 256 → c ≠ UInt8.ofNat k → (z == (k : Int)) = false := fun k hk hc => by
        have h1 : c.toNat ≠ k := fun e => hc (by rw [← e]; simp)
        rw [← hz]; simp; omega
      have HNE := Lib.hid hne
      have HZ := Lib.hid hz
      clear hne
      by_cases h34 : c = 34
      · have hz34 : z = 34 := by rw [← hz, h34]; rfl
        have hq : quoteC c = [92, 34] := by rw [h34]; decide
        rw [hq] at hle2 HST
        rw [h34] at hc
        simp only [List.length_cons, List.length_nil] at hle2
        clear hz h34 hq
        subst hz34
        go_wp2_with (at_builtin; refine wpList_append_lies _ rfl _ _ 34 rfl B 5 i0 (.int .u8 0) 1 1 Tryz.underlying34 hi5 hz0 hz1 hz2 rfl (by decide) _ _ _ rfl (HW.out.own.alloc _) ⟨wr.heap.size, 0, none⟩ 2 2 [.int .u8 92, .int .u8 34] rfl rfl (World.news_of_block (blk_new _ _)) (by simp [Value.oneCell']) (by decide) (by unfold maxLen; omega) (by omega) (by have := HW.out.below.size; simp; omega) _ rfl ?_)
        intro g w2c w2 hown hgr _ _
        have HW2 := Lib.hid (HW.out.more hB hgr hown (bs := [92, 34]) rfl (by have := HNA.out; simp; omega))
        clear hown hgr
        go_wp2_with fail
        generalize Value.slice (some ⟨g, 0, none⟩) (na + 2) w2c = v2 at *
        go_roundw
        case rel => exact ⟨i + 1, _, rfl, by simp, hlt, by rw [HST.out]; exact HW2.out⟩
        case measure => simp; omega
      have n34 : (z == 34) = false := HNE.out 34 (by decide) h34
      by_cases h92 : c = 92
      · have hz92 : z = 92 := by rw [← hz, h92]; rfl
        have hq : quoteC c = [92, 92] := by rw [h92]; decide
        rw [hq] at hle2 HST
        rw [h92] at hc
        simp only [List.length_cons, List.length_nil] at hle2
        clear hz h92 hq
        subst hz92
        go_wp2_with (at_builtin; refine wpList_append_lies _ rfl _ _ 34 rfl B 5 i0 (.int .u8 0) 1 1 Tryz.underlying34 hi5 hz0 hz1 hz2 rfl (by decide) _ _ _ rfl (HW.out.own.alloc _) ⟨wr.heap.size, 0, none⟩ 2 2 [.int .u8 92, .int .u8 92] rfl rfl (World.news_of_block (blk_new _ _)) (by simp [Value.oneCell']) (by decide) (by unfold maxLen; omega) (by omega) (by have := HW.out.below.size; simp; omega) _ rfl ?_)
        intro g w2c w2 hown hgr _ _
        have HW2 := Lib.hid (HW.out.more hB hgr hown (bs := [92, 92]) rfl (by have := HNA.out; simp; omega))
        clear hown hgr
        go_wp2_with fail
        generalize Value.slice (some ⟨g, 0, none⟩) (na + 2) w2c = v2 at *
        go_roundw
        case rel => exact ⟨i + 1, _, rfl, by simp, hlt, by rw [HST.out]; exact HW2.out⟩
        case measure => simp; omega
      have n92 : (z == 92) = false := HNE.out 92 (by decide) h92
      by_cases h8 : c = 8
      · have hz8 : z = 8 := by rw [← hz, h8]; rfl
        have hq : quoteC c = [92, 98] := by rw [h8]; decide
        rw [hq] at hle2 HST
        rw [h8] at hc
        simp only [List.length_cons, List.length_nil] at hle2
        clear hz h8 hq
        subst hz8
        go_wp2_with (at_builtin; refine wpList_append_lies _ rfl _ _ 34 rfl B 5 i0 (.int .u8 0) 1 1 Tryz.underlying34 hi5 hz0 hz1 hz2 rfl (by decide) _ _ _ rfl (HW.out.own.alloc _) ⟨wr.heap.size, 0, none⟩ 2 2 [.int .u8 92, .int .u8 98] rfl rfl (World.news_of_block (blk_new _ _)) (by simp [Value.oneCell']) (by decide) (by unfold maxLen; omega) (by omega) (by have := HW.out.below.size; simp; omega) _ rfl ?_)
        intro g w2c w2 hown hgr _ _
        have HW2 := Lib.hid (HW.out.more hB hgr hown (bs := [92, 98]) rfl (by have := HNA.out; simp; omega))
        clear hown hgr
        go_wp2_with fail
        generalize Value.slice (some ⟨g, 0, none⟩) (na + 2) w2c = v2 at *
        go_roundw
        case rel => exact ⟨i + 1, _, rfl, by simp, hlt, by rw [HST.out]; exact HW2.out⟩
        case measure => simp; omega
      have n8 : (z == 8) = false := HNE.out 8 (by decide) h8
      by_cases h12 : c = 12
      · have hz12 : z = 12 := by rw [← hz, h12]; rfl
        have hq : quoteC c = [92, 102] := by rw [h12]; decide
        rw [hq] at hle2 HST
        rw [h12] at hc
        simp only [List.length_cons, List.length_nil] at hle2
        clear hz h12 hq
        subst hz12
        go_wp2_with (at_builtin; refine wpList_append_lies _ rfl _ _ 34 rfl B 5 i0 (.int .u8 0) 1 1 Tryz.underlying34 hi5 hz0 hz1 hz2 rfl (by decide) _ _ _ rfl (HW.out.own.alloc _) ⟨wr.heap.size, 0, none⟩ 2 2 [.int .u8 92, .int .u8 102] rfl rfl (World.news_of_block (blk_new _ _)) (by simp [Value.oneCell']) (by decide) (by unfold maxLen; omega) (by omega) (by have := HW.out.below.size; simp; omega) _ rfl ?_)
        intro g w2c w2 hown hgr _ _
        have HW2 := Lib.hid (HW.out.more hB hgr hown (bs := [92, 102]) rfl (by have := HNA.out; simp; omega))
        clear hown hgr
        go_wp2_with fail
        generalize Value.slice (some ⟨g, 0, none⟩) (na + 2) w2c = v2 at *
        go_roundw
        case rel => exact ⟨i + 1, _, rfl, by simp, hlt, by rw [HST.out]; exact HW2.out⟩
        case measure => simp; omega
      have n12 : (z == 12) = false := HNE.out 12 (by decide) h12
      by_cases h10 : c = 10
      · have hz10 : z = 10 := by rw [← hz, h10]; rfl
        have hq : quoteC c = [92, 110] := by rw [h10]; decide
        rw [hq] at hle2 HST
        rw [h10] at hc
        simp only [List.length_cons, List.length_nil] at hle2
        clear hz h10 hq
        subst hz10
        go_wp2_with (at_builtin; refine wpList_append_lies _ rfl _ _ 34 rfl B 5 i0 (.int .u8 0) 1 1 Tryz.underlying34 hi5 hz0 hz1 hz2 rfl (by decide) _ _ _ rfl (HW.out.own.alloc _) ⟨wr.heap.size, 0, none⟩ 2 2 [.int .u8 92, .int .u8 110] rfl rfl (World.news_of_block (blk_new _ _)) (by simp [Value.oneCell']) (by decide) (by unfold maxLen; omega) (by omega) (by have := HW.out.below.size; simp; omega) _ rfl ?_)
        intro g w2c w2 hown hgr _ _
        have HW2 := Lib.hid (HW.out.more hB hgr hown (bs := [92, 110]) rfl (by have := HNA.out; simp; omega))
        clear hown hgr
        go_wp2_with fail
        generalize Value.slice (some ⟨g, 0, none⟩) (na + 2) w2c = v2 at *
        go_roundw
        case rel => exact ⟨i + 1, _, rfl, by simp, hlt, by rw [HST.out]; exact HW2.out⟩
        case measure => simp; omega
      have n10 : (z == 10) = false := HNE.out 10 (by decide) h10
      by_cases h13 : c = 13
      · have hz13 : z = 13 := by rw [← hz, h13]; rfl
        have hq : quoteC c = [92, 114] := by rw [h13]; decide
        rw [hq] at hle2 HST
        rw [h13] at hc
        simp only [List.length_cons, List.length_nil] at hle2
        clear hz h13 hq
        subst hz13
        go_wp2_with (at_builtin; refine wpList_append_lies _ rfl _ _ 34 rfl B 5 i0 (.int .u8 0) 1 1 Tryz.underlying34 hi5 hz0 hz1 hz2 rfl (by decide) _ _ _ rfl (HW.out.own.alloc _) ⟨wr.heap.size, 0, none⟩ 2 2 [.int .u8 92, .int .u8 114] rfl rfl (World.news_of_block (blk_new _ _)) (by simp [Value.oneCell']) (by decide) (by unfold maxLen; omega) (by omega) (by have := HW.out.below.size; simp; omega) _ rfl ?_)
        intro g w2c w2 hown hgr _ _
        have HW2 := Lib.hid (HW.out.more hB hgr hown (bs := [92, 114]) rfl (by have := HNA.out; simp; omega))
        clear hown hgr
        go_wp2_with fail
        generalize Value.slice (some ⟨g, 0, none⟩) (na + 2) w2c = v2 at *
        go_roundw
        case rel => exact ⟨i + 1, _, rfl, by simp, hlt, by rw [HST.out]; exact HW2.out⟩
        case measure => simp; omega
      have n13 : (z == 13) = false := HNE.out 13 (by decide) h13
      by_cases h9 : c = 9
      · have hz9 : z = 9 := by rw [← hz, h9]; rfl
        have hq : quoteC c = [92, 116] := by rw [h9]; decide
        rw [hq] at hle2 HST
        rw [h9] at hc
        simp only [List.length_cons, List.length_nil] at hle2
        clear hz h9 hq
        subst hz9
        go_wp2_with (at_builtin; refine wpList_append_lies _ rfl _ _ 34 rfl B 5 i0 (.int .u8 0) 1 1 Tryz.underlying34 hi5 hz0 hz1 hz2 rfl (by decide) _ _ _ rfl (HW.out.own.alloc _) ⟨wr.heap.size, 0, none⟩ 2 2 [.int .u8 92, .int .u8 116] rfl rfl (World.news_of_block (blk_new _ _)) (by simp [Value.oneCell']) (by decide) (by unfold maxLen; omega) (by omega) (by have := HW.out.below.size; simp; omega) _ rfl ?_)
        intro g w2c w2 hown hgr _ _
        have HW2 := Lib.hid (HW.out.more hB hgr hown (bs := [92, 116]) rfl (by have := HNA.out; simp; omega))
        clear hown hgr
        go_wp2_with fail
        generalize Value.slice (some ⟨g, 0, none⟩) (na + 2) w2c = v2 at *
        go_roundw
        case rel => exact ⟨i + 1, _, rfl, by simp, hlt, by rw [HST.out]; exact HW2.out⟩
        case measure => simp; omega
      have n9 : (z == 9) = false := HNE.out 9 (by decide) h9
      have hsh : shortB c = 0 := by unfold shortB; simp [h34, h92, h8, h12, h10, h13, h9]
      clear h34 h92 h8 h12 h10 h13 h9
      by_cases h32 : c < 32
      · have h32' : z < 32 := by rw [← hz]; have := UInt8.lt_iff_toNat_lt.1 h32; simp at this; omega
        have hq : quoteC c = [92, 117, 48, 48, hexB (c.toNat / 16), hexB (c.toNat % 16)] := by unfold quoteC; rw [hsh, if_neg (by decide), if_pos h32]
        rw [hq] at hle2 HST
        obtain ⟨kh, hkh⟩ : ∃ k, c.toNat / 16 = k := ⟨_, rfl⟩
        obtain ⟨kl, hkl⟩ : ∃ k, c.toNat % 16 = k := ⟨_, rfl⟩
        rw [hkh, hkl] at HST
        simp only [List.length_cons, List.length_nil] at hle2
        have hc' : c.toNat < 32 := by have := UInt8.lt_iff_toNat_lt.1 h32; simpa using this
        have g1 : z.tdiv 16 = (kh : Int) := by rw [← hz, ← hkh]; exact Int.ofNat_tdiv c.toNat 16 ▸ rfl
        have g2 : z.tmod 16 = (kl : Int) := by rw [← hz, ← hkl]; exact Int.ofNat_tmod c.toNat 16 ▸ rfl
        have hkh16 : kh < 16 := by omega
        have hkl16 : kl < 16 := by omega
        clear hq hsh h32 hkh hkl hc'
        go_upto_region 21 with fail
        have hx1 := hex_at kh hkh16
        have hx2 := hex_at kl hkl16
        obtain ⟨xh, hxh⟩ : ∃ x, hexB kh = x := ⟨_, rfl⟩
        obtain ⟨xl, hxl⟩ : ∃ x, hexB kl = x := ⟨_, rfl⟩
        rw [hxh] at hx1
        rw [hxl] at hx2
        rw [hxh, hxl] at HST
        have hI1 : (kh : Int) < 16 := by omega
        have hw1 : IntKind.u8.wrap (kh : Int) = kh := IntWalk.u8_in _ (by omega)
        have hw2 : IntKind.u8.wrap (kl : Int) = kl := IntWalk.u8_in _ (by omega)
        have hI2 : (kl : Int) < 16 := by omega
        clear hxh hxl
        have HOW := Lib.hid (own_turns HW.out.own ((Turns.refl [] wr).drew) (by simp))
        have HDR := Lib.hid (show RWr B w wr.drew _ ac from ⟨below_drew HW.out.below, HOW.out⟩)
        go_region_law (first
          | (refine step_append_lies _ rfl (.tmp 68) (.tmp 77) 34 rfl B 5 i0 (.int .u8 0) 1 1 Tryz.underlying34 hi5 hz0 hz1 hz2 rfl (by decide) u0 ac.length (Lib.byteCells ac) (by simp [Act.eval]) (HDR.out.own.alloc _) ⟨wr.heap.size, 0, none⟩ 6 6 [.int .u8 92, .int .u8 117, .int .u8 48, .int .u8 48, .int .u8 xh.toNat, .int .u8 xl.toNat] (by simp [Act.eval]) rfl (World.news_of_block (blk_new wr.drew _)) (by simp [Value.oneCell']) (by decide) (by unfold maxLen; omega) (by omega) (by have := HDR.out.below.size; simp at this ⊢; omega) _ rfl ?_
             intro g cap w2 hown hgr _ _
             have HW2 := Lib.hid (HDR.out.more hB hgr hown (bs := [92, 117, 48, 48, xh, xl]) rfl rfl)
             clear hown hgr)
          )
        all_goals
          go_wp2_with fail
          go_roundw
          case rel => exact ⟨i + 1, _, rfl, by simp, hlt, by rw [HST.out]; have h1 := HW2.out; rw [HNA.out, HAC.out] at h1; exact h1⟩
          case measure => simp; omega
      · have h32' : ¬ z < 32 := fun h => h32 (UInt8.lt_iff_toNat_lt.2 (by rw [← hz] at h; simp; omega))
        have hq : quoteC c = [c] := by unfold quoteC; rw [hsh, if_neg (by decide), if_neg h32]
        rw [hq] at hle2 HST
        simp only [List.length_cons, List.length_nil] at hle2
        have HC := Lib.hid hz
        clear hq hsh h32
        go_wp2_with (at_builtin; refine wpList_append_lies _ rfl _ _ 34 rfl B 5 i0 (.int .u8 0) 1 1 Tryz.underlying34 hi5 hz0 hz1 hz2 rfl (by decide) _ _ _ rfl (HW.out.own.alloc _) ⟨wr.heap.size, 0, none⟩ 1 1 [.int .u8 z] rfl rfl (World.news_of_block (blk_new _ _)) (by simp [Value.oneCell']) (by decide) (by unfold maxLen; omega) (by omega) (by have := HW.out.below.size; simp; omega) _ rfl ?_)
        intro g w2c w2 hown hgr _ _
        have HW2 := Lib.hid (HW.out.more hB hgr hown (bs := [c]) (by rw [← HZ.out]; rfl) (by have := HNA.out; simp; omega))
        clear hown hgr
        go_wp2_with fail
        generalize Value.slice (some ⟨g, 0, none⟩) (na + 1) w2c = v2 at *
        go_roundw
        case rel => exact ⟨i + 1, _, rfl, by simp, hlt, by rw [HST.out]; exact HW2.out⟩
        case measure => simp; omega
    · have hie : i = s.size := by omega
      subst hie
      rw [List.take_of_length_le (by rw [Lib.size_eq]; exact Nat.le_refl _)] at HW
      have hac : (acc ++ [34] ++ s.data.toList.flatMap quoteC).length = acc.length + 1 + nf := by rw [List.length_append, List.length_append, HNF.out]; rfl
      obtain ⟨ac, hacc⟩ : ∃ x, acc ++ [34] ++ s.data.toList.flatMap quoteC = x := ⟨_, rfl⟩
      rw [hacc] at HW hac
      obtain ⟨na, hna⟩ : ∃ n, ac.length = n := ⟨_, rfl⟩
      rw [hna] at hac
      have HNA := Lib.hid hna
      have HQ := Lib.hid (show acc ++ quoteL s.data.toList = ac ++ [34] by rw [← hacc]; simp [quoteL])
      clear hacc hle
      go_wp2_with (at_builtin; refine wpList_append_lies _ rfl _ _ 34 rfl B 5 i0 (.int .u8 0) 1 1 Tryz.underlying34 hi5 hz0 hz1 hz2 rfl (by decide) _ _ _ rfl (HW.out.own.alloc _) ⟨wr.heap.size, 0, none⟩ 1 1 [.int .u8 34] rfl rfl (World.news_of_block (blk_new _ _)) (by simp [Value.oneCell']) (by decide) (by unfold maxLen; omega) (by omega) (by have := HW.out.below.size; simp; omega) _ rfl ?_)
      intro g w2c w2 hown hgr _ _
      have HW2 := Lib.hid (HW.out.more hB hgr hown (bs := [34]) rfl (by have := HNA.out; simp; omega))
      clear hown hgr
      go_wp2_with fail
      generalize Value.slice (some ⟨g, 0, none⟩) (na + 1) w2c = v2 at *
      go_ret
      exact ⟨_, rfl, by rw [HQ.out]; exact HW2.out⟩

end Toc
