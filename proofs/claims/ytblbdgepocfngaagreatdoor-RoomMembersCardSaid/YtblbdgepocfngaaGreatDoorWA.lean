/-
  Acc: What jsonval's values answer: kind, text, number, members.
  RoomL: What package room says of events and rooms, as plain functions on values. No program in sight; no condition.
  Region: A region that draws its order, proved by what each of its operations keeps: no order is walked. No condition.
-/
import Derived.Test.YtblbdgepocfngaaGreatDoorW8
import Derived.Test.YtblbdgepocfngaaGreatDoorW9
import Derived.Test.YtblbdgepocfngaaGreatDoorW6
import Derived.Orders
namespace Toc
open Go Go.RowKit Go.Proofs

def kindJ : JV → Nat
  | .null => 0 | .bool _ => 1 | .int _ => 2 | .text _ => 3 | .list _ => 4 | .obj _ => 5
def truthJ : JV → Bool
  | .bool b => b | _ => false
def numJ : JV → Int
  | .int n => n | _ => 0
def textJ : JV → Bytes
  | .text s => s | _ => []
def getJ : JV → Bytes → Option JV
  | .obj l, k => getK l k | _, _ => none
def lenJ : JV → Nat
  | .list l => l.length | .obj l => l.length | _ => 0
def itemJ : JV → Nat → Option JV
  | .list l, i => l[i]? | .obj l, i => (l[i]?).map (·.2) | _, _ => none
def keyJ : JV → Nat → Bytes
  | .obj l, i => ((l[i]?).map (·.1)).getD [] | _, _ => []
def kindO (o : Option JV) : Nat := (o.map kindJ).getD 0
def truthO (o : Option JV) : Bool := (o.map truthJ).getD false
def numO (o : Option JV) : Int := (o.map numJ).getD 0
def textO (o : Option JV) : Bytes := (o.map textJ).getD []
def getO (o : Option JV) (k : Bytes) : Option JV := o.bind fun v => getJ v k
def lenO (o : Option JV) : Nat := (o.map lenJ).getD 0
def isTextO (o : Option JV) : Bool := kindO o == 3

/-- A pointer to a value, or nil. -/
def PV (r : Ro) (pv : Value) (o : Option JV) : Prop := match o with | none => pv = .pointer none | some v => ∃ q, pv = ptrV q ∧ IsV r q v
def OkO (o : Option JV) : Prop := ∀ v, o = some v → JOk v

theorem PV.mono {r r' : Ro} (hr : r.le r') {pv : Value} {o : Option JV} (h : PV r pv o) : PV r' pv o := by
  cases o with
  | none => exact h
  | some v => obtain ⟨q, h1, h2⟩ := h; exact ⟨q, h1, h2.mono hr⟩
theorem PV.none_iff {r : Ro} {pv : Value} {o : Option JV} (h : PV r pv o) : (pv = .pointer none ∧ o = none) ∨ ∃ q v, pv = ptrV q ∧ o = some v ∧ IsV r q v := by
  cases o with
  | none => exact .inl ⟨h, rfl⟩
  | some v => obtain ⟨q, h1, h2⟩ := h; exact .inr ⟨q, v, h1, rfl, h2⟩

/-- A value's block. -/
theorem IsV.blk {r : Ro} {q : Nat} {v : JV} (h : IsV r q v) : ∃ sv mv, r q = some (vObj (kindJ v) (truthJ v) (numJ v) (mkS (textJ v)) sv mv) := by
  cases h with
  | null h => exact ⟨_, _, h⟩
  | bool h => exact ⟨_, _, h⟩
  | int h => exact ⟨_, _, h⟩
  | text h => exact ⟨_, _, h⟩
  | list h => exact ⟨_, _, h⟩
  | obj h => exact ⟨_, _, h⟩

theorem getJ_ok {v x : JV} {k : Bytes} (h : JOk v) (hg : getJ v k = some x) : JOk x := by
  cases h with
  | obj _ _ _ h => exact h _ (getK_some_mem hg)
  | _ => cases hg
theorem getO_ok {o : Option JV} {k : Bytes} (h : OkO o) : OkO (getO o k) := fun x hx => by
  cases o with
  | none => cases hx
  | some v => exact getJ_ok (h v rfl) hx
theorem textO_len {o : Option JV} (h : OkO o) : (textO o).length ≤ 1073741824 := by
  cases o with
  | none => simp [textO]
  | some v => cases h v rfl <;> simp [textO, textJ] <;> assumption

set_option maxRecDepth 100000 in
set_option maxHeartbeats 1000000 in
theorem kind_any (r : Ro) (w : World) (hh : Has r w) {pv : Value} {o : Option JV} (hp : PV r pv o) {k : Int} (hk : (kindO o : Int) = k) :
    Calls Tryz.prog 65 #[pv] w fun e w' => e = .returned (.int .i64 k) ∧ w = w' := by
  subst hk
  rcases hp.none_iff with ⟨rfl, rfl⟩ | ⟨q, v, rfl, rfl, hv⟩
  · go_enter Tryz.func65, Tryz.ntmps65
    go_wp2_with fail
    go_ret
    exact ⟨rfl, rfl⟩
  · obtain ⟨sv, mv, hb⟩ := hv.blk
    have c0 : w.cell? ⟨q, 0, none⟩ = some (.int .i64 (kindJ v)) := blk_cell (hh _ _ hb) 0
    have hk : ∃ k : Int, (kindJ v : Int) = k := ⟨_, rfl⟩
    obtain ⟨k, hk⟩ := hk
    have hko : (kindO (some v) : Int) = k := hk
    rw [hk] at c0
    rw [hko]
    clear hb hv hk hko hh hp
    go_enter Tryz.func65, Tryz.ntmps65
    go_wp2_with fail
    go_ret
    exact ⟨rfl, rfl⟩

set_option maxRecDepth 100000 in
set_option maxHeartbeats 1000000 in
theorem vtext_any (r : Ro) (w : World) (hh : Has r w) {pv : Value} {o : Option JV} (hp : PV r pv o) {s : ByteArray} (hk : mkS (textO o) = s) :
    Calls Tryz.prog 145 #[pv] w fun e w' => e = .returned (.string s) ∧ w = w' := by
  subst hk
  rcases hp.none_iff with ⟨rfl, rfl⟩ | ⟨q, v, rfl, rfl, hv⟩
  · go_enter Tryz.func145, Tryz.ntmps145
    go_wp2_with fail
    go_ret
    exact ⟨rfl, rfl⟩
  · obtain ⟨sv, mv, hb⟩ := hv.blk
    have c0 : w.cell? ⟨q, 3, none⟩ = some (.string (mkS (textJ v))) := blk_cell (hh _ _ hb) 3
    obtain ⟨s, hs⟩ : ∃ s, mkS (textJ v) = s := ⟨_, rfl⟩
    have hso : mkS (textO (some v)) = s := hs
    rw [hs] at c0
    rw [hso]
    clear hb hv hs hso hh hp
    go_enter Tryz.func145, Tryz.ntmps145
    go_wp2_with fail
    go_ret
    exact ⟨rfl, rfl⟩

set_option maxRecDepth 100000 in
set_option maxHeartbeats 1000000 in
theorem vnumber_any (r : Ro) (w : World) (hh : Has r w) {pv : Value} {o : Option JV} (hp : PV r pv o) {n : Int} (hk : numO o = n) :
    Calls Tryz.prog 214 #[pv] w fun e w' => e = .returned (.int .i64 n) ∧ w = w' := by
  subst hk
  rcases hp.none_iff with ⟨rfl, rfl⟩ | ⟨q, v, rfl, rfl, hv⟩
  · go_enter Tryz.func214, Tryz.ntmps214
    go_wp2_with fail
    go_ret
    exact ⟨rfl, rfl⟩
  · obtain ⟨sv, mv, hb⟩ := hv.blk
    have c0 : w.cell? ⟨q, 2, none⟩ = some (.int .i64 (numJ v)) := blk_cell (hh _ _ hb) 2
    obtain ⟨s, hs⟩ : ∃ s, numJ v = s := ⟨_, rfl⟩
    have hso : numO (some v) = s := hs
    rw [hs] at c0
    rw [hso]
    clear hb hv hs hso hh hp
    go_enter Tryz.func214, Tryz.ntmps214
    go_wp2_with fail
    go_ret
    exact ⟨rfl, rfl⟩

/-- The place of a key, and what is there. -/
theorem keyPlace_get {α : Type} {ms : List (Bytes × α)} (h : Rising ms) (k : Bytes) : (keyAt ms (keyPlace ms k) k = true → ∃ v, ms[keyPlace ms k]? = some (k, v) ∧ getK ms k = some v) ∧ (keyAt ms (keyPlace ms k) k = false → getK ms k = none) := by
  constructor
  · intro hk
    unfold keyAt at hk
    split at hk
    · rename_i m hm
      obtain ⟨a, v⟩ := m
      have : a = k := by simpa using hk
      subst this
      exact ⟨v, hm, getK_of_mem (rising_keys h) (List.mem_of_getElem? hm)⟩
    · cases hk
  · intro hk
    rw [getK_none_iff]
    intro p hp he
    obtain ⟨i, hi, hpi⟩ := List.getElem_of_mem hp
    have hpr := (rising_iff ms).1 h
    have hlen : keyPlace ms k = i := by
      unfold keyPlace
      refine takeWhile_len _ ms i (by omega) (fun t ht hti => ?_) (fun hi' => ?_)
      · have := List.pairwise_iff_getElem.1 hpr t i ht hi hti
        rw [hpi, he] at this
        simpa using this
      · rw [hpi, he, cb_self]; rfl
    rw [hlen] at hk
    unfold keyAt at hk
    rw [List.getElem?_eq_getElem hi, hpi] at hk
    simp [he] at hk

def GetRet (r : Ro) (o : Option JV) (w : World) (e : Ending) (w' : World) : Prop := ∃ pv, e = .returned pv ∧ PV r pv o ∧ Below w.heap.size w w'

/-- A value's members, none where it is no object. -/
def memsJ : JV → List (Bytes × JV)
  | .obj l => l | _ => []
theorem IsV.mems {r : Ro} {q : Nat} {v : JV} (h : IsV r q v) : ∃ (sv : Value) (qs : List Nat), (∃ (a b c d e : Value), r q = some (.cells #[a, b, c, d, e, sv] 117 (0, 0))) ∧ RowR r sv (memsJ v).length (memC (memsJ v) qs) ∧ qs.length = (memsJ v).length ∧
    ∀ (i : Nat) (m : Bytes × JV), (memsJ v)[i]? = some m → ∃ q', qs[i]? = some q' ∧ IsV r q' m.2 := by
  cases h with
  | obj h1 h2 h3 h4 =>
    refine ⟨_, _, ⟨_, _, _, _, _, h1⟩, h2, h3, fun i m hm => ?_⟩
    obtain ⟨hi, rfl⟩ := List.getElem?_eq_some_iff.1 hm
    have hi' : i < _ := Nat.lt_of_lt_of_eq hi h3.symm
    exact ⟨_, List.getElem?_eq_getElem hi', h4 i hi' hi⟩
  | null h => exact ⟨_, [], ⟨_, _, _, _, _, h⟩, .inl ⟨rfl, rfl, rfl⟩, rfl, fun i m hm => by simp [memsJ] at hm⟩
  | bool h => exact ⟨_, [], ⟨_, _, _, _, _, h⟩, .inl ⟨rfl, rfl, rfl⟩, rfl, fun i m hm => by simp [memsJ] at hm⟩
  | int h => exact ⟨_, [], ⟨_, _, _, _, _, h⟩, .inl ⟨rfl, rfl, rfl⟩, rfl, fun i m hm => by simp [memsJ] at hm⟩
  | text h => exact ⟨_, [], ⟨_, _, _, _, _, h⟩, .inl ⟨rfl, rfl, rfl⟩, rfl, fun i m hm => by simp [memsJ] at hm⟩
  | list h => exact ⟨_, [], ⟨_, _, _, _, _, h⟩, .inl ⟨rfl, rfl, rfl⟩, rfl, fun i m hm => by simp [memsJ] at hm⟩
theorem getJ_mems (v : JV) (k : Bytes) : getJ v k = getK (memsJ v) k := by cases v <;> rfl
theorem memsJ_ok {v : JV} (h : JOk v) : (memsJ v).length ≤ 1048576 ∧ Rising (memsJ v) := by
  cases h <;> first | exact ⟨by simp [memsJ], rising_nil⟩ | exact ⟨‹_›, ‹_›⟩

set_option maxRecDepth 100000 in
set_option maxHeartbeats 4000000 in
theorem get_any (r : Ro) (w : World) (hh : Has r w) {pv : Value} {o : Option JV} (hp : PV r pv o) (hok : OkO o) (key : ByteArray) :
    Calls Tryz.prog 67 #[pv, .string key] w fun e w' => GetRet r (getO o key.data.toList) w e w' := by
  rcases hp.none_iff with ⟨rfl, rfl⟩ | ⟨q, v, rfl, rfl, hv⟩
  · go_enter Tryz.func67, Tryz.ntmps67
    go_wp2_with fail
    go_ret
    exact ⟨_, rfl, rfl, Below.refl _ _⟩
  · obtain ⟨sv, qs, ⟨a, b, c, d, e, hb⟩, hrow, hql, hqs⟩ := hv.mems
    obtain ⟨hlen, hris⟩ := memsJ_ok (hok v rfl)
    have hoo : getO (some v) key.data.toList = getK (memsJ v) key.data.toList := getJ_mems v _
    rw [hoo]
    obtain ⟨ms, hms⟩ : ∃ ms, memsJ v = ms := ⟨_, rfl⟩
    rw [hms] at hrow hql hqs hlen hris ⊢
    have c5 : w.cell? ⟨q, 5, none⟩ = some sv := blk_cell (hh _ _ hb) 5
    have HS := Lib.hid (search_ro w r hh sv ms.length ms qs key hlen hrow rfl hql hris)
    obtain ⟨h1, h2⟩ := keyPlace_get hris key.data.toList
    have hkp := keyPlace_le ms key.data.toList
    obtain ⟨i, hi⟩ : ∃ i, keyPlace ms key.data.toList = i := ⟨_, rfl⟩
    obtain ⟨f, hf⟩ : ∃ f, keyAt ms i key.data.toList = f := ⟨_, rfl⟩
    rw [hi] at HS h1 h2 hkp
    rw [hf] at HS h1 h2
    have H1 := Lib.hid h1
    have H2 := Lib.hid h2
    have HQ := Lib.hid hqs
    have HR := Lib.hid hrow
    have HH := Lib.hid hh
    have HB := Lib.hid hb
    clear hrow hql hqs hris h1 h2 hi hf hv hb hms hoo hok hp hh
    go_enter Tryz.func67, Tryz.ntmps67
    go_wp2_with fail
    refine HS.out.mono ?_
    rintro e w1 ⟨rfl, hb1⟩
    have c5' : w1.cell? ⟨q, 5, none⟩ = some sv := (hb1.cell (p := ⟨q, 5, none⟩) (cell_block_lt c5)).trans c5
    have HB1 := Lib.hid hb1
    have HH1 := Lib.hid (HH.out.below hb1)
    clear hb1
    cases f with
    | false =>
      have HN := Lib.hid (H2.out rfl)
      go_wp2_with fail
      go_ret
      rw [HN.out]
      exact ⟨_, rfl, rfl, HB1.out⟩
    | true =>
      obtain ⟨x, hx, hgx⟩ := H1.out rfl
      obtain ⟨qx, hqx, hvx⟩ := HQ.out i _ hx
      obtain ⟨e1, e2⟩ := memC_get ms qs _ _ _ hx hqx
      have hil := (List.getElem?_eq_some_iff.1 hx).1
      obtain ⟨sa, sn, sc, rfl⟩ : ∃ a n c, sv = .slice a n c := by
        rcases HR.out with ⟨_, _, h⟩ | ⟨_, _, _, _, _, _, h, _⟩
        · exact ⟨_, _, _, h⟩
        · exact ⟨_, _, _, h⟩
      have hsn : sn = ms.length := by
        rcases HR.out with ⟨_, _, h⟩ | ⟨_, _, _, _, _, _, h, _⟩
        · cases h; omega
        · cases h; rfl
      subst hsn
      obtain ⟨g, off, cur, h2, rfl, h6⟩ := row_form HH1.out HR.out (by omega)
      have k1 := h6 _ _ e1
      have k2 : w1.cell? ⟨g, off + i * 2 + 1, none⟩ = some (ptrV qx) := h6 _ _ e2
      have HX := Lib.hid hx
      have HGX := Lib.hid hgx
      have HVX := Lib.hid hvx
      have i0 : (0 : Int) ≤ i := by omega
      have i1 : (i : Int) < ms.length := by omega
      clear hx hgx hqx hvx e1 e2 h2 h6
      go_wp2_with fail
      go_ret
      rw [HGX.out]
      exact ⟨_, rfl, ⟨qx, rfl, HVX.out⟩, HB1.out⟩

def TextRet (o : Option JV) (w : World) (e : Ending) (w' : World) : Prop := e = .returned (.tuple #[.string (mkS (textO o)), .bool (isTextO o)]) ∧ Below w.heap.size w w'

set_option maxRecDepth 100000 in
set_option maxHeartbeats 4000000 in
theorem rtext_any (r : Ro) (w : World) (hh : Has r w) {pv : Value} {o : Option JV} (hp : PV r pv o) (hok : OkO o) (key : ByteArray) {o' : Option JV} (ho' : getO o key.data.toList = o') :
    Calls Tryz.prog 66 #[pv, .string key] w fun e w' => TextRet o' w e w' := by
  have HG := Lib.hid (get_any r w hh hp hok key)
  rw [ho'] at HG
  have HH := Lib.hid hh
  clear ho' hh hp hok
  go_enter Tryz.func66, Tryz.ntmps66
  go_wp2_with fail
  refine HG.out.mono ?_
  rintro e w1 ⟨pv1, rfl, hpv, hb⟩
  have HB := Lib.hid hb
  have HV := Lib.hid (vtext_any r w1 (HH.out.below hb) hpv rfl)
  have HK := Lib.hid (fun (k : Int) hk => kind_any r w1 (HH.out.below hb) hpv (k := k) hk)
  have hcase := hpv.none_iff
  clear hb hpv
  obtain ⟨s, hs⟩ : ∃ s, mkS (textO o') = s := ⟨_, rfl⟩
  rw [hs] at HV
  have HS := Lib.hid hs
  clear hs
  rcases hcase with ⟨rfl, rfl⟩ | ⟨q, v, rfl, rfl, hv⟩
  · go_wp2_with fail
    refine HV.out.mono ?_
    rintro e w2 ⟨rfl, rfl⟩
    go_wp2_with fail
    go_ret2
    exact ⟨by rw [← HS.out]; rfl, HB.out⟩
  · clear hv
    by_cases h3 : kindJ v = 3
    · have HK3 := Lib.hid (HK.out 3 (by show ((kindJ v : Nat) : Int) = 3; rw [h3]; rfl))
      have HI := Lib.hid (show isTextO (some v) = true by unfold isTextO kindO; simp [h3])
      clear h3
      go_wp2_with fail
      refine HV.out.mono ?_
      rintro e w2 ⟨rfl, rfl⟩
      go_wp2_with fail
      refine HK3.out.mono ?_
      rintro e w2 ⟨rfl, rfl⟩
      go_wp2_with fail
      go_ret2
      exact ⟨by rw [← HS.out, HI.out]; rfl, HB.out⟩
    · obtain ⟨k, hk⟩ : ∃ k : Int, ((kindJ v : Nat) : Int) = k := ⟨_, rfl⟩
      have hne : (k == 3) = false := by rw [beq_eq_false_iff_ne]; omega
      have HK3 := Lib.hid (HK.out k hk)
      have HI := Lib.hid (show isTextO (some v) = false by unfold isTextO kindO; simpa using h3)
      clear h3 hk
      go_wp2_with fail
      refine HV.out.mono ?_
      rintro e w2 ⟨rfl, rfl⟩
      go_wp2_with fail
      refine HK3.out.mono ?_
      rintro e w2 ⟨rfl, rfl⟩
      go_wp2_with fail
      go_ret2
      exact ⟨by rw [← HS.out, HI.out]; rfl, HB.out⟩

end Toc

namespace Toc
open Go Go.RowKit Go.Proofs

def sEventId : Bytes := [101, 118, 101, 110, 116, 95, 105, 100]
def sRoomId : Bytes := [114, 111, 111, 109, 95, 105, 100]
def sSender : Bytes := [115, 101, 110, 100, 101, 114]
def sType : Bytes := [116, 121, 112, 101]
def sContent : Bytes := [99, 111, 110, 116, 101, 110, 116]
def sStateKey : Bytes := [115, 116, 97, 116, 101, 95, 107, 101, 121]
def sRedacts : Bytes := [114, 101, 100, 97, 99, 116, 115]
def sRedaction : Bytes := [109, 46, 114, 111, 111, 109, 46, 114, 101, 100, 97, 99, 116, 105, 111, 110]
def sMember : Bytes := [109, 46, 114, 111, 111, 109, 46, 109, 101, 109, 98, 101, 114]
def sCreate : Bytes := [109, 46, 114, 111, 111, 109, 46, 99, 114, 101, 97, 116, 101]
def sPower : Bytes := [109, 46, 114, 111, 111, 109, 46, 112, 111, 119, 101, 114, 95, 108, 101, 118, 101, 108, 115]
def sMembership : Bytes := [109, 101, 109, 98, 101, 114, 115, 104, 105, 112]
def sDisplayname : Bytes := [100, 105, 115, 112, 108, 97, 121, 110, 97, 109, 101]
def sUsers : Bytes := [117, 115, 101, 114, 115]
def sUsersDefault : Bytes := [117, 115, 101, 114, 115, 95, 100, 101, 102, 97, 117, 108, 116]
def sNotifications : Bytes := [110, 111, 116, 105, 102, 105, 99, 97, 116, 105, 111, 110, 115]
def sLeave : Bytes := [108, 101, 97, 118, 101]
def sJoin : Bytes := [106, 111, 105, 110]
def sInvite : Bytes := [105, 110, 118, 105, 116, 101]
def sBan : Bytes := [98, 97, 110]

structure Ev where
  id : Bytes
  room : Bytes
  sender : Bytes
  type : Bytes
  state : Bool
  key : Bytes
  redacts : Bytes
  body : JV

/-- The four texts that must be there. -/
def fourOk (v : JV) : Bool := isTextO (getJ v sEventId) && isTextO (getJ v sRoomId) && isTextO (getJ v sSender) && isTextO (getJ v sType)
def redOf (v : JV) : Bool := textO (getJ v sType) == sRedaction && (getJ v sRedacts).isSome
def evOf (v : JV) : Ev :=
  { id := textO (getJ v sEventId), room := textO (getJ v sRoomId), sender := textO (getJ v sSender), type := textO (getJ v sType),
    state := (getJ v sStateKey).isSome, key := textO (getJ v sStateKey), redacts := if redOf v then textO (getJ v sRedacts) else [], body := v }
def evBad (v : JV) : Bool :=
  !eventB (evOf v).id || !roomB (evOf v).room || !userB (evOf v).sender || (evOf v).type == [] || decide (60 < (evOf v).type.length) || decide (60 < (evOf v).key.length) || (redOf v && !eventB (evOf v).redacts)
/-- An event out of a value: 90: it is none; 92: a name is none. -/
def readEvJ (v : JV) : Int × Option Ev :=
  if kindJ v ≠ 5 then (90, none)
  else if fourOk v = false then (90, none)
  else if kindO (getJ v sContent) ≠ 5 then (90, none)
  else if (getJ v sStateKey).isSome = true ∧ isTextO (getJ v sStateKey) = false then (90, none)
  else if redOf v = true ∧ isTextO (getJ v sRedacts) = false then (90, none)
  else if evBad v = true then (92, none)
  else (0, some (evOf v))
def readEv (o : Option JV) : Int × Option Ev := match o with | none => (90, none) | some v => readEvJ v

end Toc

namespace Toc
open Go Go.RowKit

abbrev also (done : Nat → Bool) (i : Nat) : Nat → Bool := fun j => j == i || done j
abbrev withVal (val : Nat → Value) (i : Nat) (v : Value) : Nat → Value := fun j => if j = i then v else val j

section
variable {P : Program} {ops : Array Oper} {Q : Exit → Act → World → Prop}

def unlisted (n : Nat) (listed : Array Bool) : Nat := (List.range n).countP fun i => !listed.getD i true

theorem unlisted_set {n i : Nat} {listed : Array Bool} (hi : i < n) (hs : listed.size = n) (h : listed.getD i true = false) : unlisted n (listed.setIfInBounds i true) + 1 ≤ unlisted n listed := by
  unfold unlisted
  have h1 : (List.range n).Perm (i :: (List.range n).erase i) := List.perm_cons_erase (List.mem_range.2 hi)
  have hn : i ∉ (List.range n).erase i := by
    intro hm
    have := List.nodup_range (n := n)
    exact (List.Nodup.mem_erase_iff this).1 hm |>.1 rfl
  rw [h1.countP_eq, h1.countP_eq, List.countP_cons, List.countP_cons]
  have e1 : (listed.setIfInBounds i true).getD i true = true := by simp [hs, hi]
  rw [e1, h]
  have : ((List.range n).erase i).countP (fun j => !(listed.setIfInBounds i true).getD j true) = ((List.range n).erase i).countP fun j => !listed.getD j true := by
    refine List.countP_congr fun j hj => ?_
    have hne : j ≠ i := fun e => hn (e ▸ hj)
    simp [Ne.symm hne]
  rw [this]
  simp

theorem done_set {n i : Nat} {listed : Array Bool} (hi : i < n) (hs : listed.size = n) : (fun j => (listed.setIfInBounds i true).getD j false) = also (fun j => listed.getD j false) i := by
  funext j
  unfold also
  by_cases hj : j = i
  · subst hj; simp [hs, hi]
  · simp [Ne.symm hj, hj]

theorem wpAny_inv (I : (Nat → Bool) → Act → World → Prop)
    (hdag : ∀ (i : Nat) (o : Oper), ops[i]? = some o → ∀ e ∈ o.after, e.on < i)
    (hstep : ∀ (done : Nat → Bool) (i : Nat) (o : Oper) (a : Act) (w : World), ops[i]? = some o → done i = false → (∀ e ∈ o.after, Region.binds .any e = true → done e.on = true) → I done a w → wpOp P ops Q i (fun a' w' => I (also done i) a' w') a w)
    (hend : ∀ (done : Nat → Bool) (a : Act) (w : World), (∀ i, i < ops.size → done i = true) → I done a w → Q .normal a w) :
    ∀ (fuel : Nat) (listed : Array Bool) (a : Act) (w : World), listed.size = ops.size → unlisted ops.size listed ≤ fuel → I (fun i => listed.getD i false) a w → wpAny P .any ops Q fuel listed a w := by
  have hall : ∀ (listed : Array Bool), listed.size = ops.size → Region.ready .any ops listed = [] → ∀ i, i < ops.size → listed.getD i false = true := by
    intro listed hs hr i
    induction i using Nat.strongRecOn with
    | ind i ih =>
      intro hi
      cases hb : listed.getD i false with
      | true => rfl
      | false =>
        exfalso
        have hm : i ∈ Region.ready .any ops listed := by
          rw [mem_ready]
          refine ⟨?_, ops[i], Array.getElem?_eq_getElem hi, fun e he _ => ?_⟩
          · have : i < listed.size := by omega
            simp [this] at hb ⊢
            exact hb
          · have hlt := hdag i _ (Array.getElem?_eq_getElem hi) e he
            exact ih e.on hlt (by omega)
        rw [hr] at hm
        cases hm
  intro fuel
  induction fuel with
  | zero =>
    intro listed a w hs hc hI
    have hr : Region.ready .any ops listed = [] := by
      cases hrr : Region.ready .any ops listed with
      | nil => rfl
      | cons i l =>
        exfalso
        have hm : i ∈ Region.ready .any ops listed := by rw [hrr]; exact .head _
        obtain ⟨h1, o, ho, _⟩ := mem_ready.1 hm
        have := unlisted_set (Array.getElem?_eq_some_iff.1 ho).1 hs h1
        omega
    exact ⟨hr, hend _ a w (hall listed hs hr) hI⟩
  | succ fuel ih =>
    intro listed a w hs hc hI
    refine ⟨fun hr => hend _ a w (hall listed hs hr) hI, fun i hi => ?_⟩
    obtain ⟨h1, o, ho, hdeps⟩ := mem_ready.1 hi
    have hilt := (Array.getElem?_eq_some_iff.1 ho).1
    refine wpOp_mono (fun a' w' h' => ih _ a' w' (by simp [hs]) ?_ ?_) (hstep _ i o a w ho ?_ hdeps hI)
    · have := unlisted_set hilt hs h1; omega
    · rw [done_set hilt hs]; exact h'
    · have : i < listed.size := by omega
      simp [this] at h1 ⊢
      exact h1

/-- The values of the operations put in their places. -/
def putAll (a : Act) : List Oper → List Value → Act
  | o :: os, v :: vs => putAll (a.put o.dst v) os vs
  | _, _ => a

theorem putAll_size : ∀ (os : List Oper) (vs : List Value) (a : Act), (putAll a os vs).tmps.size = a.tmps.size ∧ (putAll a os vs).defers = a.defers
  | [], _, _ => ⟨rfl, rfl⟩
  | _ :: _, [], _ => ⟨rfl, rfl⟩
  | o :: os, v :: vs, a => by
    obtain ⟨h1, h2⟩ := putAll_size os vs (a.put o.dst v)
    unfold putAll
    rw [h1, h2]
    cases hd : o.dst with
    | none => exact ⟨rfl, rfl⟩
    | some d => exact ⟨by simp [Act.put], rfl⟩
theorem putAll_other : ∀ (os : List Oper) (vs : List Value) (a : Act) (t : Nat), (∀ o ∈ os, o.dst ≠ some t) → (putAll a os vs).tmps[t]? = a.tmps[t]?
  | [], _, _, _, _ => rfl
  | _ :: _, [], _, _, _ => rfl
  | o :: os, v :: vs, a, t, h => by
    unfold putAll
    rw [putAll_other os vs _ t (fun o' ho' => h o' (.tail _ ho'))]
    cases hd : o.dst with
    | none => rfl
    | some d =>
      have hne : d ≠ t := fun e => h o (.head _) (by rw [hd, e])
      simp [Act.put, hne]
theorem putAll_at : ∀ (os : List Oper) (vs : List Value) (a : Act) (j : Nat) (o : Oper) (d : Nat) (v : Value), os[j]? = some o → vs[j]? = some v → o.dst = some d → (os.filterMap (·.dst)).Nodup → d < a.tmps.size → (putAll a os vs).tmps[d]? = some v
  | [], _, _, _, _, _, _, h, _, _, _, _ => by simp at h
  | _ :: _, [], _, _, _, _, _, _, h, _, _, _ => by simp at h
  | x :: os, u :: vs, a, 0, o, d, v, h1, h2, h3, h4, h5 => by
    simp only [List.getElem?_cons_zero, Option.some.injEq] at h1 h2
    subst h1; subst h2
    unfold putAll
    rw [List.filterMap_cons, h3] at h4
    have hn := (List.nodup_cons.1 h4).1
    rw [putAll_other os vs _ d (fun o' ho' e => hn (List.mem_filterMap.2 ⟨o', ho', e⟩)), h3]
    simp [Act.put, h5]
  | x :: os, u :: vs, a, j + 1, o, d, v, h1, h2, h3, h4, h5 => by
    simp only [List.getElem?_cons_succ] at h1 h2
    unfold putAll
    refine putAll_at os vs _ j o d v h1 h2 h3 ?_ ?_
    · rw [List.filterMap_cons] at h4
      split at h4
      · exact h4
      · exact (List.nodup_cons.1 h4).2
    · cases hx : x.dst with
      | none => exact h5
      | some d' => simpa [Act.put] using h5

theorem nodup_dst : ∀ {os : List Oper}, (os.filterMap (·.dst)).Nodup → ∀ {i j : Nat} {x y : Oper} {d : Nat}, os[i]? = some x → os[j]? = some y → x.dst = some d → y.dst = some d → i = j
  | [], _, i, j, x, y, d, h, _, _, _ => by simp at h
  | o :: os, hn, i, j, x, y, d, hi, hj, hx, hy => by
    rw [List.filterMap_cons] at hn
    have tl : (os.filterMap (·.dst)).Nodup := by
      split at hn
      · exact hn
      · exact (List.nodup_cons.1 hn).2
    cases i with
    | zero =>
      cases j with
      | zero => rfl
      | succ j =>
        simp only [List.getElem?_cons_zero, Option.some.injEq, List.getElem?_cons_succ] at hi hj
        subst hi
        rw [hx] at hn
        exact absurd (List.mem_filterMap.2 ⟨y, List.mem_of_getElem? hj, hy⟩) (List.nodup_cons.1 hn).1
    | succ i =>
      cases j with
      | zero =>
        simp only [List.getElem?_cons_zero, Option.some.injEq, List.getElem?_cons_succ] at hi hj
        subst hj
        rw [hy] at hn
        exact absurd (List.mem_filterMap.2 ⟨x, List.mem_of_getElem? hi, hx⟩) (List.nodup_cons.1 hn).1
      | succ j =>
        simp only [List.getElem?_cons_succ] at hi hj
        rw [nodup_dst tl hi hj hx hy]

/-- What a region's operation sees. -/
structure Sees (ops : Array Oper) (a0 : Act) (done : Nat → Bool) (val : Nat → Value) (a : Act) : Prop where
  size : a.tmps.size = a0.tmps.size
  defers : a.defers = a0.defers
  old : ∀ t, (∀ o ∈ ops.toList, o.dst ≠ some t) → a.tmps[t]? = a0.tmps[t]?
  new : ∀ j o d, ops[j]? = some o → o.dst = some d → done j = true → a.tmps[d]? = some (val j)

theorem Sees.evalNew {a0 a : Act} {done : Nat → Bool} {val : Nat → Value} (h : Sees ops a0 done val a) (j : Nat) {o : Oper} {d : Nat} (ho : ops[j]? = some o) (hd : o.dst = some d) (hj : done j = true) : a.eval (.tmp d) = val j := by
  have := h.new j o d ho hd hj
  simp [Act.eval, this]
theorem Sees.evalOld {a0 a : Act} {done : Nat → Bool} {val : Nat → Value} (h : Sees ops a0 done val a) (t : Nat) (ht : (ops.toList.all fun o => o.dst != some t) = true) : a.eval (.tmp t) = a0.eval (.tmp t) := by
  have := h.old t (fun o ho e => by have := List.all_eq_true.1 ht o ho; simp [e] at this)
  simp [Act.eval, this]

theorem Sees.newV {a0 a : Act} {done : Nat → Bool} {val : Nat → Value} (h : Sees ops a0 done val a) (j : Nat) {o : Oper} (d : Nat) {v : Value} (ho : ops[j]? = some o) (hd : o.dst = some d) (hj : done j = true) (hv : val j = v) : a.tmps[d]? = some v := by
  rw [h.new j o d ho hd hj, hv]
theorem Sees.oldV {a0 a : Act} {done : Nat → Bool} {val : Nat → Value} (h : Sees ops a0 done val a) (t : Nat) {v : Value} (ht : (ops.toList.all fun o => o.dst != some t) = true) (e : a0.tmps[t]? = some v) : a.tmps[t]? = some v := by
  rw [h.old t (fun o ho e => by have := List.all_eq_true.1 ht o ho; simp [e] at this), e]

/-- One operation keeps what is to be kept. -/
def StepOk (P : Program) (Q : Exit → Act → World → Prop) (ops : Array Oper) (a0 : Act) (J : (Nat → Bool) → (Nat → Value) → World → Prop) (i : Nat) (o : Oper) : Prop :=
  ∀ (done : Nat → Bool) (val : Nat → Value) (a : Act) (w : World), done i = false → (∀ e ∈ o.after, Region.binds .any e = true → done e.on = true) → Sees ops a0 done val a → J done val w →
    o.wp P a w (fun a' w' => ∃ v, a' = a.put o.dst v ∧ J (also done i) (withVal val i v) w') Q

theorem wp_region_parts {id : Nat} {a0 : Act} {w0 : World} (hm : P.follows .mixedOrders = true)
    (hdag : (ops.toList.zipIdx.all fun p => p.1.after.all fun e => e.on < p.2) = true) (hg : (ops.toList.all fun o => o.guard.isNone) = true) (hnd : (ops.toList.filterMap (·.dst)).Nodup) (hsz : ((ops.toList.filterMap (·.dst)).all fun d => decide (d < a0.tmps.size)) = true)
    (J : (Nat → Bool) → (Nat → Value) → World → Prop) (h0 : J (fun _ => false) (fun _ => undef) w0.drew)
    (hstep : ∀ p ∈ ops.toList.zipIdx, StepOk P Q ops a0 J p.2 p.1)
    (hend : ∀ (done : Nat → Bool) (val : Nat → Value) (w : World), (∀ i, i < ops.size → done i = true) → J done val w → Q .normal (putAll a0 ops.toList ((List.range ops.size).map val)) w) :
    (Code.region id ops true).wp P Q a0 w0 := by
  refine wp_region_any hm ?_
  refine wpAny_inv (fun done a w => ∃ val, Sees ops a0 done val a ∧ J done val w) ?_ ?_ ?_ ops.size (Array.replicate ops.size false) a0 _ (by simp) ?_ ?_
  · intro i o ho e he
    have hm : (o, i) ∈ ops.toList.zipIdx := by
      rw [List.mem_zipIdx_iff_getElem?]; simpa using ho
    have h1 := List.all_eq_true.1 hdag _ hm
    have h2 := Array.all_eq_true_iff_forall_mem.1 h1 e he
    simpa using h2
  · rintro done i o a w ho hi hdeps ⟨val, hs, hj⟩
    have hmz : (o, i) ∈ ops.toList.zipIdx := by
      rw [List.mem_zipIdx_iff_getElem?]; simpa using ho
    have h1 := hstep _ hmz done val a w hi hdeps hs hj
    unfold wpOp
    rw [ho]
    dsimp only
    have hgo : o.guard = none := by
      have := List.all_eq_true.1 hg o (by simpa using List.mem_of_getElem? (l := ops.toList) (i := i) (by simpa using ho))
      simpa using this
    have hw : Region.wanted o (yielded ops a.tmps) = true := by unfold Region.wanted; rw [hgo]
    rw [if_pos hw]
    refine .inl (Oper.wp_mono ?_ h1)
    rintro a' w' ⟨v, rfl, hj'⟩
    refine ⟨withVal val i v, ?_, hj'⟩
    have hilt := (Array.getElem?_eq_some_iff.1 ho).1
    refine ⟨?_, ?_, ?_, ?_⟩
    · rw [← hs.size]
      cases o.dst <;> simp [Act.put]
    · rw [← hs.defers]
      cases o.dst <;> rfl
    · intro t ht
      rw [← hs.old t ht]
      cases hd : o.dst with
      | none => rfl
      | some d =>
        have hne : d ≠ t := fun e => ht o (by simpa using List.mem_of_getElem? (l := ops.toList) (i := i) (by simpa using ho)) (by rw [hd, e])
        simp [Act.put, hne]
    · intro j o' d hjo hd' hdj
      by_cases hji : j = i
      · subst hji
        rw [ho] at hjo; cases hjo
        rw [hd']
        have hlt : d < a.tmps.size := by
          have := List.all_eq_true.1 hsz d (List.mem_filterMap.2 ⟨o, by simpa using List.mem_of_getElem? (l := ops.toList) (i := j) (by simpa using ho), hd'⟩)
          rw [hs.size]; simpa using this
        simp [Act.put, hlt, withVal]
      · have hdj' : done j = true := by simpa [also, hji] using hdj
        have h3 := hs.new j o' d hjo hd' hdj'
        have hv : withVal val i v j = val j := by simp [withVal, hji]
        rw [hv]
        cases hd : o.dst with
        | none => exact h3
        | some d2 =>
          have hne : d2 ≠ d := by
            intro e; subst e
            exact hji (nodup_dst hnd (by simpa using hjo) (by simpa using ho) hd' hd)
          simp [Act.put, hne]; exact h3
  · rintro done a w hdone ⟨val, hs, hj⟩
    have e : a = putAll a0 ops.toList ((List.range ops.size).map val) := by
      obtain ⟨p1, p2⟩ := putAll_size ops.toList ((List.range ops.size).map val) a0
      cases a with
      | mk tm df =>
        have ed : df = (putAll a0 ops.toList ((List.range ops.size).map val)).defers := by rw [p2]; exact hs.defers
        have et : tm = (putAll a0 ops.toList ((List.range ops.size).map val)).tmps := by
          apply Array.ext_getElem?
          intro t
          by_cases ht : ∀ o ∈ ops.toList, o.dst ≠ some t
          · rw [putAll_other _ _ _ _ ht]; exact hs.old t ht
          · obtain ⟨o, ho, hd⟩ : ∃ o ∈ ops.toList, o.dst = some t := by
              refine Classical.byContradiction fun hc => ht fun o ho hd => hc ⟨o, ho, hd⟩
            obtain ⟨j, hjl, hoj⟩ := List.getElem_of_mem ho
            have hjs : j < ops.size := by simpa using hjl
            have ho' : ops[j]? = some o := by rw [Array.getElem?_eq_getElem hjs, ← hoj]; simp
            have h1 := hs.new j o t ho' hd (hdone j hjs)
            have hlt : t < a0.tmps.size := by
              have := List.all_eq_true.1 hsz t (List.mem_filterMap.2 ⟨o, ho, hd⟩)
              simpa using this
            rw [putAll_at ops.toList _ a0 j o t (val j) (by simpa using ho') (by simp [hjs]) hd hnd hlt]
            exact h1
        rw [et, ed]
    rw [e]
    exact hend done val w hdone hj
  · unfold unlisted
    have := List.countP_le_length (p := fun i => !(Array.replicate ops.size false).getD i true) (l := List.range ops.size)
    simpa using this
  · refine ⟨fun _ => undef, ⟨rfl, rfl, fun _ _ => rfl, fun j o d _ _ hj => ?_⟩, ?_⟩
    · exfalso
      by_cases h : j < ops.size
      · simp [h] at hj
      · simp [h] at hj
    · have : (fun i => (Array.replicate ops.size false).getD i false) = fun _ => false := by
        funext i
        by_cases h : i < ops.size
        · simp [h]
        · simp [h]
      rw [this]; exact h0

/-- Each operation of the list keeps what is to be kept. -/
def StepsOk (P : Program) (Q : Exit → Act → World → Prop) (ops : Array Oper) (a0 : Act) (J : (Nat → Bool) → (Nat → Value) → World → Prop) : Nat → List Oper → Prop
  | _, [] => True
  | i, o :: os => StepOk P Q ops a0 J i o ∧ StepsOk P Q ops a0 J (i + 1) os
theorem stepsOk_nil {a0 : Act} {J : (Nat → Bool) → (Nat → Value) → World → Prop} {i : Nat} : StepsOk P Q ops a0 J i [] := trivial
theorem stepsOk_cons {a0 : Act} {J : (Nat → Bool) → (Nat → Value) → World → Prop} {i : Nat} {o : Oper} {os : List Oper} (h : StepOk P Q ops a0 J i o) (k : StepsOk P Q ops a0 J (i + 1) os) : StepsOk P Q ops a0 J i (o :: os) := ⟨h, k⟩
theorem stepsOk_mem {a0 : Act} {J : (Nat → Bool) → (Nat → Value) → World → Prop} : ∀ (l : List Oper) (i : Nat), StepsOk P Q ops a0 J i l → ∀ p ∈ l.zipIdx i, StepOk P Q ops a0 J p.2 p.1
  | [], _, _, p, hp => by simp at hp
  | o :: os, i, h, p, hp => by
    rw [List.zipIdx_cons] at hp
    rcases List.mem_cons.1 hp with rfl | hp
    · exact h.1
    · exact stepsOk_mem os (i + 1) h.2 p hp

theorem wp_region_parts_lit {l : List Oper} {id : Nat} {a0 : Act} {w0 : World} (hm : P.follows .mixedOrders = true)
    (hdag : (l.zipIdx.all fun p => p.1.after.all fun e => e.on < p.2) = true) (hg : (l.all fun o => o.guard.isNone) = true) (hnd : (l.filterMap (·.dst)).Nodup) (hsz : ((l.filterMap (·.dst)).all fun d => decide (d < a0.tmps.size)) = true)
    (J : (Nat → Bool) → (Nat → Value) → World → Prop) (h0 : J (fun _ => false) (fun _ => undef) w0.drew)
    (hstep : StepsOk P Q l.toArray a0 J 0 l)
    (hend : ∀ (done : Nat → Bool) (val : Nat → Value) (w : World), (∀ i, i < l.length → done i = true) → J done val w → Q .normal (putAll a0 l ((List.range l.length).map val)) w) :
    (Code.region id l.toArray true).wp P Q a0 w0 :=
  wp_region_parts hm hdag hg hnd hsz J h0 (stepsOk_mem l 0 hstep) hend

theorem step_value {o : Oper} {a : Act} {w w' : World} {K : Act → World → Prop} {v : Value} (h : (execOp a.eval o).run P w = .ok (.value v) w') (hk : K (a.put o.dst v) w') : o.wp P a w K Q := by
  unfold Oper.wp; rw [h]; exact hk
theorem step_skip {o : Oper} {a : Act} {w w' : World} {K : Act → World → Prop} (h : (execOp a.eval o).run P w = .ok .skip w') (hk : K (a.put o.dst undef) w') : o.wp P a w K Q := by
  unfold Oper.wp; rw [h]; exact hk

theorem nodup_map_ne {α β : Type} {f : α → β} : ∀ {l : List α}, (l.map f).Nodup → ∀ {x y : α}, x ∈ l → y ∈ l → x ≠ y → f x ≠ f y
  | [], _, _, _, h, _, _ => by cases h
  | a :: l, hn, x, y, hx, hy, hne => by
    rw [List.map_cons, List.nodup_cons] at hn
    rcases List.mem_cons.1 hx with ex | hx'
    · rcases List.mem_cons.1 hy with ey | hy'
      · exact absurd (ex.trans ey.symm) hne
      · exact fun e => hn.1 (by rw [← ex, e]; exact List.mem_map.2 ⟨y, hy', rfl⟩)
    · rcases List.mem_cons.1 hy with ey | hy'
      · exact fun e => hn.1 (by rw [← ey, ← e]; exact List.mem_map.2 ⟨x, hx', rfl⟩)
      · exact nodup_map_ne hn.2 hx' hy' hne

/-! ### a map's literal: which entries are in -/
def entL (L : List (Bytes × Nat × Value)) (done : Nat → Bool) : List (Bytes × Value) := L.filterMap fun p => if done p.2.1 then some (p.1, p.2.2) else none
theorem mem_entL {L : List (Bytes × Nat × Value)} {done : Nat → Bool} {x : Bytes} {y : Value} : (x, y) ∈ entL L done ↔ ∃ j, (x, j, y) ∈ L ∧ done j = true := by
  unfold entL
  rw [List.mem_filterMap]
  constructor
  · rintro ⟨⟨a, j, b⟩, hm, h⟩
    dsimp only at h
    split at h
    · rename_i hd; cases h; exact ⟨j, hm, hd⟩
    · cases h
  · rintro ⟨j, hm, hd⟩
    exact ⟨_, hm, by simp [hd]⟩
theorem rising_entL {L : List (Bytes × Nat × Value)} (hr : Rising L) (done : Nat → Bool) : Rising (entL L done) := by
  rw [rising_iff] at hr ⊢
  unfold entL
  rw [List.pairwise_filterMap]
  refine hr.imp fun {x y} h a ha b hb => ?_
  split at ha
  · split at hb
    · cases ha; cases hb; exact h
    · cases hb
  · cases ha
theorem entL_put {L : List (Bytes × Nat × Value)} (hr : Rising L) (hi : (L.map (·.2.1)).Nodup) {done : Nat → Bool} {k : Bytes} {i : Nat} {v : Value} (hm : (k, i, v) ∈ L) : putK (entL L done) k v = entL L (also done i) := by
  have hr1 := rising_entL hr done
  have hr2 := rising_entL hr (also done i)
  refine rising_ext (putK_rising hr1 k v) hr2 fun x => ?_
  rw [getK_putK hr1]
  have hk := rising_keys hr
  have huk : ∀ {x j y j' y'}, (x, j, y) ∈ L → (x, j', y') ∈ L → j = j' ∧ y = y' := by
    intro x j y j' y' h1 h2
    have e1 := getK_of_mem hk (v := (j, y)) h1
    have e2 := getK_of_mem hk (v := (j', y')) h2
    rw [e1] at e2
    exact Prod.mk.inj (Option.some.inj e2)
  split
  · rename_i e; subst e
    symm
    rw [getK_iff (rising_keys hr2), mem_entL]
    exact ⟨i, hm, by simp [also]⟩
  · rename_i hne
    apply Option.ext
    intro y
    rw [getK_iff (rising_keys hr1), getK_iff (rising_keys hr2), mem_entL, mem_entL]
    constructor
    · rintro ⟨j, h1, h2⟩
      exact ⟨j, h1, by simp [also, h2]⟩
    · rintro ⟨j, h1, h2⟩
      refine ⟨j, h1, ?_⟩
      have hji : j ≠ i := by
        intro e; subst e
        have h3 : (x, j, y) = (k, j, v) := by
          have := List.pairwise_map.1 (show (L.map (·.2.1)).Pairwise (· ≠ ·) from hi)
          refine Classical.byContradiction fun hc => ?_
          exact nodup_map_ne hi h1 hm hc rfl
        cases h3; exact hne rfl
      simpa [also, hji] using h2
theorem filterMap_cong {α β : Type} {f g : α → Option β} : ∀ {l : List α}, (∀ x ∈ l, f x = g x) → l.filterMap f = l.filterMap g
  | [], _ => rfl
  | a :: l, h => by rw [List.filterMap_cons, List.filterMap_cons, h a (.head _), filterMap_cong fun x hx => h x (.tail _ hx)]
theorem entL_same {L : List (Bytes × Nat × Value)} {d d' : Nat → Bool} (h : ∀ p ∈ L, d p.2.1 = d' p.2.1) : entL L d = entL L d' := by
  unfold entL
  exact filterMap_cong fun p hp => by rw [h p hp]
theorem entL_none {L : List (Bytes × Nat × Value)} {d : Nat → Bool} (h : ∀ p ∈ L, d p.2.1 = false) : entL L d = [] := by
  unfold entL
  rw [List.filterMap_eq_nil_iff]
  exact fun p hp => by rw [h p hp]; rfl
theorem entL_all {L : List (Bytes × Nat × Value)} {d : Nat → Bool} (h : ∀ p ∈ L, d p.2.1 = true) : entL L d = L.map fun p => (p.1, p.2.2) := by
  unfold entL
  rw [← List.filterMap_eq_map]
  exact filterMap_cong fun p hp => by rw [h p hp]; rfl
theorem Turns.extend {S S' : List Nat} {a w w' : World} (h : Turns S a w) (k : Turns S' w w') (hs : ∀ b ∈ S', b ∈ S ∨ a.heap.size ≤ b) : Turns S a w' :=
  ⟨k.os.trans h.os, k.tape.trans h.tape, k.output.trans h.output, Nat.le_trans h.size k.size, fun i hi hn => (k.block i (Nat.lt_of_lt_of_le hi h.size) (fun hm => by
    rcases hs i hm with h1 | h1
    · exact hn h1
    · omega)).trans (h.block i hi hn)⟩
theorem pure_upd {L : List (Nat × Value)} {done : Nat → Bool} {val : Nat → Value} {i : Nat} {v : Value} (h : ∀ p ∈ L, done p.1 = true → val p.1 = p.2) (hv : ∀ p ∈ L, p.1 = i → v = p.2) : ∀ p ∈ L, also done i p.1 = true → withVal val i v p.1 = p.2 := by
  intro p hp hd
  by_cases hpi : p.1 = i
  · simp [withVal, hpi]; exact hv p hp hpi
  · have : done p.1 = true := by simpa [also, hpi] using hd
    simp [withVal, hpi]; exact h p hp this

end
end Toc
