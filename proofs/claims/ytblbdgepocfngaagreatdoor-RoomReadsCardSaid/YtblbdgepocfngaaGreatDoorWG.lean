/-
  RefNames: The walks of the document's own functions on names (tocsinref09): they answer what the plain functions of XPlain say, for every text; memory stays as it was but for draws.
-/
import Derived.Test.YtblbdgepocfngaaGreatDoorW1
namespace Toc
open Go Go.RowKit Go.Proofs

def hasB (set : Bytes) (p : Nat) (b : UInt8) : Bool := (set.take p).contains b

theorem hasB_succ (set : ByteArray) (p : Nat) (b : UInt8) (h : p < set.size) : hasB set.data.toList (p + 1) b = (hasB set.data.toList p b || ((set[p]'h).toNat == b.toNat)) := by
  unfold hasB
  rw [List.take_succ_eq_append_getElem (by simpa using h), getElem_list set p h, Bool.eq_iff_iff]
  simp only [Bool.or_eq_true, List.contains_iff_mem, List.mem_append, List.mem_singleton, beq_iff_eq, UInt8.toNat_inj]
  constructor
  · rintro (h | h)
    · exact .inl h
    · exact .inr h.symm
  · rintro (h | h)
    · exact .inl h
    · exact .inr h.symm

theorem hasB_all (set : ByteArray) (p : Nat) (b : UInt8) (h : set.size ≤ p) : hasB set.data.toList p b = set.data.toList.contains b := by
  unfold hasB
  rw [List.take_of_length_le (by simpa using h)]

theorem ofB_miss (set : Bytes) (s : ByteArray) (k : Nat) (h : k < s.size) (hn : set.contains (s[k]'h) = false) : ofB set s.data.toList = false := by
  unfold ofB
  rw [Bool.and_eq_false_iff]
  right
  rw [List.all_eq_false]
  refine ⟨s[k]'h, ?_, by rw [hn]; decide⟩
  rw [← getElem_list s k h]
  exact List.getElem_mem _

set_option maxRecDepth 100000 in
set_option maxHeartbeats 1000000 in
theorem refOf_any (s set : ByteArray) {l : Bytes} (hl : s.data.toList = l) {b : Bool} (hb : ofB set.data.toList l = b) (hs : s.size ≤ 140737488351232) (hs2 : set.size ≤ 1000) (w : World) :
    Calls Tryz.prog 130 #[.string s, .string set] w fun e w' => e = .returned (.bool b) ∧ Below w.heap.size w w' := by
  subst hl
  have HBB := Lib.hid hb
  clear hb
  go_enter Tryz.func130, Tryz.ntmps130
  go_wp2
  go_loopw [5] (fun t wr => ∃ k : Nat, k ≤ s.size ∧ t = .int .i64 k ∧ (s.data.toList.take k).all (fun b => set.data.toList.contains b) = true ∧ Below w.heap.size w wr) (fun t _ => s.size - (RowKit.intOf t).toNat)
  case atStart => exact ⟨0, Nat.zero_le _, rfl, by simp, Below.refl _ _⟩
  case round =>
    obtain ⟨k, hk, rfl, hall, hbw⟩ := hrel
    have HA := Lib.hid hall
    have HW := Lib.hid hbw
    clear hall hbw
    by_cases hlt : k < s.size
    · obtain ⟨x, hx⟩ : ∃ x, s[k]'hlt = x := ⟨_, rfl⟩
      obtain ⟨wo, hwo⟩ : ∃ wo : World, wr = wo := ⟨_, rfl⟩
      subst hwo
      go_wp2
      go_loopw [6, 7] (fun f t wi => ∃ p : Nat, p ≤ set.size ∧ t = .int .i64 p ∧ f = .bool (hasB set.data.toList p x) ∧ Below w.heap.size w wi) (fun _ t _ => set.size - (RowKit.intOf t).toNat)
      case atStart => exact ⟨0, Nat.zero_le _, rfl, by simp [hasB], HW.out⟩
      case round =>
        obtain ⟨p, hp, rfl, rfl, hbi⟩ := hrel
        have HI := Lib.hid hbi
        clear hbi
        by_cases hlt2 : p < set.size
        · have hst := hasB_succ set p x hlt2
          have HST := Lib.hid hst
          clear hst
          have i0 : (0 : Int) ≤ p := by omega
          have i1 : (p : Int) < set.size := by omega
          have i2 : (0 : Int) ≤ k := by omega
          have i3 : (k : Int) < s.size := by omega
          cases hin : hasB set.data.toList p x
          · go_wp2_with fail
            go_quiet (fail)
            go_wp2
            go_roundw
            case rel => exact ⟨p + 1, by omega, by go_num, by rw [HST.out, hin, Bool.false_or]; congr 1; rw [Bool.eq_iff_iff]; simp; omega, below_drewN HI.out _⟩
            case measure => simp [RowKit.intOf]; omega
          · go_wp2_with fail
            go_quiet (fail)
            go_wp2
            go_roundw
            case rel => exact ⟨p + 1, by omega, by go_num, by rw [HST.out, hin]; rfl, below_drewN HI.out _⟩
            case measure => simp [RowKit.intOf]; omega
        · have hin0 := hasB_all set p x (by omega)
          cases hin : hasB set.data.toList p x
          · go_wp2
            go_ret
            refine ⟨ret_bool ?_, HI.out⟩
            show false = b
            rw [← HBB.out, ofB_miss set.data.toList s k hlt (by rw [hx, ← hin0, hin])]
          · go_wp2
            go_roundw
            case rel => exact ⟨k + 1, by omega, by go_num, take_all_succ s k hlt HA.out (by rw [hx, ← hin0, hin]), HI.out⟩
            case measure => simp [RowKit.intOf]; omega
    · have hk' : k = s.size := by omega
      have hall : s.data.toList.all (fun b => set.data.toList.contains b) = true := by
        have := HA.out
        rwa [List.take_of_length_le (by rw [← Lib.size_eq]; omega)] at this
      have HL := Lib.hid hall
      clear hall hk'
      by_cases h0 : 0 < s.size
      · have hne : s.toList.isEmpty = false := by
          rw [Lib.toList_data, List.isEmpty_eq_false_iff]; exact ne_nil_of_size h0
        go_wp2
        go_ret
        refine ⟨ret_bool ?_, HW.out⟩
        show _ = b
        rw [← HBB.out]
        unfold ofB
        rw [HL.out, List.isEmpty_eq_false_iff.2 (ne_nil_of_size h0)]
        rfl
      · have hnil := nil_of_size h0
        subst hnil
        go_wp2
        go_ret
        refine ⟨ret_bool ?_, HW.out⟩
        rw [← HBB.out]
        rfl

/-- What host hands back. -/
def HostIs (s h : ByteArray) (ok : Bool) : Prop :=
  userB s.data.toList = ok ∧ (ok = true → ∃ x, cutC 58 s.data.toList = some (x, h.data.toList))

def HostRet (s : ByteArray) (e : Ending) : Prop := ∃ h ok, e = .returned (.tuple #[.string h, .bool ok]) ∧ HostIs s h ok

abbrev refUserS : ByteArray := ⟨#[97, 98, 99, 100, 101, 102, 103, 104, 105, 106, 107, 108, 109, 110, 111, 112, 113, 114, 115, 116, 117, 118, 119, 120, 121, 122, 48, 49, 50, 51, 52, 53, 54, 55, 56, 57, 46, 95, 45, 61, 47]⟩
abbrev refHostS : ByteArray := ⟨#[97, 98, 99, 100, 101, 102, 103, 104, 105, 106, 107, 108, 109, 110, 111, 112, 113, 114, 115, 116, 117, 118, 119, 120, 121, 122, 48, 49, 50, 51, 52, 53, 54, 55, 56, 57, 46, 45]⟩
abbrev refNameS : ByteArray := ⟨#[97, 98, 99, 100, 101, 102, 103, 104, 105, 106, 107, 108, 109, 110, 111, 112, 113, 114, 115, 116, 117, 118, 119, 120, 121, 122, 48, 49, 50, 51, 52, 53, 54, 55, 56, 57, 65, 66, 67, 68, 69, 70, 71, 72, 73, 74, 75, 76, 77, 78, 79, 80, 81, 82, 83, 84, 85, 86, 87, 88, 89, 90, 46, 95, 45, 61, 47, 58]⟩

theorem refOfUser_any (s : ByteArray) {l : Bytes} (hl : s.data.toList = l) {b : Bool} (hb : ofB inUser l = b) (hs : s.size ≤ 140737488351232) (w : World) :
    Calls Tryz.prog 130 #[.string s, .string refUserS] w fun e w' => e = .returned (.bool b) ∧ Below w.heap.size w w' := refOf_any s refUserS hl hb hs (by decide) w
theorem refOfHost_any (s : ByteArray) {l : Bytes} (hl : s.data.toList = l) {b : Bool} (hb : ofB inHost l = b) (hs : s.size ≤ 140737488351232) (w : World) :
    Calls Tryz.prog 130 #[.string s, .string refHostS] w fun e w' => e = .returned (.bool b) ∧ Below w.heap.size w w' := refOf_any s refHostS hl hb hs (by decide) w
theorem ofB_perm {a b : Bytes} (h : ∀ x : UInt8, a.contains x = b.contains x) (l : Bytes) : ofB a l = ofB b l := by
  unfold ofB
  congr 2
  funext x
  exact h x
theorem refName_fin : ∀ n : Fin 256, refNameS.data.toList.contains (UInt8.ofNat n.val) = inName.contains (UInt8.ofNat n.val) := by decide +kernel
theorem refName_set (x : UInt8) : refNameS.data.toList.contains x = inName.contains x := by
  have h := refName_fin ⟨x.toNat, x.toNat_lt⟩
  simpa using h
theorem refOfName_any (s : ByteArray) {l : Bytes} (hl : s.data.toList = l) {b : Bool} (hb : ofB inName l = b) (hs : s.size ≤ 140737488351232) (w : World) :
    Calls Tryz.prog 130 #[.string s, .string refNameS] w fun e w' => e = .returned (.bool b) ∧ Below w.heap.size w w' := refOf_any s refNameS hl ((ofB_perm refName_set l).trans hb) hs (by decide) w

set_option maxRecDepth 100000 in
set_option maxHeartbeats 1000000 in
theorem refHost_any (s : ByteArray) (hs : s.size ≤ 140737488351232) (w : World) :
    Calls Tryz.prog 54 #[.string s] w fun e w' => HostRet s e ∧ Below w.heap.size w w' := by
  by_cases h60 : (s.size : Int) ≤ 60
  · by_cases h0 : 0 < s.size
    · have hne : s.toList.isEmpty = false := by
        rw [Lib.toList_data, List.isEmpty_eq_false_iff]; exact ne_nil_of_size h0
      have h0i : (0 : Int) < s.size := by omega
      by_cases hx : s[0]'h0 = 64
      · have hx1 : (((s[0]'h0).toNat : Int) != 64) = false := by rw [hx]; rfl
        have hfst : s.data.toList[0]? = some 64 := by rw [get?_list s 0 h0, hx]
        have HF := Lib.hid hfst
        clear hfst hx
        go_enter Tryz.func54, Tryz.ntmps54
        go_wp2
        go_loopw [4] (fun t wr => ∃ i : Nat, 1 ≤ i ∧ i ≤ s.size ∧ t = .int .i64 i ∧ (58 ∉ s.data.toList.take i) ∧ Below w.heap.size w wr) (fun t _ => s.size - (RowKit.intOf t).toNat)
        case atStart => exact ⟨1, Nat.le_refl _, h0, rfl, take_one_no HF.out (by decide), Below.refl _ _⟩
        case round =>
          obtain ⟨i, h1, hi, rfl, hn, hbw⟩ := hrel
          have HN := Lib.hid hn
          have HW := Lib.hid hbw
          clear hn hbw
          have i0 : (0 : Int) ≤ i := by omega
          have i1 : (1 : Int) ≤ i := by omega
          have i2 : (i : Int) ≤ s.size := by omega
          by_cases hlt : i < s.size
          · have i3 : (i : Int) < s.size := by omega
            have i4 : (i : Int) + 1 ≤ s.size := by omega
            by_cases h58 : s[i]'hlt = 58
            · have hx58 : (((s[i]'hlt).toNat : Int) == 58) = true := by rw [h58]; rfl
              have huser := userB_at (l := s.data.toList) (i := i) (by rw [← Lib.size_eq]; omega) HF.out h1 HN.out (by rw [get?_list s i hlt, h58])
              have hcut := cutC_at HN.out (show s.data.toList[i]? = some 58 by rw [get?_list s i hlt, h58])
              obtain ⟨u, hu⟩ : ∃ u, ofB inUser ((s.data.toList.drop 1).take (i - 1)) = u := ⟨_, rfl⟩
              obtain ⟨v, hv⟩ : ∃ v, ofB inHost (s.data.toList.drop (i + 1)) = v := ⟨_, rfl⟩
              rw [hu, hv] at huser
              have H1 := Lib.hid (refOfUser_any (s.extract 1 i) (Lib.extract_data s 1 i) hu (Nat.le_trans (extract_size_le _ _ _) hs) wr)
              have hd : (s.extract (i + 1) s.size).data.toList = s.data.toList.drop (i + 1) := by rw [extract_drop]
              have H2 := Lib.hid hd
              have HV := Lib.hid hv
              have HU := Lib.hid huser
              have HC := Lib.hid hcut
              clear hu hv huser hd hcut h58
              go_wp2_with fail
              refine H1.out.mono ?_
              rintro e w1 ⟨rfl, hb1⟩
              have HB1 := Lib.hid (HW.out.trans (hb1.mono HW.out.size))
              clear hb1 H1
              go_wp2_with fail
              refine (refOfHost_any _ H2.out HV.out (Nat.le_trans (extract_size_le _ _ _) hs) w1).mono ?_
              rintro e w2 ⟨rfl, hb2⟩
              have HB2 := Lib.hid (HB1.out.trans (hb2.mono HB1.out.size))
              clear hb2
              have fin : ∀ ok, (u && v) = ok → HostIs s (s.extract (i + 1) s.size) ok := fun ok hok => ⟨HU.out.trans hok, fun _ => ⟨_, by rw [HC.out, H2.out]⟩⟩
              have FIN := Lib.hid fin
              clear fin
              go_wp2_with fail
              all_goals go_ret2
              · have hu : u = true := by assumption
                exact ⟨⟨_, _, rfl, FIN.out _ (by rw [hu]; rfl)⟩, HB2.out⟩
              · have hu : ¬ u = true := by assumption
                exact ⟨⟨_, _, rfl, FIN.out _ (by rw [Bool.eq_false_iff.2 hu]; rfl)⟩, HB2.out⟩
            · have hx58 : (((s[i]'hlt).toNat : Int) == 58) = false := by
                rw [beq_eq_false_iff_ne]; intro e; exact h58 (UInt8.toNat_inj.1 (by show s[i].toNat = 58; omega))
              go_wp2
              go_roundw
              case rel => exact ⟨i + 1, by omega, by omega, by go_num, take_no_succ s i hlt HN.out h58, HW.out⟩
              case measure => simp [RowKit.intOf]; omega
          · go_wp2
            go_ret2
            refine ⟨⟨_, _, rfl, ?_⟩, HW.out⟩
            have hall : 58 ∉ s.data.toList := by
              have := HN.out
              rwa [List.take_of_length_le (by rw [← Lib.size_eq]; omega)] at this
            exact ⟨userB_none hall, fun h => by cases h⟩
      · have hx1 : (((s[0]'h0).toNat : Int) != 64) = true := by
          rw [bne_iff_ne]; intro e; exact hx (UInt8.toNat_inj.1 (by show s[0].toNat = 64; omega))
        have hf := userB_first (l := s.data.toList) (by rw [get?_list s 0 h0]; simpa using hx)
        have HF := Lib.hid hf
        clear hf hx
        go_enter Tryz.func54, Tryz.ntmps54
        go_wp2
        go_ret2
        exact ⟨⟨_, _, rfl, HF.out, fun h => by cases h⟩, Below.refl _ _⟩
    · have hnil := nil_of_size h0
      subst hnil
      go_enter Tryz.func54, Tryz.ntmps54
      go_wp2
      go_ret2
      exact ⟨⟨_, _, rfl, rfl, fun h => by cases h⟩, Below.refl _ _⟩
  · have hf := userB_long (l := s.data.toList) (by rw [← Lib.size_eq]; omega)
    have HF := Lib.hid hf
    clear hf
    go_enter Tryz.func54, Tryz.ntmps54
    go_wp2
    go_ret2
    exact ⟨⟨_, _, rfl, HF.out, fun h => by cases h⟩, Below.refl _ _⟩

set_option maxRecDepth 100000 in
theorem refIsUser_any (s : ByteArray) {b : Bool} (hb : userB s.data.toList = b) (hs : s.size ≤ 140737488351232) (w : World) :
    Calls Tryz.prog 14 #[.string s] w fun e w' => e = .returned (.bool b) ∧ Below w.heap.size w w' := by
  have HBB := Lib.hid hb
  clear hb
  go_enter Tryz.func14, Tryz.ntmps14
  go_wp2_with fail
  refine (refHost_any s hs w).mono ?_
  rintro e w1 ⟨⟨h, ok, rfl, hh⟩, hb1⟩
  have HH := Lib.hid hh
  have HB1 := Lib.hid hb1
  clear hh hb1
  go_wp2_with fail
  go_ret
  exact ⟨ret_bool (HH.out.1.symm.trans HBB.out), HB1.out⟩

set_option maxRecDepth 100000 in
set_option maxHeartbeats 1000000 in
theorem refLocal_any (s : ByteArray) {b : Bool} (hb : localB s.data.toList = b) (hs : s.size ≤ 140737488351232) (w : World) :
    Calls Tryz.prog 17 #[.string s] w fun e w' => e = .returned (.bool b) ∧ Below w.heap.size w w' := by
  have HBB := Lib.hid hb
  clear hb
  go_enter Tryz.func17, Tryz.ntmps17
  go_wp2_with fail
  refine (refHost_any s hs w).mono ?_
  rintro e w1 ⟨⟨h, ok, rfl, hh⟩, hb1⟩
  have HH := Lib.hid hh
  have HB1 := Lib.hid hb1
  clear hh hb1
  go_wp2_with fail
  · have hok : ok = true := by assumption
    go_ret
    obtain ⟨x, hx⟩ := HH.out.2 hok
    refine ⟨ret_bool ?_, HB1.out⟩
    show (h.toList == [104, 111, 109, 101]) = b
    rw [← HBB.out]
    unfold localB
    rw [HH.out.1, hok, hx, Lib.toList_data]
    rfl
  · have hok : ¬ ok = true := by assumption
    go_ret
    refine ⟨ret_bool ?_, HB1.out⟩
    rw [← HBB.out]
    unfold localB
    rw [HH.out.1, Bool.eq_false_iff.2 hok]
    rfl

set_option maxRecDepth 100000 in
set_option maxHeartbeats 1000000 in
theorem refNamed_any (s : ByteArray) (x : UInt8) {b : Bool} (hb : namedB x s.data.toList = b) (hs : s.size ≤ 140737488351232) (w : World) :
    Calls Tryz.prog 55 #[.string s, .int .u8 x.toNat] w fun e w' => e = .returned (.bool b) ∧ Below w.heap.size w w' := by
  have HBB := Lib.hid hb
  clear hb
  by_cases h2 : 2 ≤ s.size
  · by_cases h60 : s.size ≤ 60
    · by_cases hx : s[0]'(by omega) = x
      · have hx1 : (((s[0]'(by omega : 0 < s.size)).toNat : Int) != x.toNat) = false := by rw [hx]; simp
        have i0 : (2 : Int) ≤ s.size := by omega
        have i1 : (s.size : Int) ≤ 60 := by omega
        have i2 : (0 : Int) < s.size := by omega
        have hb2 : ofB inName (s.data.toList.drop 1) = b := by
          rw [← HBB.out]
          exact (namedB_at s x (by omega) h60 hx).symm
        have H1 := Lib.hid (refOfName_any (s.extract 1 s.size) (l := s.data.toList.drop 1) (by rw [extract_drop]) hb2 (Nat.le_trans (extract_size_le _ _ _) hs) w)
        clear hx hb2
        go_enter Tryz.func55, Tryz.ntmps55
        go_wp2_with fail
        refine H1.out.mono ?_
        rintro e w1 ⟨rfl, hb1⟩
        go_wp2_with fail
        go_ret
        exact ⟨rfl, hb1⟩
      · have hx1 : (((s[0]'(by omega : 0 < s.size)).toNat : Int) != x.toNat) = true := by
          rw [bne_iff_ne]; intro e; exact hx (UInt8.toNat_inj.1 (by omega))
        have i0 : (2 : Int) ≤ s.size := by omega
        have i1 : (s.size : Int) ≤ 60 := by omega
        have i2 : (0 : Int) < s.size := by omega
        have hb2 : false = b := by
          rw [← HBB.out]
          exact (namedB_ne s x (by omega) hx).symm
        clear hx
        subst hb2
        go_enter Tryz.func55, Tryz.ntmps55
        go_wp2_with fail
        go_ret
        exact ⟨rfl, Below.refl _ _⟩
    · have i1 : (60 : Int) < s.size := by omega
      have i0 : (2 : Int) ≤ s.size := by omega
      have hb2 : false = b := by
        rw [← HBB.out]
        unfold namedB
        rw [decide_eq_false (by rw [← Lib.size_eq]; exact h60)]; rfl
      subst hb2
      go_enter Tryz.func55, Tryz.ntmps55
      go_wp2_with fail
      go_ret
      exact ⟨rfl, Below.refl _ _⟩
  · have i0 : (s.size : Int) < 2 := by omega
    have hb2 : false = b := by
      rw [← HBB.out]
      exact (namedB_short (by rw [← Lib.size_eq]; omega)).symm
    subst hb2
    go_enter Tryz.func55, Tryz.ntmps55
    go_wp2_with fail
    go_ret
    exact ⟨rfl, Below.refl _ _⟩

set_option maxRecDepth 100000 in
theorem refIsRoom_any (s : ByteArray) {b : Bool} (hb : roomB s.data.toList = b) (hs : s.size ≤ 140737488351232) (w : World) :
    Calls Tryz.prog 15 #[.string s] w fun e w' => e = .returned (.bool b) ∧ Below w.heap.size w w' := by
  have H1 := Lib.hid (refNamed_any s 33 hb hs w)
  clear hb
  go_enter Tryz.func15, Tryz.ntmps15
  go_wp2_with fail
  refine H1.out.mono ?_
  rintro e w1 ⟨rfl, hb1⟩
  go_wp2_with fail
  go_ret
  exact ⟨rfl, hb1⟩

set_option maxRecDepth 100000 in
theorem refIsEvent_any (s : ByteArray) {b : Bool} (hb : eventB s.data.toList = b) (hs : s.size ≤ 140737488351232) (w : World) :
    Calls Tryz.prog 16 #[.string s] w fun e w' => e = .returned (.bool b) ∧ Below w.heap.size w w' := by
  have H1 := Lib.hid (refNamed_any s 36 hb hs w)
  clear hb
  go_enter Tryz.func16, Tryz.ntmps16
  go_wp2_with fail
  refine H1.out.mono ?_
  rintro e w1 ⟨rfl, hb1⟩
  go_wp2_with fail
  go_ret
  exact ⟨rfl, hb1⟩

end Toc
