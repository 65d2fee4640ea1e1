/-
  Parse4: The walks of jsonval's parser: digits cut off the front of a text; numbers.
  Parse5: The walk of jsonval's parser over a number.
  Parse6: The walk of jsonval's parser over what looks like a number and bears more than digits: it gives up.
-/
import Derived.Test.YtblbdgepocfngaaGreatDoorW2
import Derived.Deep.DeepCutAuto
import Derived.Lib.ParseIntB
import Derived.Lib.AtoiErrMem
import Derived.Deep.CutBlock
namespace Toc
open Go Go.RowKit Go.Proofs

theorem take_digit (s : ByteArray) (k : Nat) (h : k < s.size) (hp : (s.data.toList.take k).all digitB = true) (hc : digitB (s[k]'h) = true) : (s.data.toList.take (k + 1)).all digitB = true := by
  rw [List.take_succ_eq_append_getElem (by simpa using h), List.all_append, hp, getElem_list s k h]
  simpa using hc

def CutDRet (s : ByteArray) (w : World) (e : Ending) (w' : World) : Prop :=
  ∃ a b : ByteArray, e = .returned (.tuple #[.string a, .string b]) ∧ a.data.toList = s.data.toList.takeWhile digitB ∧ b.data.toList = s.data.toList.dropWhile digitB ∧ ∃ n, w' = w.drewN n

set_option maxRecDepth 100000 in
set_option maxHeartbeats 1000000 in
theorem cutD_any (s : ByteArray) (hs : s.size ≤ 140737488351232) (w : World) :
    Calls Tryz.prog 201 #[.string s] w fun e w' => CutDRet s w e w' := by
  go_enter Tryz.func201, Tryz.ntmps201
  go_wp2
  go_loop [4] (fun t => ∃ k : Nat, k ≤ s.size ∧ t = .int .i64 k ∧ (s.data.toList.take k).all digitB = true) (fun t => s.size - (RowKit.intOf t).toNat)
  case atStart => exact ⟨0, Nat.zero_le _, rfl, by simp⟩
  case round =>
    obtain ⟨k, hk, rfl, hall⟩ := hrel
    have HA := Lib.hid hall
    clear hall
    have i0 : (0 : Int) ≤ k := by omega
    have i2 : (k : Int) ≤ s.size := by omega
    have fin : (∀ h : k < s.size, digitB (s[k]'h) = false) → CutDRet s w (.returned (.tuple #[.string (s.extract 0 k), .string (s.extract k s.size)])) w := fun h => by
      have h1 := span_at digitB s.data.toList k HA.out (fun hlt => by
        have hk : k < s.size := by rw [Lib.size_eq]; exact hlt
        rw [getElem_list s k hk]; exact h hk) (by rw [← Lib.size_eq]; exact hk)
      exact ⟨_, _, rfl, by rw [extract_take, list_mkS, h1.1], by rw [extract_drop, list_mkS, h1.2], 0, rfl⟩
    have FIN := Lib.hid fin
    clear fin
    by_cases hlt : k < s.size
    · have i1 : (k : Int) < s.size := by omega
      have hst := fun hd => take_digit s k hlt HA.out hd
      have FIN' := Lib.hid (fun hb : digitB (s[k]'hlt) = false => FIN.out (fun _ => hb))
      obtain ⟨b, hb⟩ : ∃ b, s[k]'hlt = b := ⟨_, rfl⟩
      have HC := Lib.hid (fun wx => digit_any (s[k]'hlt) wx)
      have HST := Lib.hid hst
      clear hst
      cases hd : digitB (s[k]'hlt)
      · have hf := FIN'.out hd
        rw [hd] at HC
        have HF := Lib.hid hf
        clear hf hd hb
        go_wp2_with fail
        refine (HC.out _).mono ?_
        rintro e w1 ⟨rfl, rfl⟩
        go_wp2_with fail
        go_quiet (fail)
        go_wp2
        go_ret2
        obtain ⟨x, y, h1, h2, h3, _⟩ := HF.out
        exact ⟨x, y, h1, h2, h3, _, rfl⟩
      · rw [hd] at HC
        have HD := Lib.hid hd
        clear hd hb
        go_wp2_with fail
        refine (HC.out _).mono ?_
        rintro e w1 ⟨rfl, rfl⟩
        go_wp2_with fail
        go_round
        case rel => exact ⟨k + 1, by omega, by go_num, HST.out HD.out⟩
        case measure => simp [RowKit.intOf]; omega
    · have hf := FIN.out (fun h => absurd h hlt)
      have HF := Lib.hid hf
      clear hf
      go_wp2_with fail
      go_quiet (fail)
      go_wp2
      go_ret2
      obtain ⟨x, y, h1, h2, h3, _⟩ := HF.out
      exact ⟨x, y, h1, h2, h3, _, rfl⟩

/-! ### decimal numerals -/
def decAcc (acc : Nat) (l : Bytes) : Nat := l.foldl (fun n c => 10 * n + (c.toNat - 48)) acc
theorem decAcc_ge (l : Bytes) : ∀ acc, acc ≤ decAcc acc l := by
  induction l with
  | nil => intro acc; exact Nat.le_refl _
  | cons c l ih => intro acc; exact Nat.le_trans (by omega) (ih (10 * acc + (c.toNat - 48)))
theorem digitB_nat {c : UInt8} (h : digitB c = true) : 48 ≤ c.toNat ∧ c.toNat ≤ 57 := by
  simpa [digitB, UInt8.le_iff_toNat_le] using h
theorem parseU_dec (l : Bytes) (hl : l.all digitB = true) : ∀ acc,
    (decAcc acc l ≤ 9007199254740991 → Lib.parseUintM (2 ^ 64 - 1) acc l = .ok (decAcc acc l)) ∧ (∀ u, Lib.parseUintM (2 ^ 64 - 1) acc l = .ok u → u = decAcc acc l) := by
  induction l with
  | nil => intro acc; exact ⟨fun _ => rfl, fun u h => by simp [Lib.parseUintM] at h; exact h.symm⟩
  | cons c l ih =>
    intro acc
    simp only [List.all_cons, Bool.and_eq_true] at hl
    have hc := digitB_nat hl.1
    have hih := ih hl.2 (acc * 10 + (c.toNat - 48))
    have e : decAcc acc (c :: l) = decAcc (acc * 10 + (c.toNat - 48)) l := by unfold decAcc; rw [List.foldl_cons]; congr 1; omega
    have hge := decAcc_ge l (acc * 10 + (c.toNat - 48))
    rw [e]
    unfold Lib.parseUintM
    rw [if_pos hc]
    constructor
    · intro h
      rw [if_neg (by omega), if_neg (by omega)]
      exact hih.1 h
    · intro u
      split
      · intro h; cases h
      · split
        · intro h; cases h
        · exact hih.2 u

/-- What ParseInt answers, as far as numbers are concerned. -/
def IntRes (s : ByteArray) (v : Int) (err : Value) : Prop :=
  (err = .nilIface ∧ Lib.parseIntB 64 s.data.toList = .ok v) ∨ ((∃ te pe, err = .iface te pe) ∧ ∀ u, Lib.parseIntB 64 s.data.toList ≠ .ok u)
def IntRet (s : ByteArray) (w : World) (e : Ending) (w' : World) : Prop :=
  ∃ v err, e = .returned (.tuple #[.int .i64 v, err]) ∧ IntRes s v err ∧ Below w.heap.size w w'

theorem parseInt_any (s : ByteArray) (hs : s.size ≤ 4096) (w : World) (hG : Glob w) :
    Calls Tryz.prog 203 #[.string s, .int .i64 10, .int .i64 64] w fun e w' => IntRet s w e w' := by
  match hp : Lib.parseIntB 64 s.data.toList with
  | .ok v =>
    refine (Tryz.strconv_ParseInt_10_at64_ok s (by omega) v hp w).mono ?_
    rintro e w' ⟨rfl, hw⟩
    refine ⟨v, _, rfl, .inl ⟨rfl, hp⟩, ?_⟩
    rcases hw with rfl | ⟨t, rfl⟩
    · exact Below.refl _ _
    · exact Lib.bytesWorld_below _ _ _
  | Lib.NumEnd.syntax =>
    obtain ⟨te, pe, he⟩ := hG.errS
    refine (Tryz.strconv_ParseInt_10_at64_syntax s (by omega) hp _ w he (.inr ⟨te, pe, rfl⟩)).mono ?_
    rintro e w' ⟨N, rfl, _, _, hb⟩
    exact ⟨_, _, rfl, .inr ⟨⟨_, _, rfl⟩, fun u h => by rw [hp] at h; cases h⟩, hb⟩
  | .range =>
    obtain ⟨te, pe, he⟩ := hG.errR
    refine (Tryz.strconv_ParseInt_10_at64_range s (by omega) hp _ w he (.inr ⟨te, pe, rfl⟩)).mono ?_
    rintro e w' ⟨N, rfl, _, _, hb⟩
    exact ⟨_, _, rfl, .inr ⟨⟨_, _, rfl⟩, fun u h => by rw [hp] at h; cases h⟩, hb⟩

/-- The text behind a minus. -/
def unsigned (t : Bytes) : Bytes := match t with | 45 :: r => r | r => r
def signed (t : Bytes) (n : Nat) : Int := match t with | 45 :: _ => -(n : Int) | _ => (n : Int)
theorem unsigned_trim (t : Bytes) : Lib.trimPrefix t [45] = unsigned t := by
  unfold Lib.trimPrefix Lib.hasPrefix unsigned
  cases t with
  | nil => rfl
  | cons x xs =>
    by_cases h : x = 45
    · subst h; simp [List.isPrefixOf]
    · have h1 : (45 == x) = false := by rw [beq_eq_false_iff_ne]; exact fun e => h e.symm
      simp only [List.isPrefixOf, h1, Bool.false_and]
      split
      · rename_i h2; cases h2
      · split
        · rename_i h3; exact absurd (by simp at h3; exact h3.1) h
        · rfl

/-- Digits, as a whole number is written. -/
def wholeB (m : Bytes) : Bool := !m.isEmpty && (m.length == 1 || m.headD 0 != 48)

theorem numOf_eq (t : Bytes) : numOf t = if (unsigned t).all digitB = true ∧ wholeB (unsigned t) = true ∧ decNat (unsigned t) ≤ 9007199254740991 then some (signed t (decNat (unsigned t))) else none := by
  show (if ((unsigned t).all digitB && !(unsigned t).isEmpty && ((unsigned t).length == 1 || (unsigned t).headD 0 != 48) && decide (decNat (unsigned t) ≤ 9007199254740991)) = true then some (signed t (decNat (unsigned t))) else none) = _
  have e : (((unsigned t).all digitB && !(unsigned t).isEmpty && ((unsigned t).length == 1 || (unsigned t).headD 0 != 48) && decide (decNat (unsigned t) ≤ 9007199254740991)) = true) = ((unsigned t).all digitB = true ∧ wholeB (unsigned t) = true ∧ decNat (unsigned t) ≤ 9007199254740991) := by
    unfold wholeB
    simp only [Bool.and_eq_true, decide_eq_true_eq, eq_iff_iff]
    constructor
    · rintro ⟨⟨⟨h1, h2⟩, h3⟩, h4⟩; exact ⟨h1, ⟨h2, h3⟩, h4⟩
    · rintro ⟨h1, ⟨h2, h3⟩, h4⟩; exact ⟨⟨⟨h1, h2⟩, h3⟩, h4⟩
  simp only [e]

/-- ParseInt of digits behind a sign or none. -/
theorem parseInt_dec (t : Bytes) (h1 : (unsigned t).all digitB = true) (h2 : unsigned t ≠ []) :
    (decNat (unsigned t) ≤ 9007199254740991 → Lib.parseIntB 64 t = .ok (signed t (decNat (unsigned t)))) ∧
    (∀ v, Lib.parseIntB 64 t = .ok v → v = (signed t (decNat (unsigned t)))) := by
  have hdec : decNat (unsigned t) = decAcc 0 (unsigned t) := rfl
  have hp := parseU_dec (unsigned t) h1 0
  rw [← hdec] at hp
  cases t with
  | nil => exact absurd rfl h2
  | cons c r =>
    by_cases hc : c = 45
    · subst hc
      have hu : unsigned (45 :: r) = r := rfl
      have hm : ∀ n, signed (45 :: r) n = -(n : Int) := fun _ => rfl
      rw [hm]
      rw [hu] at hp h2 ⊢
      unfold Lib.parseIntB
      have e1 : (45 : UInt8).toNat = 45 := rfl
      simp only [e1, or_true, if_true, true_and, not_true_eq_false, false_and, if_false]
      unfold Lib.parseUintB
      rw [if_neg h2]
      constructor
      · intro h
        rw [hp.1 h]
        simp only
        rw [if_neg (by omega)]
      · intro v
        cases hq : Lib.parseUintM (2 ^ 64 - 1) 0 r with
        | ok u =>
          have := hp.2 u hq
          subst this
          simp only
          split
          · intro h; cases h
          · intro h; cases h; rfl
        | _ => intro h; cases h
    · have hu : unsigned (c :: r) = c :: r := by
        unfold unsigned
        split
        · rename_i h; simp at h; exact absurd h.1 hc
        · rfl
      rw [hu] at hp h1 ⊢
      have hd := digitB_nat (c := c) (by simp only [List.all_cons, Bool.and_eq_true] at h1; exact h1.1)
      have hm : signed (c :: r) (decNat (c :: r)) = (decNat (c :: r) : Int) := by
        unfold signed
        split
        · rename_i h; simp at h; exact absurd h.1 hc
        · rfl
      rw [hm]
      unfold Lib.parseIntB
      have e1 : ¬ c.toNat = 45 := by omega
      have e2 : ¬ c.toNat = 43 := by omega
      simp only [e1, e2, or_false, if_false, false_and, not_false_eq_true, true_and]
      unfold Lib.parseUintB
      rw [if_neg (by simp)]
      constructor
      · intro h
        rw [hp.1 h]
        simp only
        rw [if_neg (by omega)]
      · intro v
        cases hq : Lib.parseUintM (2 ^ 64 - 1) 0 (c :: r) with
        | ok u =>
          have := hp.2 u hq
          subst this
          simp only
          split
          · intro h; cases h
          · intro h; cases h; rfl
        | _ => intro h; cases h

end Toc

namespace Toc
open Go Go.RowKit Go.Proofs

theorem takeWhile_all {p : UInt8 → Bool} : ∀ {l : Bytes}, l.all p = true → l.takeWhile p = l ∧ l.dropWhile p = []
  | [], _ => ⟨rfl, rfl⟩
  | x :: xs, h => by
    simp only [List.all_cons, Bool.and_eq_true] at h
    have := takeWhile_all h.2
    rw [List.takeWhile_cons, List.dropWhile_cons, if_pos h.1, if_pos h.1]
    exact ⟨by rw [this.1], this.2⟩

theorem numeric_len (C : PC) (i : Nat) {s : ByteArray} (h : s.data.toList = (C.bs.drop i).takeWhile numericB) : s.size ≤ C.bs.length := by
  rw [Lib.size_eq, h]
  exact Nat.le_trans (List.takeWhile_sublist _).length_le (by rw [List.length_drop]; omega)

theorem unsigned_len (t : Bytes) : (unsigned t).length ≤ t.length := by
  unfold unsigned
  split
  · simp
  · exact Nat.le_refl _

/-- TrimPrefix of a minus. -/
theorem trim_any (s : ByteArray) (w : World) :
    Calls Tryz.prog 202 #[.string s, .string ⟨#[45]⟩] w fun e w' => (∃ m : ByteArray, e = .returned (.string m) ∧ m.data.toList = unsigned s.data.toList) ∧ w' = w := by
  refine (Tryz.strings_TrimPrefix s ⟨#[45]⟩ w).mono ?_
  rintro e w' ⟨rfl, rfl⟩
  exact ⟨⟨_, rfl, unsigned_trim _⟩, rfl⟩

def numRange (n : Int) : Prop := -9007199254740991 ≤ n ∧ n ≤ 9007199254740991

theorem signed_range {t : Bytes} {n : Nat} (h : n ≤ 9007199254740991) : -9007199254740991 ≤ signed t n ∧ signed t n ≤ 9007199254740991 := by
  unfold signed
  split <;> constructor <;> omega

set_option maxRecDepth 100000 in
set_option maxHeartbeats 2000000 in
theorem number_ok (C : PC) (w : World) (i d : Nat) (hp : PW C w i d) {c : UInt8} {l : Bytes} (hd0 : C.bs.drop i = c :: l) (hc0 : numericB c = true) {v : JV} {t : Bytes} (h : numberL (C.bs.drop i) = some (v, t)) :
    Calls Tryz.prog 134 #[ptrV C.pb] w fun e w' => ValRet C w d v t e w' := by
  have H1 := Lib.hid (token_numeric C w i d hp hd0 hc0)
  have hsm := hp.small
  unfold numberL at h
  cases hw : numOf ((C.bs.drop i).takeWhile numericB) with
  | none => rw [hw] at h; cases h
  | some n =>
    rw [hw] at h
    simp at h
    obtain ⟨rfl, rfl⟩ := h
    have HW := Lib.hid hw
    obtain ⟨c0, c1, c2, z1, z2⟩ := hp.cells
    clear hw hd0 hc0
    go_enter Tryz.func134, Tryz.ntmps134
    go_wp2_with fail
    refine H1.out.mono ?_
    rintro e w1 ⟨j, s, rfl, hs, hst, hd⟩
    have hsl := numeric_len C i hs
    have hnum := HW.out
    rw [← hs, numOf_eq] at hnum
    split at hnum
    · rename_i hcond
      obtain ⟨hall, hwhole, hmax⟩ := hcond
      simp only [Option.some.injEq] at hnum
      have hne : unsigned s.data.toList ≠ [] := by
        intro e; rw [e] at hwhole; simp [wholeB] at hwhole
      have hpi := (parseInt_dec s.data.toList hall hne).2
      rw [hnum] at hpi
      have hrange := signed_range (t := s.data.toList) hmax
      rw [hnum] at hrange
      have hok := (parseInt_dec s.data.toList hall hne).1 hmax
      rw [hnum] at hok
      have HST := Lib.hid hst
      have HD := Lib.hid hd
      have HPI := Lib.hid hpi
      have HOK := Lib.hid hok
      have HALL := Lib.hid hall
      have HWH := Lib.hid hwhole
      have HNE := Lib.hid hne
      clear hst hd hs H1 c0 c1 c2 z1 z2 hpi hok hall hwhole hne hnum hmax HW
      go_wp2_with fail
      refine (trim_any s w1).mono ?_
      rintro e w2 ⟨⟨m, rfl, hm⟩, rfl⟩
      have hml : m.size ≤ 4096 := by rw [Lib.size_eq, hm]; have := unsigned_len s.data.toList; rw [← Lib.size_eq] at this; omega
      have HM := Lib.hid hm
      clear hm
      go_wp2_with fail
      refine (cutD_any m (by omega) w2).mono ?_
      rintro e w3 ⟨a, b, rfl, ha, hb, q, rfl⟩
      rw [HM.out, (takeWhile_all HALL.out).1] at ha
      rw [HM.out, (takeWhile_all HALL.out).2] at hb
      have hb' : b = mkS [] := by rw [← mkS_list b, hb]
      subst hb'
      have hae : a.toList.isEmpty = false := by rw [Lib.toList_data, ha, List.isEmpty_eq_false_iff]; exact HNE.out
      have ha0 : 0 < a.size := by rw [Lib.size_eq, ha]; exact List.length_pos_iff.2 HNE.out
      have ha0i : (0 : Int) < a.size := by omega
      have hor : a.size = 1 ∨ (a[0]'ha0 ≠ 48) := by
        have := HWH.out
        rw [← ha] at this
        unfold wholeB at this
        simp only [Bool.and_eq_true, Bool.or_eq_true, beq_iff_eq, bne_iff_ne] at this
        rcases this.2 with h | h
        · left; rw [Lib.size_eq]; exact h
        · right
          intro e
          apply h
          have h0 := get?_list a 0 ha0
          rw [List.headD_eq_head?_getD, List.head?_eq_getElem?, h0, e]; rfl
      have HHP := Lib.hid (show Calls Tryz.prog 51 #[.string (mkS []), .string ⟨#[46]⟩] (w2.drewN q) fun e w' => e = .returned (.bool false) ∧ w' = w2.drewN q from Tryz.strings_HasPrefix (mkS []) ⟨#[46]⟩ (w2.drewN q))
      have HP := Lib.hid (parseInt_any s (by omega) (w2.drewN q) ((HST.out.drewN q).pw hp).glob)
      clear ha hb
      have key : ((a.size : Int) == 1) = true ∨ (((a.size : Int) == 1) = false ∧ (((a[0]'ha0).toNat : Int) != 48) = true) := by
        by_cases h1 : a.size = 1
        · exact .inl (by rw [h1]; rfl)
        · refine .inr ⟨by rw [beq_eq_false_iff_ne]; omega, ?_⟩
          rcases hor with h | h
          · exact absurd h h1
          · rw [bne_iff_ne]; intro e; exact h (UInt8.toNat_inj.1 (by show a[0].toNat = 48; omega))
      obtain ⟨hr1, hr2⟩ := hrange
      have hd : ¬ n < -9007199254740991 := by omega
      have hd2 : ¬ 9007199254740991 < n := by omega
      clear hor
      rcases key with h1b | ⟨h1b, h0b⟩
      all_goals
        go_wp2_with fail
        refine HHP.out.mono ?_
        rintro e w4 ⟨rfl, rfl⟩
        go_wp2_with fail
        refine HP.out.mono ?_
        rintro e w5 ⟨v, err, rfl, hres, hbel⟩
        rcases hres with ⟨rfl, hv⟩ | ⟨_, hno⟩
        · have hvn : v = n := HPI.out v hv
          subst hvn
          have HB := Lib.hid hbel
          clear hv hbel
          go_wp2_with fail
          go_ret
          have hst2 : Stands C w (w5.alloc (vObj 2 false v emptyS nilS nilS)) j d := ⟨blk_old ((HB.out.block C.pb (blk_lt (HST.out.drewN q).at_)).trans (HST.out.drewN q).at_) _, ((HST.out.drewN q).only.trans (Only.of_below HB.out _)).alloc _, HST.out.pos⟩
          exact ⟨j, w5.heap.size, rfl, hst2, HD.out, Made.one (Nat.le_trans HST.out.only.size HB.out.size) (blk_new _ _) (fun r h => .int h)⟩
        · exact absurd HOK.out (hno n)
    · cases hnum

/-- What wholeB says of a text's size and first byte. -/
theorem whole_cases (a : ByteArray) : (a = mkS [] ∧ wholeB a.data.toList = false) ∨ (∃ h : 0 < a.size, (a.size = 1 ∨ a[0]'h ≠ 48) ∧ wholeB a.data.toList = true) ∨ (∃ h : 0 < a.size, a.size ≠ 1 ∧ a[0]'h = 48 ∧ wholeB a.data.toList = false) := by
  by_cases h0 : 0 < a.size
  · right
    have hg := get?_list a 0 h0
    have hne := ne_nil_of_size h0
    have hw : wholeB a.data.toList = (a.size == 1 || a[0]'h0 != 48) := by
      unfold wholeB
      rw [List.isEmpty_eq_false_iff.2 hne, List.headD_eq_head?_getD, List.head?_eq_getElem?, hg, ← Lib.size_eq]
      rfl
    by_cases h1 : a.size = 1
    · exact .inl ⟨h0, .inl h1, by rw [hw, h1]; rfl⟩
    · by_cases h2 : a[0]'h0 = 48
      · exact .inr ⟨h0, h1, h2, by rw [hw, h2]; simpa using h1⟩
      · exact .inl ⟨h0, .inr h2, by rw [hw]; simp [h2]⟩
  · have := nil_of_size h0
    subst this
    exact .inl ⟨rfl, rfl⟩

theorem signed_out {t : Bytes} {n : Nat} (h : 9007199254740991 < n) : signed t n < -9007199254740991 ∨ 9007199254740991 < signed t n := by
  unfold signed
  split
  · left; omega
  · right; omega

set_option maxRecDepth 100000 in
set_option maxHeartbeats 4000000 in
/-- Digits alone, that are no number. -/
theorem number_no_digits (C : PC) (w : World) (i d : Nat) (hp : PW C w i d) {c : UInt8} {l : Bytes} (hd0 : C.bs.drop i = c :: l) (hc0 : numericB c = true) (h : numOf ((C.bs.drop i).takeWhile numericB) = none) (hall : (unsigned ((C.bs.drop i).takeWhile numericB)).all digitB = true) :
    Calls Tryz.prog 134 #[ptrV C.pb] w fun e w' => Fails C w e w' := by
  have H1 := Lib.hid (token_numeric C w i d hp hd0 hc0)
  have hsm := hp.small
  have HW := Lib.hid h
  have HALL := Lib.hid hall
  obtain ⟨c0, c1, c2, z1, z2⟩ := hp.cells
  clear h hall hd0 hc0
  go_enter Tryz.func134, Tryz.ntmps134
  go_wp2_with fail
  refine H1.out.mono ?_
  rintro e w1 ⟨j, s, rfl, hs, hst, hd⟩
  have hsl := numeric_len C i hs
  have HS := Lib.hid hs
  have HST := Lib.hid hst
  clear hst hd hs H1 c0 c1 c2 z1 z2
  go_wp2_with fail
  refine (trim_any s w1).mono ?_
  rintro e w2 ⟨⟨m, rfl, hm⟩, rfl⟩
  have hml : m.size ≤ 4096 := by rw [Lib.size_eq, hm]; have := unsigned_len s.data.toList; rw [← Lib.size_eq] at this; omega
  rw [HS.out] at hm
  have HM := Lib.hid hm
  clear hm
  go_wp2_with fail
  refine (cutD_any m (by omega) w2).mono ?_
  rintro e w3 ⟨a, b, rfl, ha, hb, q, rfl⟩
  rw [HM.out, (takeWhile_all HALL.out).1] at ha
  rw [HM.out, (takeWhile_all HALL.out).2] at hb
  have hb' : b = mkS [] := by rw [← mkS_list b, hb]
  subst hb'
  have HA := Lib.hid ha
  have HHP := Lib.hid (show Calls Tryz.prog 51 #[.string (mkS []), .string ⟨#[46]⟩] (w2.drewN q) fun e w' => e = .returned (.bool false) ∧ w' = w2.drewN q from Tryz.strings_HasPrefix (mkS []) ⟨#[46]⟩ (w2.drewN q))
  have HP := Lib.hid (parseInt_any s (by omega) (w2.drewN q) ((HST.out.drewN q).pw hp).glob)
  clear ha hb
  have hwc := whole_cases a
  rw [HA.out] at hwc
  rcases hwc with ⟨rfl, hwb⟩ | ⟨ha0, hor, hwb⟩ | ⟨ha0, hn1, h48, hwb⟩
  · clear hwb
    go_wp2_with fail
    refine HHP.out.mono ?_
    rintro e w4 ⟨rfl, rfl⟩
    go_wp2_with fail
    refine (wrong_any C _ _ _ _).mono ?_
    rintro e w5 ⟨f, p, k, b, h1, rfl, h3, h4, h5⟩
    go_wp2
    exact ⟨rfl, Fails.before (HST.out.drewN q).only ⟨f, p, k, b, h1, rfl, h3, h4, h5⟩⟩
  · have hae : a.toList.isEmpty = false := by rw [Lib.toList_data, List.isEmpty_eq_false_iff]; exact ne_nil_of_size ha0
    have ha0i : (0 : Int) < a.size := by omega
    have hne : unsigned s.data.toList ≠ [] := by rw [HS.out, ← HA.out]; exact ne_nil_of_size ha0
    have hbig : 9007199254740991 < decNat (unsigned s.data.toList) := by
      rcases Nat.lt_or_ge 9007199254740991 (decNat (unsigned s.data.toList)) with h | h
      · exact h
      · exfalso
        have hnum := HW.out
        rw [numOf_eq, if_pos ⟨HALL.out, hwb, by rw [← HS.out]; exact h⟩] at hnum
        cases hnum
    have hpi := (parseInt_dec s.data.toList (by rw [HS.out]; exact HALL.out) hne).2
    have hout := signed_out (t := s.data.toList) hbig
    have HPI := Lib.hid hpi
    have HOUT := Lib.hid hout
    have key : ((a.size : Int) == 1) = true ∨ (((a.size : Int) == 1) = false ∧ (((a[0]'ha0).toNat : Int) != 48) = true) := by
      by_cases h1 : a.size = 1
      · exact .inl (by rw [h1]; rfl)
      · refine .inr ⟨by rw [beq_eq_false_iff_ne]; omega, ?_⟩
        rcases hor with h | h
        · exact absurd h h1
        · rw [bne_iff_ne]; intro e; exact h (UInt8.toNat_inj.1 (by show a[0].toNat = 48; omega))
    clear hor hwb hpi hout hbig hne
    rcases key with h1b | ⟨h1b, h0b⟩
    all_goals
      go_wp2_with fail
      refine HHP.out.mono ?_
      rintro e w4 ⟨rfl, rfl⟩
      go_wp2_with fail
      refine HP.out.mono ?_
      rintro e w5 ⟨v, err, rfl, hres, hbel⟩
      have HB := Lib.hid hbel
      clear hbel
      rcases hres with ⟨rfl, hv⟩ | ⟨⟨te, pe, rfl⟩, _⟩
      · have hvo := HOUT.out
        rw [← HPI.out v hv] at hvo
        clear hv
        rcases hvo with hvo | hvo
        all_goals
          go_wp2_with fail
          refine (wrong_any C _ _ _ _).mono ?_
          rintro e w6 ⟨f, p, k, b, h1, rfl, h3, h4, h5⟩
          go_wp2
          exact ⟨rfl, Fails.before ((HST.out.drewN q).only.trans (Only.of_below HB.out _)) ⟨f, p, k, b, h1, rfl, h3, h4, h5⟩⟩
      · go_wp2_with fail
        refine (wrong_any C _ _ _ _).mono ?_
        rintro e w6 ⟨f, p, k, b, h1, rfl, h3, h4, h5⟩
        go_wp2
        exact ⟨rfl, Fails.before ((HST.out.drewN q).only.trans (Only.of_below HB.out _)) ⟨f, p, k, b, h1, rfl, h3, h4, h5⟩⟩
  · have hae : a.toList.isEmpty = false := by rw [Lib.toList_data, List.isEmpty_eq_false_iff]; exact ne_nil_of_size ha0
    have ha0i : (0 : Int) < a.size := by omega
    have h1b : ((a.size : Int) == 1) = false := by rw [beq_eq_false_iff_ne]; omega
    have h0b : (((a[0]'ha0).toNat : Int) != 48) = false := by rw [h48]; rfl
    clear h48 hwb hn1
    go_wp2_with fail
    refine HHP.out.mono ?_
    rintro e w4 ⟨rfl, rfl⟩
    go_wp2_with fail
    refine (wrong_any C _ _ _ _).mono ?_
    rintro e w5 ⟨f, p, k, b, h1, rfl, h3, h4, h5⟩
    go_wp2
    exact ⟨rfl, Fails.before (HST.out.drewN q).only ⟨f, p, k, b, h1, rfl, h3, h4, h5⟩⟩

end Toc

namespace Toc
open Go Go.RowKit Go.Proofs

def LeadsE (x : ByteArray) (g : Bool) : Prop := g = true → 0 < x.size

theorem dropWhile_ne {p : UInt8 → Bool} : ∀ {l : Bytes}, l.all p = false → l.dropWhile p ≠ []
  | [], h => by cases h
  | x :: xs, h => by
    by_cases hx : p x = true
    · rw [List.dropWhile_cons, if_pos hx]
      exact dropWhile_ne (by simpa [hx] using h)
    · rw [List.dropWhile_cons, if_neg hx]; simp

set_option maxRecDepth 100000 in
set_option maxHeartbeats 4000000 in
theorem number_no_rest (C : PC) (w : World) (i d : Nat) (hp : PW C w i d) {c : UInt8} {l : Bytes} (hd0 : C.bs.drop i = c :: l) (hc0 : numericB c = true) (hall : (unsigned ((C.bs.drop i).takeWhile numericB)).all digitB = false) :
    Calls Tryz.prog 134 #[ptrV C.pb] w fun e w' => Fails C w e w' := by
  have H1 := Lib.hid (token_numeric C w i d hp hd0 hc0)
  have hsm := hp.small
  have HALL := Lib.hid hall
  obtain ⟨c0, c1, c2, z1, z2⟩ := hp.cells
  clear hall hd0 hc0
  go_enter Tryz.func134, Tryz.ntmps134
  go_wp2_with fail
  refine H1.out.mono ?_
  rintro e w1 ⟨j, s, rfl, hs, hst, hd⟩
  have hsl := numeric_len C i hs
  have HS := Lib.hid hs
  have HST := Lib.hid hst
  clear hst hd hs H1 c0 c1 c2 z1 z2
  go_wp2_with fail
  refine (trim_any s w1).mono ?_
  rintro e w2 ⟨⟨m, rfl, hm⟩, rfl⟩
  have hml : m.size ≤ 4096 := by rw [Lib.size_eq, hm]; have := unsigned_len s.data.toList; rw [← Lib.size_eq] at this; omega
  rw [HS.out] at hm
  have HM := Lib.hid hm
  clear hm
  go_wp2_with fail
  refine (cutD_any m (by omega) w2).mono ?_
  rintro e w3 ⟨a, b, rfl, ha, hb, q, rfl⟩
  have hbn : b.data.toList ≠ [] := by
    rw [hb, HM.out]; exact dropWhile_ne HALL.out
  have hb0 : 0 < b.size := by rw [Lib.size_eq]; exact List.length_pos_iff.2 hbn
  have hbe : b.toList.isEmpty = false := by rw [Lib.toList_data, List.isEmpty_eq_false_iff]; exact hbn
  have hbl : b.size ≤ 4096 := by rw [Lib.size_eq, hb]; have := (List.dropWhile_sublist (p := digitB) (l := m.data.toList)).length_le; rw [← Lib.size_eq] at this; omega
  have HST2 := Lib.hid (HST.out.drewN q)
  generalize w2.drewN q = wx at HST2
  clear ha hb hbn
  go_upto_region 4 with fail
  go_cut [7] (fun s7 wy => ∃ g : Bool, s7 = .bool g ∧ wy = wx)
  case first =>
    rcases whole_cases a with ⟨rfl, _⟩ | ⟨ha0, hor, _⟩ | ⟨ha0, hn1, h48, _⟩
    · go_wp2_with fail
      go_meet
      exact ⟨_, rfl, rfl⟩
    · have hae : a.toList.isEmpty = false := by rw [Lib.toList_data, List.isEmpty_eq_false_iff]; exact ne_nil_of_size ha0
      have ha0i : (0 : Int) < a.size := by omega
      clear hor
      by_cases h1 : a.size = 1
      · have h1b : ((a.size : Int) == 1) = true := by rw [h1]; rfl
        go_wp2_with fail
        go_meet
        exact ⟨_, rfl, rfl⟩
      · have h1b : ((a.size : Int) == 1) = false := by rw [beq_eq_false_iff_ne]; omega
        go_wp2_with fail
        go_meet
        exact ⟨_, rfl, rfl⟩
    · have hae : a.toList.isEmpty = false := by rw [Lib.toList_data, List.isEmpty_eq_false_iff]; exact ne_nil_of_size ha0
      have ha0i : (0 : Int) < a.size := by omega
      have h1b : ((a.size : Int) == 1) = false := by rw [beq_eq_false_iff_ne]; omega
      clear h48
      go_wp2_with fail
      go_meet
      exact ⟨_, rfl, rfl⟩
  case rest =>
    obtain ⟨g, rfl, hw⟩ := hcut
    subst hw
    go_wp2_with fail
    obtain ⟨f, hf⟩ : ∃ f, Lib.hasPrefix b.data.toList [46] = f := ⟨_, rfl⟩
    have hhp := Tryz.strings_HasPrefix b ⟨#[46]⟩ wc
    rw [hf] at hhp
    refine hhp.mono ?_
    rintro e w4 ⟨rfl, rfl⟩
    clear hhp
    go_upto_if 40 with fail
    have hb1 : (1 : Int) ≤ b.size := by omega
    go_cut [6, 7] (fun s6 s7 wy => ∃ (x : ByteArray) (g : Bool), s6 = .string x ∧ x.size ≤ 4096 ∧ s7 = .bool g ∧ Stands C w wy j d)
    case first =>
      cases f
      · go_wp2_with fail
        go_meet
        exact ⟨b, g, rfl, hbl, rfl, HST2.out⟩
      · go_wp2_with fail
        refine (cutD_any _ (Nat.le_trans (extract_size_le _ _ _) (by omega)) _).mono ?_
        rintro e w5 ⟨x, y, rfl, hx, hy, q2, rfl⟩
        have hyl : y.size ≤ 4096 := by
          rw [Lib.size_eq, hy]
          refine Nat.le_trans (List.dropWhile_sublist _).length_le ?_
          rw [← Lib.size_eq]
          exact Nat.le_trans (extract_size_le _ _ _) hbl
        have HY := Lib.hid hyl
        clear hx hy hyl
        go_wp2_with fail
        all_goals
          go_meet
          exact ⟨y, _, rfl, HY.out, rfl, HST2.out.drewN _⟩
    case rest =>
      obtain ⟨x, g2, rfl, hxl, rfl, hst3⟩ := hcut
      have HST3 := Lib.hid hst3
      clear hst3
      go_upto_region 10 with fail
      go_cut [63] (fun s63 wy => ∃ g3 : Bool, s63 = .bool g3 ∧ LeadsE x g3 ∧ Stands C w wy j d)
      case first =>
        by_cases hx0 : 0 < x.size
        · have hxe : x.toList.isEmpty = false := by rw [Lib.toList_data, List.isEmpty_eq_false_iff]; exact ne_nil_of_size hx0
          have hx0i : (0 : Int) < x.size := by omega
          by_cases h101 : ((((x[0]'hx0).toNat : Nat) : Int) == 101) = true
          · go_wp2_with fail
            go_meet
            exact ⟨_, rfl, fun _ => hx0, HST3.out⟩
          · have h101' : ((((x[0]'hx0).toNat : Nat) : Int) == 101) = false := Bool.eq_false_iff.2 h101
            clear h101
            go_wp2_with fail
            go_meet
            exact ⟨_, rfl, fun _ => hx0, HST3.out⟩
        · have hxn := nil_of_size hx0
          subst hxn
          go_wp2_with fail
          go_meet
          exact ⟨_, rfl, (fun h => by cases h), HST3.out⟩
      case rest =>
        obtain ⟨g3, rfl, hg3, hst4⟩ := hcut
        have HST4 := Lib.hid hst4
        have HG3 := Lib.hid hg3
        clear hst4 hg3
        go_upto_if 63 with fail
        go_cut [6, 7] (fun s6 s7 wy => ∃ (x : ByteArray) (g : Bool), s6 = .string x ∧ s7 = .bool g ∧ Stands C w wy j d)
        case first =>
          cases g3
          · go_wp2_with fail
            go_meet
            exact ⟨_, _, rfl, rfl, HST4.out⟩
          · have hx0 := HG3.out rfl
            have hx1 : (1 : Int) ≤ x.size := by omega
            obtain ⟨z, hz⟩ : ∃ z, x.extract 1 x.size = z := ⟨_, rfl⟩
            have hzl : z.size ≤ 4096 := by rw [← hz]; exact Nat.le_trans (extract_size_le _ _ _) hxl
            go_upto_region 12 with fail
            clear hz
            go_cut [77] (fun s77 wy => ∃ g5 : Bool, s77 = .bool g5 ∧ LeadsE z g5 ∧ Stands C w wy j d)
            case first =>
              by_cases hz0 : 0 < z.size
              · have hze : z.toList.isEmpty = false := by rw [Lib.toList_data, List.isEmpty_eq_false_iff]; exact ne_nil_of_size hz0
                have hz0i : (0 : Int) < z.size := by omega
                by_cases h43 : ((((z[0]'hz0).toNat : Nat) : Int) == 43) = true
                · go_wp2_with fail
                  go_meet
                  exact ⟨_, rfl, (fun _ => hz0), HST4.out⟩
                · have h43' : ((((z[0]'hz0).toNat : Nat) : Int) == 43) = false := Bool.eq_false_iff.2 h43
                  clear h43
                  go_wp2_with fail
                  go_meet
                  exact ⟨_, rfl, (fun _ => hz0), HST4.out⟩
              · have hzn := nil_of_size hz0
                subst hzn
                go_wp2_with fail
                go_meet
                exact ⟨_, rfl, (fun h => by cases h), HST4.out⟩
            case rest =>
              obtain ⟨g5, rfl, hg5, hst6⟩ := hcut
              have HST6 := Lib.hid hst6
              clear hst6
              have hz1 : g5 = true → (1 : Int) ≤ z.size := fun h => by have := hg5 h; omega
              clear hg5
              go_upto_if 77 with fail
              go_cut [6] (fun s6 wy => ∃ x : ByteArray, s6 = .string x ∧ x.size ≤ 4096 ∧ Stands C w wy j d)
              case first =>
                cases g5
                · go_wp2_with fail
                  go_meet
                  exact ⟨z, rfl, hzl, HST6.out⟩
                · have hz1' := hz1 rfl
                  go_wp2_with fail
                  go_meet
                  exact ⟨_, rfl, Nat.le_trans (extract_size_le _ _ _) hzl, HST6.out⟩
              case rest =>
                obtain ⟨u, rfl, hul, hst7⟩ := hcut
                have HST7 := Lib.hid hst7
                clear hst7 hz1
                go_wp2_with fail
                refine (cutD_any u (by omega) _).mono ?_
                rintro e w5 ⟨x5, y5, rfl, hx5, hy5, q5, rfl⟩
                clear hx5 hy5
                go_wp2_with fail
                all_goals
                  go_meet
                  exact ⟨_, _, rfl, rfl, HST7.out.drewN _⟩
        case rest =>
          obtain ⟨y, g4, rfl, rfl, hst5⟩ := hcut
          have HST5 := Lib.hid hst5
          clear hst5
          have HP := Lib.hid (fun wz hz => parseInt_any s (by omega) wz hz)
          cases g4
          · go_wp2_with fail
            refine (wrong_any C _ _ _ _).mono ?_
            rintro e w6 ⟨f, p, k, b, h1, rfl, h3, h4, h5⟩
            go_wp2
            exact ⟨rfl, Fails.before HST5.out.only ⟨f, p, k, b, h1, rfl, h3, h4, h5⟩⟩
          · by_cases hy0 : 0 < y.size
            · have hye : y.toList.isEmpty = false := by rw [Lib.toList_data, List.isEmpty_eq_false_iff]; exact ne_nil_of_size hy0
              go_wp2_with fail
              refine (wrong_any C _ _ _ _).mono ?_
              rintro e w6 ⟨f, p, k, b, h1, rfl, h3, h4, h5⟩
              go_wp2
              exact ⟨rfl, Fails.before HST5.out.only ⟨f, p, k, b, h1, rfl, h3, h4, h5⟩⟩
            · have hyn := nil_of_size hy0
              subst hyn
              go_wp2_with fail
              refine (HP.out _ (HST5.out.pw hp).glob).mono ?_
              rintro e w6 ⟨v, err, rfl, hres, hbel⟩
              have HB := Lib.hid hbel
              clear hres hbel
              go_wp2_with fail
              refine (wrong_any C _ _ _ _).mono ?_
              rintro e w7 ⟨f, p, k, b, h1, rfl, h3, h4, h5⟩
              go_wp2
              exact ⟨rfl, Fails.before (HST5.out.only.trans (Only.of_below HB.out _)) ⟨f, p, k, b, h1, rfl, h3, h4, h5⟩⟩

end Toc
