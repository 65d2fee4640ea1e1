/-
  Parse7: The walks of jsonval's parser: escapes.
  Parse8: The walks of jsonval's parser: a unit of an escape.
  Parse9: The walks of jsonval's parser: an escape.
  Parse10: The walk of utf8.FullRune: where it says no, the decoder says U+FFFD of width 1.
-/
import Derived.Test.YtblbdgepocfngaaGreatDoorW3
namespace Toc
open Go Go.RowKit Go.Proofs

/-! ### numbers, whole -/
theorem numberL_none {l : Bytes} (h : numberL l = none) : numOf (l.takeWhile numericB) = none := by
  unfold numberL at h; simpa using h
theorem number_no (C : PC) (w : World) (i d : Nat) (hp : PW C w i d) {c : UInt8} {l : Bytes} (hd0 : C.bs.drop i = c :: l) (hc0 : numericB c = true) (h : numberL (C.bs.drop i) = none) :
    Calls Tryz.prog 134 #[ptrV C.pb] w fun e w' => Fails C w e w' := by
  cases hall : (unsigned ((C.bs.drop i).takeWhile numericB)).all digitB
  · exact number_no_rest C w i d hp hd0 hc0 hall
  · exact number_no_digits C w i d hp hd0 hc0 (numberL_none h) hall

/-! ### escapes of one byte -/
def EscRet (c : UInt8) (w : World) (e : Ending) (w' : World) : Prop :=
  w = w' ∧ e = .returned (.tuple #[.int .i32 (((escapedL c).getD 0 : Nat) : Int), .bool (escapedL c).isSome])

theorem u8_eq (c : UInt8) (n : Nat) (h : n < 256) : (((c.toNat : Int) == (n : Int)) = true) ↔ c = UInt8.ofNat n := by
  rw [beq_iff_eq, Int.natCast_inj]
  constructor
  · intro h1; subst h1; simp
  · intro h1; subst h1; simp; omega

set_option maxRecDepth 100000 in
theorem escaped_any (c : UInt8) (w : World) : Calls Tryz.prog 259 #[.int .u8 c.toNat] w fun e w' => EscRet c w e w' := by
  have e34 := u8_eq c 34 (by omega)
  have e92 := u8_eq c 92 (by omega)
  have e47 := u8_eq c 47 (by omega)
  have e98 := u8_eq c 98 (by omega)
  have e102 := u8_eq c 102 (by omega)
  have e110 := u8_eq c 110 (by omega)
  have e114 := u8_eq c 114 (by omega)
  have e116 := u8_eq c 116 (by omega)
  have HE := Lib.hid (show ∀ x : UInt8, escapedL x = (if x = 34 ∨ x = 92 ∨ x = 47 then some x.toNat else if x = 98 then some 8 else if x = 102 then some 12 else if x = 110 then some 10 else if x = 114 then some 13 else if x = 116 then some 9 else none) from fun x => by
    unfold escapedL; simp only [Bool.or_eq_true, beq_iff_eq, or_assoc])
  rcases Decidable.em (c = 34 ∨ c = 92 ∨ c = 47 ∨ c = 98 ∨ c = 102 ∨ c = 110 ∨ c = 114 ∨ c = 116) with h | h
  · rcases h with rfl | rfl | rfl | rfl | rfl | rfl | rfl | rfl <;>
    · go_enter Tryz.func259, Tryz.ntmps259
      go_wp2
      go_ret2
      exact ⟨rfl, rfl⟩
  · simp only [not_or] at h
    obtain ⟨h1, h2, h3, h4, h5, h6, h7, h8⟩ := h
    have g : ∀ n : Nat, n < 256 → c ≠ UInt8.ofNat n → ((c.toNat : Int) == (n : Int)) = false := fun n hn hc => by
      rw [Bool.eq_false_iff]; exact fun hh => hc ((u8_eq c n hn).1 hh)
    have g1 := g 34 (by omega) h1
    have g2 := g 92 (by omega) h2
    have g3 := g 47 (by omega) h3
    have g4 := g 98 (by omega) h4
    have g5 := g 102 (by omega) h5
    have g6 := g 110 (by omega) h6
    have g7 := g 114 (by omega) h7
    have g8 := g 116 (by omega) h8
    have hn : escapedL c = none := by rw [HE.out]; simp [h1, h2, h3, h4, h5, h6, h7, h8]
    have HN := Lib.hid hn
    clear hn g e34 e92 e47 e98 e102 e110 e114 e116 HE
    go_enter Tryz.func259, Tryz.ntmps259
    go_wp2
    go_ret2
    refine ⟨rfl, ?_⟩
    rw [HN.out]; rfl

/-! ### units -/
def unitStep (k n : Nat) (c : UInt8) : Option Nat :=
  if k = 0 then (if c = 92 then some n else none) else if k = 1 then (if c = 117 then some n else none) else (hexL c).map (16 * n + ·)
def unitG : Nat → Nat → Nat → Bytes → Option Nat
  | 0, _, n, _ => some n
  | _ + 1, _, _, [] => none
  | r + 1, k, n, c :: l => match unitStep k n c with | none => none | some m => unitG r (k + 1) m l

theorem unitG_eq (l : Bytes) : unitG 6 0 0 l = unitL l := by
  match l with
  | [] => rfl
  | [a] => simp only [unitG, unitStep, unitL]; split <;> rfl
  | [a, b] =>
    simp only [unitG, unitStep, unitL]
    repeat' split
    all_goals first | rfl | simp_all
  | [a, b, c] =>
    simp only [unitG, unitStep, unitL]
    repeat' split
    all_goals first | rfl | simp_all
  | [a, b, c, d] =>
    simp only [unitG, unitStep, unitL]
    repeat' split
    all_goals first | rfl | simp_all
  | [a, b, c, d, e] =>
    simp only [unitG, unitStep, unitL]
    repeat' split
    all_goals first | rfl | simp_all
  | a :: b :: c :: d :: e :: f :: l =>
    by_cases ha : a = 92
    · by_cases hb : b = 117
      · subst ha hb
        simp only [unitG, unitStep, unitL]
        cases hexL c <;> cases hexL d <;> cases hexL e <;> cases hexL f <;> simp
        omega
      · have h1 : unitL (a :: b :: c :: d :: e :: f :: l) = none := by
          unfold unitL; split
          · rename_i h; cases h; exact absurd rfl hb
          · rfl
        rw [h1]; simp [unitG, unitStep, ha, hb]
    · have h1 : unitL (a :: b :: c :: d :: e :: f :: l) = none := by
        unfold unitL; split
        · rename_i h; cases h; exact absurd rfl ha
        · rfl
      rw [h1]; simp [unitG, unitStep, ha]

end Toc

namespace Toc
open Go Go.RowKit Go.Proofs

def UnitRet (o : Option Nat) (w : World) (e : Ending) (w' : World) : Prop :=
  w = w' ∧ match o with
    | some n => n < 65536 ∧ e = .returned (.tuple #[.int .i64 n, .bool true, .bool false])
    | none => ∃ off, e = .returned (.tuple #[.int .i64 0, .bool false, .bool off])

theorem hexL_lt {c : UInt8} {n : Nat} (h : hexL c = some n) : n < 16 := by
  unfold hexL digitB at h
  split at h
  · rename_i h1; simp [UInt8.le_iff_toNat_le] at h1 h; omega
  · split at h
    · rename_i h1; simp [UInt8.le_iff_toNat_le] at h1 h; omega
    · split at h
      · rename_i h1; simp [UInt8.le_iff_toNat_le] at h1 h; omega
      · cases h

theorem hexL_digit {c : UInt8} (h : digitB c = true) : hexL c = some (c.toNat - 48) := by unfold hexL; rw [if_pos h]
theorem all_u8 {P : UInt8 → Prop} (h : ∀ n : Fin 256, P (UInt8.ofNat n.val)) (c : UInt8) : P c := by
  have := h ⟨c.toNat, c.toNat_lt⟩
  simpa using this
theorem hex_or (c : UInt8) : digitB c = false → 97 ≤ (c ||| 32).toNat → (c ||| 32).toNat ≤ 102 → hexL c = some ((c ||| 32).toNat - 87) :=
  all_u8 (P := fun c => digitB c = false → 97 ≤ (c ||| 32).toNat → (c ||| 32).toNat ≤ 102 → hexL c = some ((c ||| 32).toNat - 87)) (by decide +kernel) c
theorem hex_or_no (c : UInt8) : digitB c = false → ¬ (97 ≤ (c ||| 32).toNat ∧ (c ||| 32).toNat ≤ 102) → hexL c = none :=
  all_u8 (P := fun c => digitB c = false → ¬ (97 ≤ (c ||| 32).toNat ∧ (c ||| 32).toNat ≤ 102) → hexL c = none) (by decide +kernel) c

theorem bits_or32 (b : UInt8) : bits BinOp.or IntKind.u8 (b.toNat : Int) 32 = ((b ||| 32).toNat : Int) :=
  all_u8 (P := fun b => bits BinOp.or IntKind.u8 (b.toNat : Int) 32 = ((b ||| 32).toNat : Int)) (by decide +kernel) b

theorem unitG_lt : ∀ (l : Bytes) (n : Nat), unitL l = some n → n < 65536 := by
  intro l n h
  unfold unitL at h
  split at h
  · split at h
    · rename_i h1 h2 h3 h4
      cases h
      have := hexL_lt h1; have := hexL_lt h2; have := hexL_lt h3; have := hexL_lt h4; omega
    · cases h
  · cases h

set_option maxRecDepth 100000 in
set_option maxHeartbeats 1000000 in
theorem unit_any (C : PC) (w : World) (i d j : Nat) (hp : PW C w i d) (hj : j ≤ 8192) {o : Option Nat} (ho : unitL (C.bs.drop j) = o) :
    Calls Tryz.prog 260 #[ptrV C.pb, .int .i64 j] w fun e w' => UnitRet o w e w' := by
  have hsm := hp.small
  obtain ⟨c0, c1, c2, z1, z2⟩ := hp.cells
  have HP := Lib.hid hp
  have HO := Lib.hid ho
  clear hp ho c1 c2 z1 z2
  go_enter Tryz.func260, Tryz.ntmps260
  go_wp2
  go_loop [4, 9] (fun n t => ∃ (k m : Nat), k ≤ 6 ∧ t = .int .i64 k ∧ n = .int .i64 m ∧ m < 16 ^ k ∧ unitG (6 - k) k m (C.bs.drop (j + k)) = o) (fun _ t => 6 - (RowKit.intOf t).toNat)
  case atStart => exact ⟨0, 0, by omega, rfl, rfl, by decide, by rw [← HO.out]; exact unitG_eq _⟩
  case round =>
    obtain ⟨k, m, hk, rfl, rfl, hm, hg⟩ := hrel
    have HG := Lib.hid hg
    have hm6 : m < 16777216 := Nat.lt_of_lt_of_le hm (Nat.le_trans (Nat.pow_le_pow_right (by omega) hk) (by decide))
    have HM := Lib.hid hm
    clear hg hm
    by_cases h6 : k = 6
    · subst h6
      have hlt := unitG_lt (C.bs.drop j)
      go_wp2_with fail
      go_ret3
      have hg := HG.out
      simp [unitG] at hg
      subst hg
      exact ⟨rfl, hlt _ HO.out, rfl⟩
    · have k0 : (0 : Int) ≤ k := by omega
      have k6 : (k : Int) < 6 := by omega
      by_cases hlt : j + k < C.bs.length
      · have hcell := HP.out.bytes.cell (j + k) hlt
        have hstep : unitG (6 - k) k m (C.bs.drop (j + k)) = match unitStep k m (C.bs[j + k]'hlt) with | none => none | some m' => unitG (6 - (k + 1)) (k + 1) m' (C.bs.drop (j + k + 1)) := by
          have e : 6 - k = (6 - (k + 1)) + 1 := by omega
          rw [List.drop_eq_getElem_cons hlt, e]; rfl
        rw [HG.out] at hstep
        generalize C.bs[j + k]'hlt = b at hcell hstep
        have i0 : (0 : Int) ≤ (j : Int) + k := by omega
        have i1 : (j : Int) + k < C.bs.length := by omega
        have HST := Lib.hid hstep
        clear hstep
        rcases (show k = 0 ∨ k = 1 ∨ 2 ≤ k by omega) with rfl | rfl | h2
        · simp only [Nat.add_zero] at hcell
          by_cases hb : b = 92
          · subst hb
            go_wp2_with fail
            go_round
            case rel => exact ⟨1, m, by omega, by go_num, rfl, by have := HM.out; simp at this; show m < 16 ^ _; omega, by
              have := HST.out; simp only [unitStep] at this; simpa using this.symm⟩
            case measure => simp [RowKit.intOf]
          · have hb' : ((b.toNat : Int) == 92) = false := by rw [Bool.eq_false_iff]; exact fun hh => hb ((u8_eq b 92 (by omega)).1 hh)
            go_wp2_with fail
            go_ret3
            have := HST.out
            simp [unitStep, hb] at this
            subst this
            exact ⟨rfl, _, rfl⟩
        · by_cases hb : b = 117
          · subst hb
            go_wp2_with fail
            go_round
            case rel => exact ⟨2, m, by omega, by go_num, rfl, by have := HM.out; simp at this; show m < 16 ^ _; omega, by
              have := HST.out; simp only [unitStep] at this; simpa using this.symm⟩
            case measure => simp [RowKit.intOf]
          · have hb' : ((b.toNat : Int) == 117) = false := by rw [Bool.eq_false_iff]; exact fun hh => hb ((u8_eq b 117 (by omega)).1 hh)
            go_wp2_with fail
            go_ret3
            have := HST.out
            simp [unitStep, hb] at this
            subst this
            exact ⟨rfl, _, rfl⟩
        · have hk2 : (1 : Int) < k := by omega
          have hC := Lib.hid (digit_any b w)
          cases hd : digitB b
          · rw [hd] at hC
            have HD := Lib.hid hd
            clear hd
            go_wp2_with fail
            refine hC.out.mono ?_
            rintro e w1 ⟨rfl, rfl⟩
            go_wp2_with fail
            · have h97 : 97 ≤ bits BinOp.or IntKind.u8 (↑b.toNat) 32 := by assumption
              have h102 : bits BinOp.or IntKind.u8 (↑b.toNat) 32 ≤ 102 := by assumption
              rw [bits_or32] at h97 h102
              have hx := hex_or b HD.out (by omega) (by omega)
              have hs := HST.out
              have hm := HM.out
              simp only [unitStep, if_neg (show ¬ k = 0 by omega), if_neg (show ¬ k = 1 by omega), hx, Option.map_some] at hs
              go_round
              case rel =>
                refine ⟨k + 1, 16 * m + ((b ||| 32).toNat - 87), by omega, by go_num, by rw [bits_or32]; go_num, ?_, hs.symm⟩
                rw [Nat.pow_succ]; omega
              case measure => simp [RowKit.intOf]; omega
            · have h102 : 102 < bits BinOp.or IntKind.u8 (↑b.toNat) 32 := by assumption
              rw [bits_or32] at h102
              have hx := hex_or_no b HD.out (by omega)
              have hs := HST.out
              simp only [unitStep, if_neg (show ¬ k = 0 by omega), if_neg (show ¬ k = 1 by omega), hx, Option.map_none] at hs
              subst hs
              go_ret3
              exact ⟨rfl, _, rfl⟩
            · have h97 : bits BinOp.or IntKind.u8 (↑b.toNat) 32 < 97 := by assumption
              rw [bits_or32] at h97
              have hx := hex_or_no b HD.out (by omega)
              have hs := HST.out
              simp only [unitStep, if_neg (show ¬ k = 0 by omega), if_neg (show ¬ k = 1 by omega), hx, Option.map_none] at hs
              subst hs
              go_ret3
              exact ⟨rfl, _, rfl⟩
          · rw [hd] at hC
            have hd1 : 48 ≤ b.toNat := (digitB_nat hd).1
            have hd2 : b.toNat ≤ 57 := (digitB_nat hd).2
            have HD := Lib.hid hd
            clear hd
            go_wp2_with fail
            refine hC.out.mono ?_
            rintro e w1 ⟨rfl, rfl⟩
            go_wp2_with fail
            have hs := HST.out
            have hm := HM.out
            simp only [unitStep, if_neg (show ¬ k = 0 by omega), if_neg (show ¬ k = 1 by omega), hexL_digit HD.out, Option.map_some] at hs
            go_round
            case rel =>
              refine ⟨k + 1, 16 * m + (b.toNat - 48), by omega, by go_num, by go_num, ?_, hs.symm⟩
              rw [Nat.pow_succ]; omega
            case measure => simp [RowKit.intOf]; omega
      · have i1 : (C.bs.length : Int) ≤ (j : Int) + k := by omega
        go_wp2_with fail
        go_ret3
        have hg := HG.out
        rw [List.drop_eq_nil_of_le (by omega), show 6 - k = (6 - (k + 1)) + 1 by omega] at hg
        simp only [unitG] at hg
        subst hg
        exact ⟨rfl, _, rfl⟩

end Toc

namespace Toc
open Go Go.RowKit Go.Proofs

theorem unitL_len {l : Bytes} {n : Nat} (h : unitL l = some n) : 6 ≤ l.length := by
  unfold unitL at h
  split at h
  · simp
  · cases h

def EscapeRet (C : PC) (w : World) (d : Nat) (r : Nat) (t : Bytes) (e : Ending) (w' : World) : Prop :=
  ∃ j : Nat, e = .returned (.int .i32 r) ∧ Stands C w w' j d ∧ C.bs.drop j = t

set_option maxRecDepth 100000 in
set_option maxHeartbeats 1000000 in
theorem escape_one (C : PC) (w : World) (i d : Nat) (hp : PW C w i d) {c x : UInt8} {l : Bytes} (hd0 : C.bs.drop i = c :: x :: l) {r : Nat} (hr : escapedL x = some r) :
    Calls Tryz.prog 205 #[ptrV C.pb] w fun e w' => EscapeRet C w d r l e w' := by
  have hd1 := drop_next hd0
  have hlt := drop_lt hd1
  have hcell := hp.bytes.cell (i + 1) hlt
  rw [drop_get hd1] at hcell
  have hd2 := drop_next hd1
  have hsm := hp.small
  obtain ⟨c0, c1, c2, z1, z2⟩ := hp.cells
  have i1 : (i : Int) + 1 < C.bs.length := by omega
  have i0 : (0 : Int) ≤ i + 1 := by omega
  have HE := Lib.hid (escaped_any x w)
  have HP := Lib.hid hp
  have HD := Lib.hid hd2
  have HR := Lib.hid hr
  clear hp hd0 hd1 hd2 hr
  go_enter Tryz.func205, Tryz.ntmps205
  go_wp2_with fail
  refine HE.out.mono ?_
  rintro e w1 ⟨rfl, rfl⟩
  rw [HR.out]
  dsimp only [Option.getD, Option.isSome]
  go_wp2_with fail
  go_ret
  exact ⟨i + 2, rfl, (Stands.refl HP.out).step0 (i + 2) (by omega), HD.out⟩

set_option maxRecDepth 100000 in
set_option maxHeartbeats 1000000 in
theorem escape_unit (C : PC) (w : World) (i d : Nat) (hp : PW C w i d) {c x : UInt8} {l : Bytes} (hd0 : C.bs.drop i = c :: x :: l) (hr : escapedL x = none) {hi : Nat} (hu : unitL (C.bs.drop i) = some hi) (hh : hi < 55296 ∨ 57343 < hi) :
    Calls Tryz.prog 205 #[ptrV C.pb] w fun e w' => EscapeRet C w d hi ((C.bs.drop i).drop 6) e w' := by
  have hd1 := drop_next hd0
  have hlt := drop_lt hd1
  have hcell := hp.bytes.cell (i + 1) hlt
  rw [drop_get hd1] at hcell
  have hsm := hp.small
  have hlen := unitL_len hu
  rw [List.length_drop] at hlen
  obtain ⟨c0, c1, c2, z1, z2⟩ := hp.cells
  have i1 : (i : Int) + 1 < C.bs.length := by omega
  have i0 : (0 : Int) ≤ i + 1 := by omega
  have HE := Lib.hid (escaped_any x w)
  have HU := Lib.hid (unit_any C w i d i hp (by omega) hu)
  have HP := Lib.hid hp
  have HR := Lib.hid hr
  clear hp hd0 hd1 hr hu
  go_enter Tryz.func205, Tryz.ntmps205
  go_wp2_with fail
  refine HE.out.mono ?_
  rintro e w1 ⟨rfl, rfl⟩
  rw [HR.out]
  dsimp only [Option.getD, Option.isSome]
  go_wp2_with fail
  refine HU.out.mono ?_
  rintro e w1 ⟨rfl, hlt6, rfl⟩
  obtain ⟨z, hz⟩ : ∃ z : Int, (hi : Int) = z := ⟨_, rfl⟩
  rw [hz]
  have HZ := Lib.hid hz
  have z0 : 0 ≤ z := by omega
  have z6 : z < 65536 := by omega
  rcases hh with hh | hh
  · have h1 : z < 55296 := by omega
    clear hlt6 hh hz
    go_wp2_with fail
    go_ret
    exact ⟨i + 6, by rw [HZ.out]; rfl, (Stands.refl HP.out).step0 (i + 6) (by omega), by simp⟩
  · have h1 : 57343 < z := by omega
    clear hlt6 hh hz
    go_wp2_with fail
    go_ret
    exact ⟨i + 6, by rw [HZ.out]; rfl, (Stands.refl HP.out).step0 (i + 6) (by omega), by simp⟩

set_option maxRecDepth 100000 in
set_option maxHeartbeats 1000000 in
theorem escape_pair (C : PC) (w : World) (i d : Nat) (hp : PW C w i d) {c x : UInt8} {l : Bytes} (hd0 : C.bs.drop i = c :: x :: l) (hr : escapedL x = none) {hi lo : Nat} (hu : unitL (C.bs.drop i) = some hi) (hh : 55296 ≤ hi ∧ hi ≤ 56319) (hv : unitL (C.bs.drop (i + 6)) = some lo) (hl : 56320 ≤ lo ∧ lo ≤ 57343) :
    Calls Tryz.prog 205 #[ptrV C.pb] w fun e w' => EscapeRet C w d (65536 + (hi - 55296) * 1024 + (lo - 56320)) ((C.bs.drop i).drop 12) e w' := by
  have hd1 := drop_next hd0
  have hlt := drop_lt hd1
  have hcell := hp.bytes.cell (i + 1) hlt
  rw [drop_get hd1] at hcell
  have hsm := hp.small
  have hlen := unitL_len hv
  rw [List.length_drop] at hlen
  obtain ⟨c0, c1, c2, z1, z2⟩ := hp.cells
  have i1 : (i : Int) + 1 < C.bs.length := by omega
  have i0 : (0 : Int) ≤ i + 1 := by omega
  have HE := Lib.hid (escaped_any x w)
  have HU := Lib.hid (unit_any C w i d i hp (by omega) hu)
  have HV := Lib.hid (unit_any C w i d (i + 6) hp (by omega) hv)
  have HP := Lib.hid hp
  have HR := Lib.hid hr
  clear hp hd0 hd1 hr hu hv
  go_enter Tryz.func205, Tryz.ntmps205
  go_wp2_with fail
  refine HE.out.mono ?_
  rintro e w1 ⟨rfl, rfl⟩
  rw [HR.out]
  dsimp only [Option.getD, Option.isSome]
  go_wp2_with fail
  refine HU.out.mono ?_
  rintro e w1 ⟨rfl, hlt6, rfl⟩
  have h1 : (55296 : Int) ≤ hi := by omega
  have h2 : (hi : Int) ≤ 56319 := by omega
  have h3 : (56320 : Int) ≤ lo := by omega
  have h4 : (lo : Int) ≤ 57343 := by omega
  go_wp2_with fail
  refine HV.out.mono ?_
  rintro e w1 ⟨rfl, hlt7, rfl⟩
  go_wp2_with fail
  go_ret
  refine ⟨i + 12, by show Ending.returned (.int .i32 _) = .returned (.int .i32 _); congr 2; omega, (Stands.refl HP.out).step0 (i + 12) (by omega), by simp⟩

/-! ### no escape -/
set_option maxRecDepth 100000 in
set_option maxHeartbeats 1000000 in
theorem escape_end (C : PC) (w : World) (i d : Nat) (hp : PW C w i d) {c : UInt8} (hd0 : C.bs.drop i = [c]) :
    Calls Tryz.prog 205 #[ptrV C.pb] w fun e w' => Fails C w e w' := by
  have hd1 := drop_next hd0
  have hlt : C.bs.length ≤ i + 1 := by simpa using hd1
  have hsm := hp.small
  have hpos := hp.pos
  obtain ⟨c0, c1, c2, z1, z2⟩ := hp.cells
  have i1 : (C.bs.length : Int) ≤ i + 1 := by omega
  have hu : unitL (C.bs.drop i) = none := by
    rw [hd0]; unfold unitL; split
    · rename_i h; cases h
    · rfl
  have HU := Lib.hid (unit_any C w i d i hp (by omega) hu)
  have HP := Lib.hid hp
  clear hp hd0 hd1 hu
  go_enter Tryz.func205, Tryz.ntmps205
  go_wp2_with fail
  refine HU.out.mono ?_
  rintro e w1 ⟨rfl, off, rfl⟩
  go_wp2_with fail
  all_goals
    refine (wrong_any C _ _ _ _).mono ?_
    rintro e w2 ⟨f, p, k, b, h1, rfl, h3, h4, h5⟩
    go_wp2
    exact ⟨rfl, ⟨f, p, k, b, h1, rfl, h3, h4, h5⟩⟩

set_option maxRecDepth 100000 in
set_option maxHeartbeats 1000000 in
theorem escape_none (C : PC) (w : World) (i d : Nat) (hp : PW C w i d) {c x : UInt8} {l : Bytes} (hd0 : C.bs.drop i = c :: x :: l) (hr : escapedL x = none) (hu : unitL (C.bs.drop i) = none) :
    Calls Tryz.prog 205 #[ptrV C.pb] w fun e w' => Fails C w e w' := by
  have hd1 := drop_next hd0
  have hlt := drop_lt hd1
  have hcell := hp.bytes.cell (i + 1) hlt
  rw [drop_get hd1] at hcell
  have hsm := hp.small
  obtain ⟨c0, c1, c2, z1, z2⟩ := hp.cells
  have i1 : (i : Int) + 1 < C.bs.length := by omega
  have i0 : (0 : Int) ≤ i + 1 := by omega
  have HE := Lib.hid (escaped_any x w)
  have HU := Lib.hid (unit_any C w i d i hp (by omega) hu)
  have HP := Lib.hid hp
  have HR := Lib.hid hr
  clear hp hd0 hd1 hr hu
  go_enter Tryz.func205, Tryz.ntmps205
  go_wp2_with fail
  refine HE.out.mono ?_
  rintro e w1 ⟨rfl, rfl⟩
  rw [HR.out]
  dsimp only [Option.getD, Option.isSome]
  go_wp2_with fail
  refine HU.out.mono ?_
  rintro e w1 ⟨rfl, off, rfl⟩
  go_wp2_with fail
  all_goals
    refine (wrong_any C _ _ _ _).mono ?_
    rintro e w2 ⟨f, p, k, b, h1, rfl, h3, h4, h5⟩
    go_wp2
    exact ⟨rfl, ⟨f, p, k, b, h1, rfl, h3, h4, h5⟩⟩

set_option maxRecDepth 100000 in
set_option maxHeartbeats 1000000 in
theorem escape_low (C : PC) (w : World) (i d : Nat) (hp : PW C w i d) {c x : UInt8} {l : Bytes} (hd0 : C.bs.drop i = c :: x :: l) (hr : escapedL x = none) {hi : Nat} (hu : unitL (C.bs.drop i) = some hi) (hh : 56320 ≤ hi ∧ hi ≤ 57343) :
    Calls Tryz.prog 205 #[ptrV C.pb] w fun e w' => Fails C w e w' := by
  have hd1 := drop_next hd0
  have hlt := drop_lt hd1
  have hcell := hp.bytes.cell (i + 1) hlt
  rw [drop_get hd1] at hcell
  have hsm := hp.small
  obtain ⟨c0, c1, c2, z1, z2⟩ := hp.cells
  have i1 : (i : Int) + 1 < C.bs.length := by omega
  have i0 : (0 : Int) ≤ i + 1 := by omega
  have HE := Lib.hid (escaped_any x w)
  have HU := Lib.hid (unit_any C w i d i hp (by omega) hu)
  have HP := Lib.hid hp
  have HR := Lib.hid hr
  clear hp hd0 hd1 hr hu
  go_enter Tryz.func205, Tryz.ntmps205
  go_wp2_with fail
  refine HE.out.mono ?_
  rintro e w1 ⟨rfl, rfl⟩
  rw [HR.out]
  dsimp only [Option.getD, Option.isSome]
  go_wp2_with fail
  refine HU.out.mono ?_
  rintro e w1 ⟨rfl, hlt6, rfl⟩
  obtain ⟨z, hz⟩ : ∃ z : Int, (hi : Int) = z := ⟨_, rfl⟩
  rw [hz]
  have z0 : 56320 ≤ z := by omega
  have z6 : z ≤ 57343 := by omega
  clear hlt6 hh hz
  go_wp2_with fail
  refine (wrong_any C _ _ _ _).mono ?_
  rintro e w2 ⟨f, p, k, b, h1, rfl, h3, h4, h5⟩
  go_wp2
  exact ⟨rfl, ⟨f, p, k, b, h1, rfl, h3, h4, h5⟩⟩

set_option maxRecDepth 100000 in
set_option maxHeartbeats 1000000 in
theorem escape_half (C : PC) (w : World) (i d : Nat) (hp : PW C w i d) {c x : UInt8} {l : Bytes} (hd0 : C.bs.drop i = c :: x :: l) (hr : escapedL x = none) {hi : Nat} (hu : unitL (C.bs.drop i) = some hi) (hh : 55296 ≤ hi ∧ hi ≤ 56319) (hv : ∀ lo, unitL (C.bs.drop (i + 6)) = some lo → lo < 56320 ∨ 57343 < lo) :
    Calls Tryz.prog 205 #[ptrV C.pb] w fun e w' => Fails C w e w' := by
  have hd1 := drop_next hd0
  have hlt := drop_lt hd1
  have hcell := hp.bytes.cell (i + 1) hlt
  rw [drop_get hd1] at hcell
  have hsm := hp.small
  obtain ⟨c0, c1, c2, z1, z2⟩ := hp.cells
  have i1 : (i : Int) + 1 < C.bs.length := by omega
  have i0 : (0 : Int) ≤ i + 1 := by omega
  have HE := Lib.hid (escaped_any x w)
  have HU := Lib.hid (unit_any C w i d i hp (by omega) hu)
  have HP := Lib.hid hp
  have HR := Lib.hid hr
  obtain ⟨o, ho⟩ : ∃ o, unitL (C.bs.drop (i + 6)) = o := ⟨_, rfl⟩
  have HV := Lib.hid (unit_any C w i d (i + 6) hp (by omega) ho)
  rw [ho] at hv
  have HW := Lib.hid hv
  clear hp hd0 hd1 hr hu hv ho
  go_enter Tryz.func205, Tryz.ntmps205
  go_wp2_with fail
  refine HE.out.mono ?_
  rintro e w1 ⟨rfl, rfl⟩
  rw [HR.out]
  dsimp only [Option.getD, Option.isSome]
  go_wp2_with fail
  refine HU.out.mono ?_
  rintro e w1 ⟨rfl, hlt6, rfl⟩
  obtain ⟨z, hz⟩ : ∃ z : Int, (hi : Int) = z := ⟨_, rfl⟩
  rw [hz]
  have z0 : 55296 ≤ z := by omega
  have z6 : z ≤ 56319 := by omega
  clear hlt6 hh hz
  go_wp2_with fail
  refine HV.out.mono ?_
  rintro e w1 ⟨rfl, ho⟩
  cases o with
  | none =>
    obtain ⟨off, rfl⟩ := ho
    go_wp2_with fail
    all_goals
      refine (wrong_any C _ _ _ _).mono ?_
      rintro e w2 ⟨f, p, k, b, h1, rfl, h3, h4, h5⟩
      go_wp2
      exact ⟨rfl, ⟨f, p, k, b, h1, rfl, h3, h4, h5⟩⟩
  | some lo =>
    obtain ⟨h6, rfl⟩ := ho
    obtain ⟨y, hy⟩ : ∃ y : Int, (lo : Int) = y := ⟨_, rfl⟩
    rw [hy]
    have y0 : 0 ≤ y := by omega
    have y6 : y < 65536 := by omega
    have hl := HW.out lo rfl
    rcases hl with hl | hl
    · have y1 : y < 56320 := by omega
      clear h6 hl hy
      go_wp2_with fail
      refine (wrong_any C _ _ _ _).mono ?_
      rintro e w2 ⟨f, p, k, b, h1, rfl, h3, h4, h5⟩
      go_wp2
      exact ⟨rfl, ⟨f, p, k, b, h1, rfl, h3, h4, h5⟩⟩
    · have y1 : 57343 < y := by omega
      clear h6 hl hy
      go_wp2_with fail
      refine (wrong_any C _ _ _ _).mono ?_
      rintro e w2 ⟨f, p, k, b, h1, rfl, h3, h4, h5⟩
      go_wp2
      exact ⟨rfl, ⟨f, p, k, b, h1, rfl, h3, h4, h5⟩⟩

/-! ### escapes, whole -/
theorem escape_ok (C : PC) (w : World) (i d : Nat) (hp : PW C w i d) {c : UInt8} {l : Bytes} (hd0 : C.bs.drop i = c :: l) {r : Nat} {t : Bytes} (h : escL (c :: l) = some (r, t)) :
    Calls Tryz.prog 205 #[ptrV C.pb] w fun e w' => EscapeRet C w d r t e w' := by
  cases l with
  | nil => cases h
  | cons x l =>
    unfold escL at h
    dsimp only at h
    cases hx : escapedL x with
    | some n => rw [hx] at h; cases h; exact escape_one C w i d hp hd0 hx
    | none =>
      rw [hx] at h
      dsimp only at h
      rw [← hd0] at h
      unfold escU at h
      cases hu : unitL (C.bs.drop i) with
      | none => rw [hu] at h; cases h
      | some hi =>
        rw [hu] at h
        dsimp only at h
        split at h
        · rename_i hh
          cases hv : unitL ((C.bs.drop i).drop 6) with
          | none => rw [hv] at h; cases h
          | some lo =>
            rw [hv] at h
            dsimp only at h
            split at h
            · rename_i hl
              obtain ⟨rfl, rfl⟩ := Prod.mk.inj (Option.some.inj h)
              rw [List.drop_drop] at hv
              exact escape_pair C w i d hp hd0 hx hu hh hv hl
            · cases h
        · rename_i hh
          split at h
          · cases h
          · rename_i hh2
            cases h
            exact escape_unit C w i d hp hd0 hx hu (by omega)

theorem escape_no (C : PC) (w : World) (i d : Nat) (hp : PW C w i d) {c : UInt8} {l : Bytes} (hd0 : C.bs.drop i = c :: l) (h : escL (c :: l) = none) :
    Calls Tryz.prog 205 #[ptrV C.pb] w fun e w' => Fails C w e w' := by
  cases l with
  | nil => exact escape_end C w i d hp hd0
  | cons x l =>
    unfold escL at h
    dsimp only at h
    cases hx : escapedL x with
    | some n => rw [hx] at h; cases h
    | none =>
      rw [hx] at h
      dsimp only at h
      rw [← hd0] at h
      unfold escU at h
      cases hu : unitL (C.bs.drop i) with
      | none => exact escape_none C w i d hp hd0 hx hu
      | some hi =>
        rw [hu] at h
        dsimp only at h
        split at h
        · rename_i hh
          refine escape_half C w i d hp hd0 hx hu hh fun lo hlo => ?_
          rw [List.drop_drop, hlo] at h
          dsimp only at h
          split at h
          · cases h
          · omega
        · rename_i hh
          split at h
          · rename_i hh2
            exact escape_low C w i d hp hd0 hx hu hh2
          · cases h

end Toc

namespace Toc
open Go Go.RowKit Go.Proofs

def FullRet (l : Bytes) (w : World) (e : Ending) (w' : World) : Prop :=
  ∃ f : Bool, e = .returned (.bool f) ∧ Below w.heap.size w w' ∧ (f = false → headRune l = (65533, 1))

theorem headRune_short {l : Bytes} (h0 : 1 ≤ l.length) (hf : Lib.firstT (l.getD 0 0).toNat < 240) (hs : l.length < Lib.firstT (l.getD 0 0).toNat % 8) : headRune l = (65533, 1) := by
  unfold headRune
  rw [← Lib.slow_eq _ _ _ _ _ h0 (UInt8.toNat_lt _) (UInt8.toNat_lt _) (UInt8.toNat_lt _) hf]
  unfold Lib.slowN
  rw [if_pos hs]

theorem cell_alloc {w : World} {p : Addr} {v : Value} (h : w.cell? p = some v) (o : Obj) : (w.alloc o).cell? p = some v := by
  have hlt : p.block < w.heap.size := by
    rcases Nat.lt_or_ge p.block w.heap.size with h1 | h1
    · exact h1
    · unfold World.cell? at h
      rw [Array.getElem?_eq_none h1] at h
      cases h
  rw [World.cell?_of_block (Below.heap_alloc w o _ hlt), h]

set_option maxRecDepth 100000 in
set_option maxHeartbeats 4000000 in
theorem fullRune_any (C : PC) (w : World) (i d m cap : Nat) (hp : PW C w i d) (hi : i < C.bs.length) (hm : C.bs.length - i = m) :
    Calls Tryz.prog 207 #[.slice (some ⟨C.bb, C.off + i, none⟩) m cap] w fun e w' => FullRet (C.bs.drop i) w e w' := by
  have hT := hp.glob.u8
  have hsm := hp.small
  have hcell := hp.bytes.cell i hi
  have hs1 := hp.bytes.cell (i + 1)
  have hs2 := hp.bytes.cell (i + 2)
  have hshort := fun h => headRune_short (l := C.bs.drop i) (by rw [List.length_drop]; omega) h
  have hg0 : (C.bs.drop i).getD 0 0 = C.bs[i]'hi := by rw [List.drop_eq_getElem_cons hi]; rfl
  rw [hg0, List.length_drop, hm] at hshort
  obtain ⟨x0, hx0⟩ : ∃ x0, C.bs[i]'hi = x0 := ⟨_, rfl⟩
  rw [hx0] at hcell hshort
  have l0 := x0.toNat_lt
  have hc0 := hT.1 x0.toNat (by omega)
  have m0 : (0 : Int) < m := by omega
  have hmne : ((m : Int) == 0) = false := by rw [beq_eq_false_iff_ne]; omega
  clear hp
  rcases Lib.firstT_cases x0.toNat with hX | hX | hX | hX | hX | hX | hX | hX | hX
  · rw [hX] at hc0
    clear hT hX hshort hs1 hs2
    go_enter Tryz.func207, Tryz.ntmps207
    go_wp2
    go_ret
    exact ⟨true, rfl, Below.refl _ _, fun h => by cases h⟩
  · rw [hX] at hc0
    clear hT hX hshort hs1 hs2
    have m1 : (1 : Int) ≤ m := by omega
    go_enter Tryz.func207, Tryz.ntmps207
    go_wp2
    go_ret
    exact ⟨true, rfl, Below.refl _ _, fun h => by cases h⟩
  · have ha0 := (hT.2 0 (by omega)).1
    have ha1 := (hT.2 0 (by omega)).2
    simp only [Lib.accLo, Lib.accHi, Nat.reduceMul, Nat.reduceAdd, Nat.reduceEqDiff, if_true, if_false] at ha0 ha1
    rw [hX] at hc0 hshort
    clear hT hX
    by_cases hn : m < 2
    · have HS := Lib.hid (hshort (by omega) (by omega))
      clear hshort
      rcases (show m = 1 by omega) with rfl
      · clear hs1 hs2 hmne m0 hn
        go_enter Tryz.func207, Tryz.ntmps207
        go_wp2_with fail
        go_quiet (fail)
        go_wp2
        go_ret
        exact ⟨_, rfl, (((Only.refl [] w).alloc _).drewN _).below, fun _ => HS.out⟩
    · have hge : (2 : Int) ≤ m := by omega
      clear hshort hs1 hs2
      go_enter Tryz.func207, Tryz.ntmps207
      go_wp2
      go_ret
      exact ⟨true, rfl, Below.refl _ _, fun h => by cases h⟩
  · have ha0 := (hT.2 1 (by omega)).1
    have ha1 := (hT.2 1 (by omega)).2
    simp only [Lib.accLo, Lib.accHi, Nat.reduceMul, Nat.reduceAdd, Nat.reduceEqDiff, if_true, if_false] at ha0 ha1
    rw [hX] at hc0 hshort
    clear hT hX
    by_cases hn : m < 3
    · have HS := Lib.hid (hshort (by omega) (by omega))
      clear hshort
      rcases (show m = 1 ∨ m = 2 by omega) with rfl | rfl
      · clear hs1 hs2 hmne m0 hn
        go_enter Tryz.func207, Tryz.ntmps207
        go_wp2_with fail
        go_quiet (fail)
        go_wp2
        go_ret
        exact ⟨_, rfl, (((Only.refl [] w).alloc _).drewN _).below, fun _ => HS.out⟩
      · have h1 := hs1 (by omega)
        rw [← Nat.add_assoc] at h1
        generalize C.bs[i + 1]'(by omega) = x1 at h1
        have h1a := fun o => cell_alloc h1 o
        clear hs1 hs2 hmne m0 hn
        rcases (show (x1.toNat : Int) < 160 ∨ (160 ≤ (x1.toNat : Int) ∧ (x1.toNat : Int) ≤ 191) ∨ (160 ≤ (x1.toNat : Int) ∧ 191 < (x1.toNat : Int)) by omega) with hb | ⟨hb, hb'⟩ | ⟨hb, hb'⟩
        all_goals
          go_enter Tryz.func207, Tryz.ntmps207
          go_wp2_with fail
          go_quiet (fail)
          go_wp2
          all_goals
            go_ret
            exact ⟨_, rfl, (((Only.refl [] w).alloc _).drewN _).below, fun _ => HS.out⟩
    · have hge : (3 : Int) ≤ m := by omega
      clear hshort hs1 hs2
      go_enter Tryz.func207, Tryz.ntmps207
      go_wp2
      go_ret
      exact ⟨true, rfl, Below.refl _ _, fun h => by cases h⟩
  · have ha0 := (hT.2 0 (by omega)).1
    have ha1 := (hT.2 0 (by omega)).2
    simp only [Lib.accLo, Lib.accHi, Nat.reduceMul, Nat.reduceAdd, Nat.reduceEqDiff, if_true, if_false] at ha0 ha1
    rw [hX] at hc0 hshort
    clear hT hX
    by_cases hn : m < 3
    · have HS := Lib.hid (hshort (by omega) (by omega))
      clear hshort
      rcases (show m = 1 ∨ m = 2 by omega) with rfl | rfl
      · clear hs1 hs2 hmne m0 hn
        go_enter Tryz.func207, Tryz.ntmps207
        go_wp2_with fail
        go_quiet (fail)
        go_wp2
        go_ret
        exact ⟨_, rfl, (((Only.refl [] w).alloc _).drewN _).below, fun _ => HS.out⟩
      · have h1 := hs1 (by omega)
        rw [← Nat.add_assoc] at h1
        generalize C.bs[i + 1]'(by omega) = x1 at h1
        have h1a := fun o => cell_alloc h1 o
        clear hs1 hs2 hmne m0 hn
        rcases (show (x1.toNat : Int) < 128 ∨ (128 ≤ (x1.toNat : Int) ∧ (x1.toNat : Int) ≤ 191) ∨ (128 ≤ (x1.toNat : Int) ∧ 191 < (x1.toNat : Int)) by omega) with hb | ⟨hb, hb'⟩ | ⟨hb, hb'⟩
        all_goals
          go_enter Tryz.func207, Tryz.ntmps207
          go_wp2_with fail
          go_quiet (fail)
          go_wp2
          all_goals
            go_ret
            exact ⟨_, rfl, (((Only.refl [] w).alloc _).drewN _).below, fun _ => HS.out⟩
    · have hge : (3 : Int) ≤ m := by omega
      clear hshort hs1 hs2
      go_enter Tryz.func207, Tryz.ntmps207
      go_wp2
      go_ret
      exact ⟨true, rfl, Below.refl _ _, fun h => by cases h⟩
  · have ha0 := (hT.2 2 (by omega)).1
    have ha1 := (hT.2 2 (by omega)).2
    simp only [Lib.accLo, Lib.accHi, Nat.reduceMul, Nat.reduceAdd, Nat.reduceEqDiff, if_true, if_false] at ha0 ha1
    rw [hX] at hc0 hshort
    clear hT hX
    by_cases hn : m < 3
    · have HS := Lib.hid (hshort (by omega) (by omega))
      clear hshort
      rcases (show m = 1 ∨ m = 2 by omega) with rfl | rfl
      · clear hs1 hs2 hmne m0 hn
        go_enter Tryz.func207, Tryz.ntmps207
        go_wp2_with fail
        go_quiet (fail)
        go_wp2
        go_ret
        exact ⟨_, rfl, (((Only.refl [] w).alloc _).drewN _).below, fun _ => HS.out⟩
      · have h1 := hs1 (by omega)
        rw [← Nat.add_assoc] at h1
        generalize C.bs[i + 1]'(by omega) = x1 at h1
        have h1a := fun o => cell_alloc h1 o
        clear hs1 hs2 hmne m0 hn
        rcases (show (x1.toNat : Int) < 128 ∨ (128 ≤ (x1.toNat : Int) ∧ (x1.toNat : Int) ≤ 159) ∨ (128 ≤ (x1.toNat : Int) ∧ 159 < (x1.toNat : Int)) by omega) with hb | ⟨hb, hb'⟩ | ⟨hb, hb'⟩
        all_goals
          go_enter Tryz.func207, Tryz.ntmps207
          go_wp2_with fail
          go_quiet (fail)
          go_wp2
          all_goals
            go_ret
            exact ⟨_, rfl, (((Only.refl [] w).alloc _).drewN _).below, fun _ => HS.out⟩
    · have hge : (3 : Int) ≤ m := by omega
      clear hshort hs1 hs2
      go_enter Tryz.func207, Tryz.ntmps207
      go_wp2
      go_ret
      exact ⟨true, rfl, Below.refl _ _, fun h => by cases h⟩
  · have ha0 := (hT.2 3 (by omega)).1
    have ha1 := (hT.2 3 (by omega)).2
    simp only [Lib.accLo, Lib.accHi, Nat.reduceMul, Nat.reduceAdd, Nat.reduceEqDiff, if_true, if_false] at ha0 ha1
    rw [hX] at hc0 hshort
    clear hT hX
    by_cases hn : m < 4
    · have HS := Lib.hid (hshort (by omega) (by omega))
      clear hshort
      rcases (show m = 1 ∨ m = 2 ∨ m = 3 by omega) with rfl | rfl | rfl
      · clear hs1 hs2 hmne m0 hn
        go_enter Tryz.func207, Tryz.ntmps207
        go_wp2_with fail
        go_quiet (fail)
        go_wp2
        go_ret
        exact ⟨_, rfl, (((Only.refl [] w).alloc _).drewN _).below, fun _ => HS.out⟩
      · have h1 := hs1 (by omega)
        rw [← Nat.add_assoc] at h1
        generalize C.bs[i + 1]'(by omega) = x1 at h1
        have h1a := fun o => cell_alloc h1 o
        clear hs1 hs2 hmne m0 hn
        rcases (show (x1.toNat : Int) < 144 ∨ (144 ≤ (x1.toNat : Int) ∧ (x1.toNat : Int) ≤ 191) ∨ (144 ≤ (x1.toNat : Int) ∧ 191 < (x1.toNat : Int)) by omega) with hb | ⟨hb, hb'⟩ | ⟨hb, hb'⟩
        all_goals
          go_enter Tryz.func207, Tryz.ntmps207
          go_wp2_with fail
          go_quiet (fail)
          go_wp2
          all_goals
            go_ret
            exact ⟨_, rfl, (((Only.refl [] w).alloc _).drewN _).below, fun _ => HS.out⟩
      · have h1 := hs1 (by omega)
        rw [← Nat.add_assoc] at h1
        generalize C.bs[i + 1]'(by omega) = x1 at h1
        have h1a := fun o => cell_alloc h1 o
        have h2 := hs2 (by omega)
        rw [← Nat.add_assoc] at h2
        generalize C.bs[i + 2]'(by omega) = x2 at h2
        have h2a := fun o => cell_alloc h2 o
        clear hs1 hs2 hmne m0 hn
        rcases (show (x1.toNat : Int) < 144 ∨ (144 ≤ (x1.toNat : Int) ∧ (x1.toNat : Int) ≤ 191) ∨ (144 ≤ (x1.toNat : Int) ∧ 191 < (x1.toNat : Int)) by omega) with hb | ⟨hb, hb'⟩ | ⟨hb, hb'⟩
        all_goals
          go_enter Tryz.func207, Tryz.ntmps207
          go_wp2_with fail
          go_quiet (fail)
          go_wp2
          all_goals
            go_ret
            exact ⟨_, rfl, (((Only.refl [] w).alloc _).drewN _).below, fun _ => HS.out⟩
    · have hge : (4 : Int) ≤ m := by omega
      clear hshort hs1 hs2
      go_enter Tryz.func207, Tryz.ntmps207
      go_wp2
      go_ret
      exact ⟨true, rfl, Below.refl _ _, fun h => by cases h⟩
  · have ha0 := (hT.2 0 (by omega)).1
    have ha1 := (hT.2 0 (by omega)).2
    simp only [Lib.accLo, Lib.accHi, Nat.reduceMul, Nat.reduceAdd, Nat.reduceEqDiff, if_true, if_false] at ha0 ha1
    rw [hX] at hc0 hshort
    clear hT hX
    by_cases hn : m < 4
    · have HS := Lib.hid (hshort (by omega) (by omega))
      clear hshort
      rcases (show m = 1 ∨ m = 2 ∨ m = 3 by omega) with rfl | rfl | rfl
      · clear hs1 hs2 hmne m0 hn
        go_enter Tryz.func207, Tryz.ntmps207
        go_wp2_with fail
        go_quiet (fail)
        go_wp2
        go_ret
        exact ⟨_, rfl, (((Only.refl [] w).alloc _).drewN _).below, fun _ => HS.out⟩
      · have h1 := hs1 (by omega)
        rw [← Nat.add_assoc] at h1
        generalize C.bs[i + 1]'(by omega) = x1 at h1
        have h1a := fun o => cell_alloc h1 o
        clear hs1 hs2 hmne m0 hn
        rcases (show (x1.toNat : Int) < 128 ∨ (128 ≤ (x1.toNat : Int) ∧ (x1.toNat : Int) ≤ 191) ∨ (128 ≤ (x1.toNat : Int) ∧ 191 < (x1.toNat : Int)) by omega) with hb | ⟨hb, hb'⟩ | ⟨hb, hb'⟩
        all_goals
          go_enter Tryz.func207, Tryz.ntmps207
          go_wp2_with fail
          go_quiet (fail)
          go_wp2
          all_goals
            go_ret
            exact ⟨_, rfl, (((Only.refl [] w).alloc _).drewN _).below, fun _ => HS.out⟩
      · have h1 := hs1 (by omega)
        rw [← Nat.add_assoc] at h1
        generalize C.bs[i + 1]'(by omega) = x1 at h1
        have h1a := fun o => cell_alloc h1 o
        have h2 := hs2 (by omega)
        rw [← Nat.add_assoc] at h2
        generalize C.bs[i + 2]'(by omega) = x2 at h2
        have h2a := fun o => cell_alloc h2 o
        clear hs1 hs2 hmne m0 hn
        rcases (show (x1.toNat : Int) < 128 ∨ (128 ≤ (x1.toNat : Int) ∧ (x1.toNat : Int) ≤ 191) ∨ (128 ≤ (x1.toNat : Int) ∧ 191 < (x1.toNat : Int)) by omega) with hb | ⟨hb, hb'⟩ | ⟨hb, hb'⟩
        all_goals
          go_enter Tryz.func207, Tryz.ntmps207
          go_wp2_with fail
          go_quiet (fail)
          go_wp2
          all_goals
            go_ret
            exact ⟨_, rfl, (((Only.refl [] w).alloc _).drewN _).below, fun _ => HS.out⟩
    · have hge : (4 : Int) ≤ m := by omega
      clear hshort hs1 hs2
      go_enter Tryz.func207, Tryz.ntmps207
      go_wp2
      go_ret
      exact ⟨true, rfl, Below.refl _ _, fun h => by cases h⟩
  · have ha0 := (hT.2 4 (by omega)).1
    have ha1 := (hT.2 4 (by omega)).2
    simp only [Lib.accLo, Lib.accHi, Nat.reduceMul, Nat.reduceAdd, Nat.reduceEqDiff, if_true, if_false] at ha0 ha1
    rw [hX] at hc0 hshort
    clear hT hX
    by_cases hn : m < 4
    · have HS := Lib.hid (hshort (by omega) (by omega))
      clear hshort
      rcases (show m = 1 ∨ m = 2 ∨ m = 3 by omega) with rfl | rfl | rfl
      · clear hs1 hs2 hmne m0 hn
        go_enter Tryz.func207, Tryz.ntmps207
        go_wp2_with fail
        go_quiet (fail)
        go_wp2
        go_ret
        exact ⟨_, rfl, (((Only.refl [] w).alloc _).drewN _).below, fun _ => HS.out⟩
      · have h1 := hs1 (by omega)
        rw [← Nat.add_assoc] at h1
        generalize C.bs[i + 1]'(by omega) = x1 at h1
        have h1a := fun o => cell_alloc h1 o
        clear hs1 hs2 hmne m0 hn
        rcases (show (x1.toNat : Int) < 128 ∨ (128 ≤ (x1.toNat : Int) ∧ (x1.toNat : Int) ≤ 143) ∨ (128 ≤ (x1.toNat : Int) ∧ 143 < (x1.toNat : Int)) by omega) with hb | ⟨hb, hb'⟩ | ⟨hb, hb'⟩
        all_goals
          go_enter Tryz.func207, Tryz.ntmps207
          go_wp2_with fail
          go_quiet (fail)
          go_wp2
          all_goals
            go_ret
            exact ⟨_, rfl, (((Only.refl [] w).alloc _).drewN _).below, fun _ => HS.out⟩
      · have h1 := hs1 (by omega)
        rw [← Nat.add_assoc] at h1
        generalize C.bs[i + 1]'(by omega) = x1 at h1
        have h1a := fun o => cell_alloc h1 o
        have h2 := hs2 (by omega)
        rw [← Nat.add_assoc] at h2
        generalize C.bs[i + 2]'(by omega) = x2 at h2
        have h2a := fun o => cell_alloc h2 o
        clear hs1 hs2 hmne m0 hn
        rcases (show (x1.toNat : Int) < 128 ∨ (128 ≤ (x1.toNat : Int) ∧ (x1.toNat : Int) ≤ 143) ∨ (128 ≤ (x1.toNat : Int) ∧ 143 < (x1.toNat : Int)) by omega) with hb | ⟨hb, hb'⟩ | ⟨hb, hb'⟩
        all_goals
          go_enter Tryz.func207, Tryz.ntmps207
          go_wp2_with fail
          go_quiet (fail)
          go_wp2
          all_goals
            go_ret
            exact ⟨_, rfl, (((Only.refl [] w).alloc _).drewN _).below, fun _ => HS.out⟩
    · have hge : (4 : Int) ≤ m := by omega
      clear hshort hs1 hs2
      go_enter Tryz.func207, Tryz.ntmps207
      go_wp2
      go_ret
      exact ⟨true, rfl, Below.refl _ _, fun h => by cases h⟩

end Toc
