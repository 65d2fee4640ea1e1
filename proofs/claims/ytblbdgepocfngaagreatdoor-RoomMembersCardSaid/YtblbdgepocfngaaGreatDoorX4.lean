/-
  DeedsL: The texts of RoomMembers' deeds, and what they are read as. No program in sight; no condition.
  DeedW: The text of a deed: the walks of hows and Deed.text.
  DeedT: The walk of Deed.text.
-/
import Derived.Test.YtblbdgepocfngaaGreatDoorX1
import Derived.Test.YtblbdgepocfngaaGreatDoorWL
import Derived.Test.YtblbdgepocfngaaGreatDoorX3
import Derived.Test.YtblbdgepocfngaaGreatDoorWE
import Derived.Test.YtblbdgepocfngaaGreatDoorWF
namespace Toc
open Go Go.RowKit Go.Proofs

def sKnock : Bytes := [107, 110, 111, 99, 107]
def sNoName : Bytes := [110, 111, 32, 110, 97, 109, 101]
def sMessage : Bytes := [109, 46, 114, 111, 111, 109, 46, 109, 101, 115, 115, 97, 103, 101]
def hH : Bytes := [123, 34, 101, 118, 101, 110, 116, 95, 105, 100, 34, 58, 34]
def hI : Bytes := [34, 44, 34, 114, 111, 111, 109, 95, 105, 100, 34, 58, 34, 33, 114, 34, 44, 34, 115, 101, 110, 100, 101, 114, 34, 58, 34]
def hJ : Bytes := [34, 44, 34, 116, 121, 112, 101, 34, 58, 34]
def tP : Bytes := [109, 46, 114, 111, 111, 109, 46, 112, 111, 119, 101, 114, 95, 108, 101, 118, 101, 108, 115, 34, 44, 34, 115, 116, 97, 116, 101, 95, 107, 101, 121, 34, 58, 34, 34, 44, 34, 99, 111, 110, 116, 101, 110, 116, 34, 58, 123, 34, 117, 115, 101, 114, 115, 34, 58, 123, 34]
def tQ : Bytes := [34, 58]
def tR : Bytes := [125, 44, 34, 117, 115, 101, 114, 115, 95, 100, 101, 102, 97, 117, 108, 116, 34, 58, 49]
def tS : Bytes := [125, 125]
def tM : Bytes := [109, 46, 114, 111, 111, 109, 46, 109, 101, 115, 115, 97, 103, 101, 34, 44, 34, 99, 111, 110, 116, 101, 110, 116, 34, 58, 123, 34, 109, 101, 109, 98, 101, 114, 115, 104, 105, 112, 34, 58, 34, 106, 111, 105, 110, 34, 125, 125]
def tN : Bytes := [109, 46, 114, 111, 111, 109, 46, 109, 101, 109, 98, 101, 114, 34, 44, 34, 115, 116, 97, 116, 101, 95, 107, 101, 121, 34, 58, 34, 110, 111, 32, 110, 97, 109, 101, 34, 44, 34, 99, 111, 110, 116, 101, 110, 116, 34, 58, 123, 34, 109, 101, 109, 98, 101, 114, 115, 104, 105, 112, 34, 58, 34, 106, 111, 105, 110, 34, 125, 125]
def mA : Bytes := [44, 34, 100, 105, 115, 112, 108, 97, 121, 110, 97, 109, 101, 34, 58, 34, 78]
def mB : Bytes := [34]


def headT (id o : Bytes) : Bytes := hH ++ id ++ hI ++ o ++ hJ
def moreT (c : UInt8) : Bytes := mA ++ [c] ++ mB
/-- What a deed is, as picked: its kind; whom, who else, how, the digit's sign. -/
inductive Dd where
  | member (u h : Bytes) (c : UInt8)
  | power (o u : Bytes) (c : UInt8)
  | message (o : Bytes)
  | noName (o : Bytes)
def textD (id : Bytes) : Dd → Bytes
  | .member u h c => joinsT id u h (moreT c)
  | .power o u c => headT id o ++ tP ++ u ++ tQ ++ [c] ++ tR ++ [c] ++ tS
  | .message o => headT id o ++ tM
  | .noName o => headT id o ++ tN
def digD (c : UInt8) : Int := ((c.toNat - 48 : Nat) : Int)
def valD (id : Bytes) : Dd → JV
  | .member u h c => .obj [(sContent, .obj [(sDisplayname, .text [78, c]), (sMembership, .text h)]), (sEventId, .text id), (sRoomId, .text sR), (sSender, .text sAhome), (sStateKey, .text u), (sType, .text sMember)]
  | .power o u c => .obj [(sContent, .obj [(sUsers, .obj [(u, .int (digD c))]), (sUsersDefault, .int (10 + digD c))]), (sEventId, .text id), (sRoomId, .text sR), (sSender, .text o), (sStateKey, .text []), (sType, .text sPower)]
  | .message o => .obj [(sContent, .obj [(sMembership, .text sJoin)]), (sEventId, .text id), (sRoomId, .text sR), (sSender, .text o), (sType, .text sMessage)]
  | .noName o => .obj [(sContent, .obj [(sMembership, .text sJoin)]), (sEventId, .text id), (sRoomId, .text sR), (sSender, .text o), (sStateKey, .text sNoName), (sType, .text sMember)]
def evD (id : Bytes) (d : Dd) : Ev := match d with
  | .member u _ _ => ⟨id, sR, sAhome, sMember, true, u, [], valD id d⟩
  | .power o _ _ => ⟨id, sR, o, sPower, true, [], [], valD id d⟩
  | .message o => ⟨id, sR, o, sMessage, false, [], [], valD id d⟩
  | .noName o => ⟨id, sR, o, sMember, true, sNoName, [], valD id d⟩

def howL : List Bytes := [sJoin, sLeave, sInvite, sBan, sKnock, sJoin]
def digB (c : UInt8) : Bool := 48 ≤ c && c ≤ 57
def letB (c : UInt8) : Bool := 97 ≤ c && c ≤ 122
def DdOk : Dd → Prop
  | .member u h c => u ∈ userL ∧ h ∈ howL ∧ digB c = true
  | .power o u c => o ∈ userL ∧ u ∈ userL ∧ digB c = true
  | .message o => o ∈ userL
  | .noName o => o ∈ userL
/-- An event's name: a dollar and two small letters. -/
def IdOk (id : Bytes) : Prop := ∃ a c : UInt8, id = [36, a, c] ∧ letB a = true ∧ letB c = true

theorem user_asis : ∀ u ∈ userL, asisB u = true ∧ userB u = true ∧ u.length = 7 := by decide +kernel
theorem how_asis : ∀ h ∈ howL, asisB h = true ∧ h.length ≤ 6 := by decide +kernel
theorem let_plain (c : UInt8) : (!letB c || plainC c) = true := all8 (fun c => !letB c || plainC c) (by decide +kernel) c
theorem dig_plain (c : UInt8) : (!digB c || plainC c) = true := all8 (fun c => !digB c || plainC c) (by decide +kernel) c
theorem let_name (c : UInt8) : (!letB c || inName.contains c) = true := all8 (fun c => !letB c || inName.contains c) (by decide +kernel) c
theorem dig_num (c : UInt8) : (!digB c || (digitB c && numericB c && (decNat [c] == c.toNat - 48) && decide (c.toNat - 48 ≤ 9) && (c != 45) && (decNat [49, c] == 10 + (c.toNat - 48)))) = true :=
  all8 (fun c => !digB c || (digitB c && numericB c && (decNat [c] == c.toNat - 48) && decide (c.toNat - 48 ≤ 9) && (c != 45) && (decNat [49, c] == 10 + (c.toNat - 48)))) (by decide +kernel) c
theorem id_asis {id : Bytes} (h : IdOk id) : asisB id = true ∧ id.length = 3 := by
  obtain ⟨a, c, rfl, ha, hc⟩ := h
  have h1 := let_plain a
  have h2 := let_plain c
  rw [ha] at h1; rw [hc] at h2
  simp at h1 h2
  refine ⟨?_, rfl⟩
  simp [asisB, h1, h2]
  decide
theorem id_event {id : Bytes} (h : IdOk id) : eventB id = true := by
  obtain ⟨a, c, rfl, ha, hc⟩ := h
  have h1 := let_name a
  have h2 := let_name c
  rw [ha, Bool.not_true, Bool.false_or] at h1
  rw [hc, Bool.not_true, Bool.false_or] at h2
  have h3 : (([a, c] : Bytes).all fun b => inName.contains b) = true := by
    rw [List.all_cons, List.all_cons, h1, h2]; rfl
  show (true && ((36 : UInt8) == 36 && (true && (([a, c] : Bytes).all fun b => inName.contains b)))) = true
  rw [h3]
  rfl

theorem reads_dig (k : Nat) {c : UInt8} (h : digB c = true) : Reads k [c] (.int (digD c)) := by
  have h1 := dig_num c
  rw [h, Bool.not_true, Bool.false_or] at h1
  simp only [Bool.and_eq_true, beq_iff_eq, decide_eq_true_eq, bne_iff_ne, ne_eq] at h1
  obtain ⟨⟨⟨⟨⟨g1, g2⟩, g3⟩, g4⟩, g5⟩, g6⟩ := h1
  refine reads_num k g1 (by simp [g2]) ?_
  unfold numOf digD
  split
  · rename_i r e; cases e; exact absurd rfl g5
  · dsimp only
    rw [g3]
    simp [g1]
    omega
theorem reads_ten (k : Nat) {c : UInt8} (h : digB c = true) : Reads k [49, c] (.int (10 + digD c)) := by
  have h1 := dig_num c
  rw [h, Bool.not_true, Bool.false_or] at h1
  simp only [Bool.and_eq_true, beq_iff_eq, decide_eq_true_eq, bne_iff_ne, ne_eq] at h1
  obtain ⟨⟨⟨⟨⟨g1, g2⟩, g3⟩, g4⟩, g5⟩, g6⟩ := h1
  refine reads_num k (by decide) (by simp [g2]; decide) ?_
  change (if (([49, c] : Bytes).all digitB && !([49, c] : Bytes).isEmpty && (([49, c] : Bytes).length == 1 || ([49, c] : Bytes).headD 0 != 48) && decide (decNat [49, c] ≤ 9007199254740991)) = true then some ((decNat [49, c] : Nat) : Int) else none) = _
  rw [g6]
  unfold digD
  simp [g1]
  exact ⟨by decide, by omega⟩

theorem asis_lit : asisB sEventId = true ∧ asisB sRoomId = true ∧ asisB sSender = true ∧ asisB sType = true ∧ asisB sStateKey = true ∧ asisB sContent = true ∧ asisB sMembership = true ∧ asisB sDisplayname = true ∧ asisB sUsers = true ∧ asisB sUsersDefault = true ∧ asisB sR = true ∧ asisB sAhome = true ∧ asisB sMember = true ∧ asisB sPower = true ∧ asisB sMessage = true ∧ asisB sNoName = true ∧ asisB sJoin = true ∧ asisB [] = true := by decide
theorem dig_asis {c : UInt8} (h : digB c = true) : asisB [78, c] = true := by
  have h1 := dig_plain c
  rw [h, Bool.not_true, Bool.false_or] at h1
  simp [asisB, h1]
  decide

def inM (h : Bytes) (c : UInt8) : List (Bytes × Bytes × JV) := [(sMembership, quoteP h, .text h), (sDisplayname, quoteP [78, c], .text [78, c])]
def inU (u : Bytes) (c : UInt8) : List (Bytes × Bytes × JV) := [(u, [c], .int (digD c))]
def inP (u : Bytes) (c : UInt8) : List (Bytes × Bytes × JV) := [(sUsers, 123 :: (rowM (inU u c) ++ [125]), .obj (putsM [] (inU u c))), (sUsersDefault, [49, c], .int (10 + digD c))]
def inJ : List (Bytes × Bytes × JV) := [(sMembership, quoteP sJoin, .text sJoin)]
def rowD (id : Bytes) : Dd → List (Bytes × Bytes × JV)
  | .member u h c => [(sEventId, quoteP id, .text id), (sRoomId, quoteP sR, .text sR), (sSender, quoteP sAhome, .text sAhome), (sType, quoteP sMember, .text sMember), (sStateKey, quoteP u, .text u), (sContent, 123 :: (rowM (inM h c) ++ [125]), .obj (putsM [] (inM h c)))]
  | .power o u c => [(sEventId, quoteP id, .text id), (sRoomId, quoteP sR, .text sR), (sSender, quoteP o, .text o), (sType, quoteP sPower, .text sPower), (sStateKey, quoteP [], .text []), (sContent, 123 :: (rowM (inP u c) ++ [125]), .obj (putsM [] (inP u c)))]
  | .message o => [(sEventId, quoteP id, .text id), (sRoomId, quoteP sR, .text sR), (sSender, quoteP o, .text o), (sType, quoteP sMessage, .text sMessage), (sContent, 123 :: (rowM inJ ++ [125]), .obj (putsM [] inJ))]
  | .noName o => [(sEventId, quoteP id, .text id), (sRoomId, quoteP sR, .text sR), (sSender, quoteP o, .text o), (sType, quoteP sMember, .text sMember), (sStateKey, quoteP sNoName, .text sNoName), (sContent, 123 :: (rowM inJ ++ [125]), .obj (putsM [] inJ))]
theorem text_row (id : Bytes) (d : Dd) : textD id d = 123 :: (rowM (rowD id d) ++ [125]) := by
  cases d <;> simp [textD, rowD, rowM, quoteP, inM, inU, inP, inJ, joinsT, moreT, headT, jA, jB, jC, jD, jE, mA, mB, hH, hI, hJ, tP, tQ, tR, tS, tM, tN, sEventId, sRoomId, sSender, sType, sStateKey, sContent, sMembership, sDisplayname, sUsers, sUsersDefault, sR, sAhome, sMember, sPower, sMessage, sNoName, sJoin]
theorem val_row (id : Bytes) (d : Dd) : JV.obj (putsM [] (rowD id d)) = valD id d := by
  cases d <;> kernel_rfl
theorem news_row (id : Bytes) (d : Dd) : newsM [] (rowD id d) = true := by
  cases d <;> kernel_rfl
theorem reads_row {id : Bytes} {d : Dd} (hid : IdOk id) (hd : DdOk d) : ∀ t ∈ rowD id d, asisB t.1 = true ∧ Reads 9 t.2.1 t.2.2 := by
  obtain ⟨a1, a2, a3, a4, a5, a6, a7, a8, a9, a10, a11, a12, a13, a14, a15, a16, a17, a18⟩ := asis_lit
  have hi := (id_asis hid).1
  have hJ : Reads 9 (123 :: (rowM inJ ++ [125])) (.obj (putsM [] inJ)) := reads_obj (k := 8) (by decide) (by
    simp only [inJ, List.mem_cons, List.not_mem_nil, or_false]
    rintro t rfl
    exact ⟨a7, reads_text 8 a17⟩) (by kernel_rfl)
  cases d with
  | member u h c =>
    obtain ⟨hu, hh, hc⟩ := hd
    have hM : Reads 9 (123 :: (rowM (inM h c) ++ [125])) (.obj (putsM [] (inM h c))) := reads_obj (k := 8) (by simp [inM]) (by
      simp only [inM, List.mem_cons, List.not_mem_nil, or_false]
      rintro t (rfl | rfl)
      · exact ⟨a7, reads_text 8 (how_asis h hh).1⟩
      · exact ⟨a8, reads_text 8 (dig_asis hc)⟩) (by kernel_rfl)
    simp only [rowD, List.mem_cons, List.not_mem_nil, or_false]
    rintro t (rfl | rfl | rfl | rfl | rfl | rfl)
    · exact ⟨a1, reads_text 9 hi⟩
    · exact ⟨a2, reads_text 9 a11⟩
    · exact ⟨a3, reads_text 9 a12⟩
    · exact ⟨a4, reads_text 9 a13⟩
    · exact ⟨a5, reads_text 9 (user_asis u hu).1⟩
    · exact ⟨a6, hM⟩
  | power o u c =>
    obtain ⟨ho, hu, hc⟩ := hd
    have hU : Reads 8 (123 :: (rowM (inU u c) ++ [125])) (.obj (putsM [] (inU u c))) := reads_obj (k := 7) (by simp [inU]) (by
      simp only [inU, List.mem_cons, List.not_mem_nil, or_false]
      rintro t rfl
      exact ⟨(user_asis u hu).1, reads_dig 7 hc⟩) (by kernel_rfl)
    have hP : Reads 9 (123 :: (rowM (inP u c) ++ [125])) (.obj (putsM [] (inP u c))) := reads_obj (k := 8) (by simp [inP]) (by
      simp only [inP, List.mem_cons, List.not_mem_nil, or_false]
      rintro t (rfl | rfl)
      · exact ⟨a9, hU⟩
      · exact ⟨a10, reads_ten 8 hc⟩) (by kernel_rfl)
    simp only [rowD, List.mem_cons, List.not_mem_nil, or_false]
    rintro t (rfl | rfl | rfl | rfl | rfl | rfl)
    · exact ⟨a1, reads_text 9 hi⟩
    · exact ⟨a2, reads_text 9 a11⟩
    · exact ⟨a3, reads_text 9 (user_asis o ho).1⟩
    · exact ⟨a4, reads_text 9 a14⟩
    · exact ⟨a5, reads_text 9 a18⟩
    · exact ⟨a6, hP⟩
  | message o =>
    simp only [rowD, List.mem_cons, List.not_mem_nil, or_false]
    rintro t (rfl | rfl | rfl | rfl | rfl)
    · exact ⟨a1, reads_text 9 hi⟩
    · exact ⟨a2, reads_text 9 a11⟩
    · exact ⟨a3, reads_text 9 (user_asis o hd).1⟩
    · exact ⟨a4, reads_text 9 a15⟩
    · exact ⟨a6, hJ⟩
  | noName o =>
    simp only [rowD, List.mem_cons, List.not_mem_nil, or_false]
    rintro t (rfl | rfl | rfl | rfl | rfl | rfl)
    · exact ⟨a1, reads_text 9 hi⟩
    · exact ⟨a2, reads_text 9 a11⟩
    · exact ⟨a3, reads_text 9 (user_asis o hd).1⟩
    · exact ⟨a4, reads_text 9 a13⟩
    · exact ⟨a5, reads_text 9 a16⟩
    · exact ⟨a6, hJ⟩
theorem text_len {id : Bytes} {d : Dd} (hid : IdOk id) (hd : DdOk d) : (textD id d).length ≤ 400 := by
  have h1 := (id_asis hid).2
  cases d with
  | member u h c =>
    have h2 := (user_asis u hd.1).2.2
    have h3 := (how_asis h hd.2.1).2
    simp [textD, joinsT, moreT, jA, jB, jC, jD, jE, mA, mB, h1, h2]; omega
  | power o u c =>
    have h2 := (user_asis o hd.1).2.2
    have h3 := (user_asis u hd.2.1).2.2
    simp [textD, headT, hH, hI, hJ, tP, tQ, tR, tS, h1, h2, h3]
  | message o =>
    have h2 := (user_asis o hd).2.2
    simp [textD, headT, hH, hI, hJ, tM, h1, h2]
  | noName o =>
    have h2 := (user_asis o hd).2.2
    simp [textD, headT, hH, hI, hJ, tN, h1, h2]
/-- A deed's text is read as its value. -/
theorem parse_deed {id : Bytes} {d : Dd} (hid : IdOk id) (hd : DdOk d) : parseL (textD id d) = some (valD id d) := by
  have h1 := text_len hid hd
  rw [text_row] at h1 ⊢
  rw [← val_row]
  exact parse_reads (by omega) (reads_obj (k := 9) (by cases d <;> simp [rowD]) (reads_row hid hd) (news_row id d))

theorem readEv_of {v : JV} {E : Ev} (h5 : kindJ v = 5) (h4 : fourOk v = true) (hc : kindO (getJ v sContent) = 5) (hk : ¬ ((getJ v sStateKey).isSome = true ∧ isTextO (getJ v sStateKey) = false)) (hr : redOf v = false) (hE : evOf v = E) (hid : eventB E.id = true) (hroom : roomB E.room = true) (hs : userB E.sender = true) (ht : E.type ≠ []) (htl : E.type.length ≤ 60) (hkl : E.key.length ≤ 60) : readEv (some v) = (0, some E) := by
  show readEvJ v = _
  unfold readEvJ evBad
  rw [hr, hE, h4, hid, hroom, hs]
  have hb : (E.type == []) = false := by simpa using ht
  rw [if_neg (by simp [h5]), if_neg (by simp), if_neg (by simp [hc]), if_neg hk, if_neg (by simp), if_neg (by simp [hb]; omega)]
theorem event_deed {id : Bytes} {d : Dd} (hid : IdOk id) (hd : DdOk d) : readEv (some (valD id d)) = (0, some (evD id d)) := by
  cases d with
  | member u h c => exact readEv_of rfl (by kernel_rfl) (by kernel_rfl) (by rw [show getJ (valD id (.member u h c)) sStateKey = some (.text u) by kernel_rfl]; simp [isTextO, kindO, kindJ]) (by kernel_rfl) (by kernel_rfl) (id_event hid) (by kernel_rfl) (by kernel_rfl) (by simp [evD, sMember]) (by simp [evD, sMember]) (by have := (user_asis u hd.1).2.2; simp [evD]; omega)
  | power o u c => exact readEv_of rfl (by kernel_rfl) (by kernel_rfl) (by rw [show getJ (valD id (.power o u c)) sStateKey = some (.text []) by kernel_rfl]; simp [isTextO, kindO, kindJ]) (by kernel_rfl) (by kernel_rfl) (id_event hid) (by kernel_rfl) (user_asis o hd.1).2.1 (by simp [evD, sPower]) (by simp [evD, sPower]) (by simp [evD])
  | message o => exact readEv_of rfl (by kernel_rfl) (by kernel_rfl) (by rw [show getJ (valD id (.message o)) sStateKey = none by kernel_rfl]; simp) (by kernel_rfl) (by kernel_rfl) (id_event hid) (by kernel_rfl) (user_asis o hd).2.1 (by simp [evD, sMessage]) (by simp [evD, sMessage]) (by simp [evD])
  | noName o => exact readEv_of rfl (by kernel_rfl) (by kernel_rfl) (by rw [show getJ (valD id (.noName o)) sStateKey = some (.text sNoName) by kernel_rfl]; simp [isTextO, kindO, kindJ]) (by kernel_rfl) (by kernel_rfl) (id_event hid) (by kernel_rfl) (user_asis o hd).2.1 (by simp [evD, sMember]) (by simp [evD, sMember]) (by simp [evD, sNoName])

end Toc

namespace Toc
open Go Go.RowKit Go.Proofs

def howO (c : Int) : Bytes := howL.getD (pickI c 6).toNat []
theorem howO_mem (c : Int) : howO c ∈ howL := by
  have h := pickI_range c 6 (by omega)
  unfold howO
  generalize pickI c 6 = k at h
  obtain ⟨h1, h2⟩ := h
  have : k = 0 ∨ k = 1 ∨ k = 2 ∨ k = 3 ∨ k = 4 ∨ k = 5 := by omega
  rcases this with rfl | rfl | rfl | rfl | rfl | rfl <;> decide

set_option maxRecDepth 100000 in
set_option maxHeartbeats 1000000 in
theorem hows_any (c : Int) (h1 : -9223372036854775808 ≤ c) (h2 : c ≤ 9223372036854775807) (w : World) :
    Calls Tryz.prog 32 #[.int .i64 c] w fun e w' => e = .returned (.string (mkS (howO c))) ∧ Below w.heap.size w w' := by
  have hr := pickI_range c 6 (by omega)
  have HP := Lib.hid (fun wx => pick_any c 6 h1 h2 (by omega) (by omega) wx)
  have HU := Lib.hid (show howO c = howL.getD (pickI c 6).toNat [] from rfl)
  generalize pickI c 6 = k at *
  clear h1 h2
  have hk : k = 0 ∨ k = 1 ∨ k = 2 ∨ k = 3 ∨ k = 4 ∨ k = 5 := by omega
  clear hr
  rcases hk with rfl | rfl | rfl | rfl | rfl | rfl
  all_goals
    rw [HU.out]
    clear HU
    go_enter Tryz.func32, Tryz.ntmps32
    go_wp2_with fail
    refine (HP.out _).mono ?_
    rintro e w1 ⟨rfl, rfl⟩
    go_wp2_with fail
    go_ret
    exact ⟨rfl, (Below.refl _ w).alloc (Nat.le_refl _) _⟩

/-- A deed as it came in. -/
structure Deed where
  kind : Int
  user : Int
  other : Int
  how : Int
  n : Int
def In64 (c : Int) : Prop := -9223372036854775808 ≤ c ∧ c ≤ 9223372036854775807
def Deed.ok (d : Deed) : Prop := In64 d.kind ∧ In64 d.user ∧ In64 d.other ∧ In64 d.how ∧ In64 d.n
def Deed.cells (d : Deed) : Array Value := #[.int .i64 d.kind, .int .i64 d.user, .int .i64 d.other, .int .i64 d.how, .int .i64 d.n]
def digC (n : Int) : UInt8 := UInt8.ofNat (48 + (pickI n 10).toNat)
def Deed.dd (d : Deed) : Dd :=
  if pickI d.kind 5 = 0 ∨ pickI d.kind 5 = 1 then .member (userOf d.user) (howO d.how) (digC d.n)
  else if pickI d.kind 5 = 2 then .power (userOf d.other) (userOf d.user) (digC d.n)
  else if pickI d.kind 5 = 3 then .message (userOf d.other)
  else .noName (userOf d.other)
def idOf (i : Nat) : Bytes := [36, UInt8.ofNat (97 + i % 26), UInt8.ofNat (97 + i / 26 % 26)]
theorem idOf_ok (i : Nat) : IdOk (idOf i) := by
  have h : ∀ k : Nat, k < 26 → letB (UInt8.ofNat (97 + k)) = true := by decide
  exact ⟨_, _, rfl, h _ (Nat.mod_lt _ (by decide)), h _ (Nat.mod_lt _ (by decide))⟩
theorem digC_ok (n : Int) : digB (digC n) = true ∧ digD (digC n) = pickI n 10 := by
  have h := pickI_range n 10 (by omega)
  unfold digC
  generalize pickI n 10 = k at h
  obtain ⟨k, rfl⟩ := Int.eq_ofNat_of_zero_le h.1
  have hk : k < 10 := by omega
  have : ∀ k : Nat, k < 10 → digB (UInt8.ofNat (48 + k)) = true ∧ digD (UInt8.ofNat (48 + k)) = k := by decide
  exact this k hk
theorem dd_ok (d : Deed) : DdOk d.dd := by
  unfold Deed.dd
  repeat' split
  · exact ⟨userOf_mem _, howO_mem _, (digC_ok _).1⟩
  · exact ⟨userOf_mem _, userOf_mem _, (digC_ok _).1⟩
  · exact userOf_mem _
  · exact userOf_mem _

theorem two_bytes (w : World) (p q : Nat) (hp : p < 256) (hq : q < 256) : BytesAt (w.alloc (.cells #[.int .u8 p, .int .u8 q] 5)) w.heap.size 0 [UInt8.ofNat p, UInt8.ofNat q] := by
  refine ⟨_, _, _, blk_new w _, fun k hk => ?_⟩
  have h1 : (UInt8.ofNat p).toNat = p := by simp; omega
  have h2 : (UInt8.ofNat q).toNat = q := by simp; omega
  have : k = 0 ∨ k = 1 := by simp at hk; omega
  rcases this with rfl | rfl
  · simp [h1]
  · simp [h2]

end Toc

namespace Toc
open Go Go.RowKit Go.Proofs

theorem digit_first (n : Int) (h : 0 ≤ n ∧ n < 10) : ((⟨#[48, 49, 50, 51, 52, 53, 54, 55, 56, 57]⟩ : ByteArray).extract n.toNat 10).extract 0 1 = mkS [UInt8.ofNat (48 + n.toNat)] := by
  obtain ⟨k, rfl⟩ := Int.eq_ofNat_of_zero_le h.1
  have hk : k < 10 := by omega
  have : ∀ k : Fin 10, ((⟨#[48, 49, 50, 51, 52, 53, 54, 55, 56, 57]⟩ : ByteArray).extract k.val 10).extract 0 1 = mkS [UInt8.ofNat (48 + k.val)] := by decide
  exact this ⟨k, hk⟩
theorem mkS_app (a b : Bytes) : mkS a ++ mkS b = mkS (a ++ b) := by
  apply ByteArray.ext
  simp [ByteArray.data_append]

set_option maxRecDepth 100000 in
set_option maxHeartbeats 8000000 in
theorem deedText_any (d : Deed) (hd : d.ok) (i : Nat) (hi : i < 1000) (w : World) :
    Calls Tryz.prog 29 #[.agg d.cells, .int .i64 i] w fun e w' => e = .returned (.string (mkS (textD (idOf i) d.dd))) ∧ Below w.heap.size w w' := by
  obtain ⟨⟨k1, k2⟩, ⟨u1, u2⟩, ⟨o1, o2⟩, ⟨w1, w2⟩, ⟨n1, n2⟩⟩ := hd
  obtain ⟨a, ha⟩ : ∃ a, i % 26 = a := ⟨_, rfl⟩
  obtain ⟨b, hb⟩ : ∃ b, i / 26 % 26 = b := ⟨_, rfl⟩
  obtain ⟨c, hc⟩ : ∃ c, i / 26 = c := ⟨_, rfl⟩
  have ha26 : a < 26 := by rw [← ha]; exact Nat.mod_lt _ (by decide)
  have hb26 : b < 26 := by rw [← hb]; exact Nat.mod_lt _ (by decide)
  have hm1 : (i : Int).tmod 26 = (a : Int) := by rw [← ha]; rfl
  have hm2 : (i : Int).tdiv 26 = (c : Int) := by rw [← hc]; rfl
  have hm3 : (c : Int).tmod 26 = (b : Int) := by rw [← hb, ← hc]; rfl
  have hc1000 : c < 1000 := by rw [← hc]; omega
  have hcw : IntKind.i64.wrap (c : Int) = c := IntWalk.i64_in _ (by omega)
  obtain ⟨p, hp⟩ : ∃ p : Nat, 97 + a = p := ⟨_, rfl⟩
  obtain ⟨q, hq⟩ : ∃ q : Nat, 97 + b = q := ⟨_, rfl⟩
  have hp1 : (97 : Int) + a = p := by omega
  have hq1 : (97 : Int) + b = q := by omega
  have hp2 : IntKind.i64.wrap (p : Int) = p := IntWalk.i64_in _ (by omega)
  have hq2 : IntKind.i64.wrap (q : Int) = q := IntWalk.i64_in _ (by omega)
  have hp3 : IntKind.u8.wrap (p : Int) = p := IntWalk.u8_in _ (by omega)
  have hq3 : IntKind.u8.wrap (q : Int) = q := IntWalk.u8_in _ (by omega)
  have HID := Lib.hid (show idOf i = [36, UInt8.ofNat p, UInt8.ofNat q] by unfold idOf; rw [ha, hb, hp, hq])
  obtain ⟨sid, hsid⟩ : ∃ s, mkS [UInt8.ofNat p, UInt8.ofNat q] = s := ⟨_, rfl⟩
  have hcv : (convert 34 9 (.slice (some ⟨w.heap.size + 1, 0, none⟩) 2 2)).run Tryz.prog ((w.alloc (.cells d.cells 54)).alloc (.cells #[.int .u8 p, .int .u8 q] 5)) = .ok (.string sid) ((w.alloc (.cells d.cells 54)).alloc (.cells #[.int .u8 p, .int .u8 q] 5)) := by
    have h := (two_bytes (w.alloc (.cells d.cells 54)) p q (by omega) (by omega)).conv 0 2 2 (by decide) (by simp) 0
    rw [show (w.alloc (.cells d.cells 54)).heap.size = w.heap.size + 1 by simp] at h
    rw [← hsid]
    exact h
  have HSID := Lib.hid hsid
  have HPK := Lib.hid (fun wx => pick_any d.kind 5 k1 k2 (by omega) (by omega) wx)
  have HPN := Lib.hid (fun wx => pick_any d.n 10 n1 n2 (by omega) (by omega) wx)
  have HU := Lib.hid (fun wx => users_any d.user u1 u2 wx)
  have HO := Lib.hid (fun wx => users_any d.other o1 o2 wx)
  have HW := Lib.hid (fun wx => hows_any d.how w1 w2 wx)
  have hkr := pickI_range d.kind 5 (by omega)
  have hnr := pickI_range d.n 10 (by omega)
  have HDC : Hid (digC d.n = UInt8.ofNat (48 + (pickI d.n 10).toNat)) := Lib.hid rfl
  have HDD : Hid (d.dd = if pickI d.kind 5 = 0 ∨ pickI d.kind 5 = 1 then .member (userOf d.user) (howO d.how) (digC d.n)
      else if pickI d.kind 5 = 2 then .power (userOf d.other) (userOf d.user) (digC d.n)
      else if pickI d.kind 5 = 3 then .message (userOf d.other)
      else .noName (userOf d.other)) := Lib.hid rfl
  have HUM := Lib.hid (user_ne _ (userOf_mem d.user)).2.1
  have HOM := Lib.hid (user_ne _ (userOf_mem d.other)).2.1
  have HWM := Lib.hid (how_asis _ (howO_mem d.how)).2
  generalize pickI d.kind 5 = k at *
  generalize pickI d.n 10 = nn at *
  generalize userOf d.user = uu at *
  generalize userOf d.other = uo at *
  generalize howO d.how = uh at *
  generalize digC d.n = cc at *
  obtain ⟨su, hsu⟩ : ∃ s, mkS uu = s := ⟨_, rfl⟩
  obtain ⟨so, hso⟩ : ∃ s, mkS uo = s := ⟨_, rfl⟩
  obtain ⟨sh, hsh⟩ : ∃ s, mkS uh = s := ⟨_, rfl⟩
  obtain ⟨sc, hsc⟩ : ∃ s, mkS [cc] = s := ⟨_, rfl⟩
  rw [hsu] at HU
  rw [hso] at HO
  rw [hsh] at HW
  have hz0 : sid.size = 2 := by rw [← hsid, size_mkS]; rfl
  have hz1 : su.size = 7 := by rw [← hsu, size_mkS]; exact HUM.out
  have hz2 : so.size = 7 := by rw [← hso, size_mkS]; exact HOM.out
  have hz3 : sh.size ≤ 6 := by rw [← hsh, size_mkS]; exact HWM.out
  have hz4 : sc.size = 1 := by rw [← hsc, size_mkS]; rfl
  have HEX := Lib.hid (show ((⟨#[48, 49, 50, 51, 52, 53, 54, 55, 56, 57]⟩ : ByteArray).extract nn.toNat 10).extract 0 1 = sc by rw [digit_first nn hnr, ← HDC.out, hsc])
  have HSS := Lib.hid (And.intro hsu (And.intro hso (And.intro hsh hsc)))
  have HBX := Lib.hid (blk_new w (.cells d.cells 54))
  have HB0 := Lib.hid ((Below.refl w.heap.size w).alloc (Nat.le_refl _) (.cells d.cells 54))
  obtain ⟨dk, du, dr, dh, dn⟩ := d
  unfold Deed.cells at hcv HBX HB0 ⊢
  dsimp only at hcv HBX HB0 ⊢
  clear k1 k2 u1 u2 o1 o2 w1 w2 n1 n2 ha hb hc hp hq hsid hsu hso hsh hsc hi
  go_enter Tryz.func29, Tryz.ntmps29
  go_wp2_with fail
  refine (HO.out _).mono ?_
  rintro e w1 ⟨rfl, hb1⟩
  have HB1 := Lib.hid (below_trans (HB0.out.alloc HB0.out.size (.cells #[.int .u8 p, .int .u8 q] 5)) hb1)
  have HX1 := Lib.hid ((hb1.block _ (by simp; omega)).trans (blk_old HBX.out (.cells #[.int .u8 p, .int .u8 q] 5)))
  have b0 := blk_cell HX1.out 0
  have b4 := blk_cell HX1.out 4
  clear hb1 hcv hm1 hm2 hm3 hp1 hq1 hp2 hq2 hp3 hq3 hcw
  go_wp2_with fail
  refine (HPN.out w1).mono ?_
  rintro e w2 ⟨rfl, rfl⟩
  go_wp2_with fail
  rw [HEX.out]
  refine (HPK.out w1).mono ?_
  rintro e w2 ⟨rfl, rfl⟩
  rcases (show k = 0 ∨ k = 1 ∨ k = 2 ∨ k = 3 ∨ k = 4 by omega) with rfl | rfl | rfl | rfl | rfl
  · have s0 : w1.drew.cell? ⟨w.heap.size, 1, none⟩ = some (.int .i64 du) ∧ w1.drew.cell? ⟨w.heap.size, 3, none⟩ = some (.int .i64 dh) := ⟨blk_cell HX1.out 1, blk_cell HX1.out 3⟩
    go_wp2_with fail
    go_region_held3 (fun x => x.cell? ⟨w.heap.size, 1, none⟩ = some (.int .i64 du) ∧ x.cell? ⟨w.heap.size, 3, none⟩ = some (.int .i64 dh))
      (first | (with_reducible exact s0) | (with_reducible exact s1) | (with_reducible exact s2))
      (first
        | (go_at_call 21
           refine (HU.out w1.drew).mono ?_
           rintro e w2 ⟨rfl, hb2⟩
           have HB2 := Lib.hid (below_trans HB1.out.drew hb2)
           have HX2 := Lib.hid ((hb2.block _ (blk_lt HX1.out)).trans HX1.out)
           have s1 : w2.cell? ⟨w.heap.size, 1, none⟩ = some (.int .i64 du) ∧ w2.cell? ⟨w.heap.size, 3, none⟩ = some (.int .i64 dh) := ⟨blk_cell HX2.out 1, blk_cell HX2.out 3⟩
           clear hb2)
        | (go_at_call 32
           refine (HW.out w2).mono ?_
           rintro e w3 ⟨rfl, hb3⟩
           have HB3 := Lib.hid (below_trans HB2.out hb3)
           have HX3 := Lib.hid ((hb3.block _ (blk_lt HX2.out)).trans HX2.out)
           have s2 : w3.cell? ⟨w.heap.size, 1, none⟩ = some (.int .i64 du) ∧ w3.cell? ⟨w.heap.size, 3, none⟩ = some (.int .i64 dh) := ⟨blk_cell HX3.out 1, blk_cell HX3.out 3⟩
           clear hb3)
        | (go_at_call 49
           refine (lawJoins_any _ _ _ _ w3 (by rw [ByteArray.size_append, ByteArray.size_append, ByteArray.size_append, hz0, hz1, hz4]; show 1 + 2 + 7 + sh.size + (17 + 1 + 1) ≤ 1048576; omega)).mono ?_
           rintro e w4 ⟨rfl, rfl⟩))
    all_goals
      clear s0 s1 s2
      go_wp2_with fail
      go_ret
      refine ⟨ret_str (str_eq ?_), HB3.out⟩
      have hdd := HDD.out
      simp at hdd
      rw [hdd, HID.out]
      obtain ⟨e1, e2, e3, e4⟩ := HSS.out
      rw [← HSID.out, ← e1, ← e3, ← e4]
      simp [textD, joinsT, moreT, mA, mB]
  · have s0 : w1.drew.cell? ⟨w.heap.size, 1, none⟩ = some (.int .i64 du) ∧ w1.drew.cell? ⟨w.heap.size, 3, none⟩ = some (.int .i64 dh) := ⟨blk_cell HX1.out 1, blk_cell HX1.out 3⟩
    go_wp2_with fail
    go_region_held3 (fun x => x.cell? ⟨w.heap.size, 1, none⟩ = some (.int .i64 du) ∧ x.cell? ⟨w.heap.size, 3, none⟩ = some (.int .i64 dh))
      (first | (with_reducible exact s0) | (with_reducible exact s1) | (with_reducible exact s2))
      (first
        | (go_at_call 21
           refine (HU.out w1.drew).mono ?_
           rintro e w2 ⟨rfl, hb2⟩
           have HB2 := Lib.hid (below_trans HB1.out.drew hb2)
           have HX2 := Lib.hid ((hb2.block _ (blk_lt HX1.out)).trans HX1.out)
           have s1 : w2.cell? ⟨w.heap.size, 1, none⟩ = some (.int .i64 du) ∧ w2.cell? ⟨w.heap.size, 3, none⟩ = some (.int .i64 dh) := ⟨blk_cell HX2.out 1, blk_cell HX2.out 3⟩
           clear hb2)
        | (go_at_call 32
           refine (HW.out w2).mono ?_
           rintro e w3 ⟨rfl, hb3⟩
           have HB3 := Lib.hid (below_trans HB2.out hb3)
           have HX3 := Lib.hid ((hb3.block _ (blk_lt HX2.out)).trans HX2.out)
           have s2 : w3.cell? ⟨w.heap.size, 1, none⟩ = some (.int .i64 du) ∧ w3.cell? ⟨w.heap.size, 3, none⟩ = some (.int .i64 dh) := ⟨blk_cell HX3.out 1, blk_cell HX3.out 3⟩
           clear hb3)
        | (go_at_call 49
           refine (lawJoins_any _ _ _ _ w3 (by rw [ByteArray.size_append, ByteArray.size_append, ByteArray.size_append, hz0, hz1, hz4]; show 1 + 2 + 7 + sh.size + (17 + 1 + 1) ≤ 1048576; omega)).mono ?_
           rintro e w4 ⟨rfl, rfl⟩))
    all_goals
      clear s0 s1 s2
      go_wp2_with fail
      go_ret
      refine ⟨ret_str (str_eq ?_), HB3.out⟩
      have hdd := HDD.out
      simp at hdd
      rw [hdd, HID.out]
      obtain ⟨e1, e2, e3, e4⟩ := HSS.out
      rw [← HSID.out, ← e1, ← e3, ← e4]
      simp [textD, joinsT, moreT, mA, mB]
  · have b1 := blk_cell HX1.out 1
    go_wp2_with fail
    refine (HU.out w1).mono ?_
    rintro e w2 ⟨rfl, hb2⟩
    have HB2 := Lib.hid (below_trans HB1.out hb2)
    clear hb2
    go_wp2_with fail
    go_ret
    refine ⟨ret_str (str_eq ?_), HB2.out⟩
    have hdd := HDD.out
    simp at hdd
    rw [hdd, HID.out]
    obtain ⟨e1, e2, e3, e4⟩ := HSS.out
    rw [← HSID.out, ← e1, ← e2, ← e4]
    simp [textD, headT, hH, hI, hJ, tP, tQ, tR, tS, ByteArray.data_append]
  · go_wp2_with fail
    go_ret
    refine ⟨ret_str (str_eq ?_), HB1.out⟩
    have hdd := HDD.out
    simp at hdd
    rw [hdd, HID.out]
    obtain ⟨e1, e2, e3, e4⟩ := HSS.out
    rw [← HSID.out, ← e2]
    simp [textD, headT, hH, hI, hJ, tM, ByteArray.data_append]
  · go_wp2_with fail
    go_ret
    refine ⟨ret_str (str_eq ?_), HB1.out⟩
    have hdd := HDD.out
    simp at hdd
    rw [hdd, HID.out]
    obtain ⟨e1, e2, e3, e4⟩ := HSS.out
    rw [← HSID.out, ← e2]
    simp [textD, headT, hH, hI, hJ, tN, ByteArray.data_append]

end Toc
