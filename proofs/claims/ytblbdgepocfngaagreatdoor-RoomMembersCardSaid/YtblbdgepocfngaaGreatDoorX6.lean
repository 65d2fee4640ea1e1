/-
  RoomOk: A room as a value is sound, and is written in few bytes.
  PrintBoth: A room's Print, printed.
-/
import Derived.Test.YtblbdgepocfngaaGreatDoorX2
import Derived.Test.YtblbdgepocfngaaGreatDoorX9
import Derived.Test.YtblbdgepocfngaaGreatDoorWP
namespace Toc
open Go Go.RowKit Go.Proofs

theorem sumM_le {C : Nat} : ∀ {l : List (Bytes × JV)}, (∀ m ∈ l, (quoteL m.1).length + (printL m.2).length + 2 ≤ C) → sumM l ≤ l.length * C
  | [], _ => by simp [sumM]
  | m :: l, h => by
    have h1 := h m (.head _)
    have h2 := sumM_le fun x hx => h x (.tail _ hx)
    have e : sumM (m :: l) = (quoteL m.1).length + (printL m.2).length + 2 + sumM l := by simp [sumM]
    rw [e, List.length_cons, Nat.succ_mul]
    omega
theorem printObj_le {C n : Nat} {l : List (Bytes × JV)} (hl : l.length ≤ n) (h : ∀ m ∈ l, (quoteL m.1).length + (printL m.2).length + 2 ≤ C) : (printL (.obj l)).length ≤ n * C + 2 := by
  have h1 := printM_sum l true
  have h2 := sumM_le h
  have h3 : l.length * C ≤ n * C := Nat.mul_le_mul_right _ hl
  rw [printL]
  simp only [List.length_cons, List.length_append, List.length_nil]
  omega
theorem nums_few {l : List (Bytes × Int)} (hl : l.length ≤ 1000) (h : ∀ p ∈ l, KeyB p.1 ∧ -9007199254740991 ≤ p.2 ∧ p.2 ≤ 9007199254740991) : (printL (.obj (numsJ l))).length ≤ 1000 * 7000000 + 2 := by
  refine printObj_le (by simpa [numsJ] using hl) fun m hm => ?_
  obtain ⟨p, hp, rfl⟩ := List.mem_map.1 hm
  obtain ⟨h1, h2, h3⟩ := h p hp
  have e1 := quoteL_len p.1
  have e2 := itoa_len h2 h3
  have e3 := h1.1
  dsimp only
  rw [printL]
  omega
theorem word_len (n : Nat) : (wordOfN n).length ≤ 6 := by
  unfold wordOfN
  repeat' split
  all_goals decide
theorem user_few {m : Nat × Bytes} (h : KeyB m.2) : (printL (userJ m)).length ≤ 2 * 7000000 + 2 := by
  refine printObj_le (by simp) fun x hx => ?_
  have h1 := h.1
  have e1 := quoteL_len m.2
  have e2 := quoteL_len (wordOfN m.1)
  have e3 := word_len m.1
  simp only [List.mem_cons, List.not_mem_nil, or_false] at hx
  rcases hx with rfl | rfl
  · rw [printL]
    have : (quoteL sDisplay).length = 9 := by decide
    dsimp only; omega
  · rw [printL]
    have : (quoteL sMembership).length = 12 := by decide
    dsimp only; omega
theorem users_few {l : List (Bytes × (Nat × Bytes))} (hl : l.length ≤ 60) (h : ∀ p ∈ l, KeyB p.1 ∧ p.2.1 ≤ 3 ∧ KeyB p.2.2) : (printL (.obj (usersJ l))).length ≤ 60 * 30000000 + 2 := by
  refine printObj_le (by simpa [usersJ] using hl) fun m hm => ?_
  obtain ⟨p, hp, rfl⟩ := List.mem_map.1 hm
  obtain ⟨h1, _, h3⟩ := h p hp
  have e1 := quoteL_len p.1
  have e2 := user_few h3
  have e3 := h1.1
  dsimp only
  omega
theorem room_few {R : RoomSt} (h : RoomFit R) : (printL (roomJ R)).length ≤ 8 * 10000000000 + 2 := by
  have hj : (joinedL R).length ≤ 60 := by unfold joinedL; rw [List.length_map]; exact Nat.le_trans (List.length_filter_le _ _) h.known
  refine printObj_le (by simp) fun m hm => ?_
  have k1 : (quoteL sCreator).length = 9 := by decide
  have k2 : (quoteL sDefault).length = 9 := by decide
  have k3 : (quoteL sId).length = 4 := by decide
  have k4 : (quoteL sJoined).length = 8 := by decide
  have k5 : (quoteL sLeveled).length = 9 := by decide
  have k6 : (quoteL sLevels).length = 8 := by decide
  have k7 : (quoteL sNeeds).length = 7 := by decide
  have k8 : (quoteL sUsers).length = 7 := by decide
  have c1 := quoteL_len R.creator
  have c2 := quoteL_len R.id
  have c3 := itoa_len h.other.1 h.other.2
  have c4 := itoa_len (n := (joinedL R).length) (by omega) (by omega)
  have c5 := nums_few h.levels.1 h.levels.2
  have c6 := nums_few h.needs.1 h.needs.2
  have c7 := users_few h.known h.users
  have c8 := h.creator.1
  have c9 := h.id.1
  simp only [List.mem_cons, List.not_mem_nil, or_false] at hm
  rcases hm with rfl | rfl | rfl | rfl | rfl | rfl | rfl | rfl
  · rw [printL]; dsimp only; omega
  · rw [printL]; dsimp only; omega
  · rw [printL]; dsimp only; omega
  · rw [printL]; dsimp only; omega
  · have : (printL (.bool R.leveled)).length ≤ 5 := by cases R.leveled <;> decide
    dsimp only; omega
  · dsimp only; omega
  · dsimp only; omega
  · dsimp only; omega

theorem nums_ok {l : List (Bytes × Int)} (hr : Rising l) (hl : l.length ≤ 1000) (h : ∀ p ∈ l, KeyB p.1 ∧ -9007199254740991 ≤ p.2 ∧ p.2 ≤ 9007199254740991) : JOk (.obj (numsJ l)) := by
  refine .obj (by unfold numsJ; rw [List.length_map]; omega) (rising_map JV.int hr) (fun m hm => ?_) (fun m hm => ?_)
  all_goals
    obtain ⟨p, hp, rfl⟩ := List.mem_map.1 hm
    obtain ⟨h1, h2, h3⟩ := h p hp
  · have := h1.1; dsimp only; omega
  · exact .int h2 h3
theorem user_ok {m : Nat × Bytes} (h : KeyB m.2) : JOk (userJ m) := by
  refine .obj (by simp) (rising_of_keys (ks := [sDisplay, sMembership]) rfl (by decide +kernel)) ?_ ?_
  · simp only [List.mem_cons, List.not_mem_nil, or_false]
    rintro x (rfl | rfl) <;> (dsimp only; decide)
  · simp only [List.mem_cons, List.not_mem_nil, or_false]
    rintro x (rfl | rfl)
    · exact .text (by have := h.1; omega)
    · exact .text (by have := word_len m.1; omega)
theorem users_ok {l : List (Bytes × (Nat × Bytes))} (hr : Rising l) (hl : l.length ≤ 60) (h : ∀ p ∈ l, KeyB p.1 ∧ p.2.1 ≤ 3 ∧ KeyB p.2.2) : JOk (.obj (usersJ l)) := by
  refine .obj (by unfold usersJ; rw [List.length_map]; omega) (rising_map userJ hr) (fun m hm => ?_) (fun m hm => ?_)
  all_goals
    obtain ⟨p, hp, rfl⟩ := List.mem_map.1 hm
    obtain ⟨h1, _, h3⟩ := h p hp
  · have := h1.1; dsimp only; omega
  · exact user_ok h3
theorem room_ok {R : RoomSt} (h : RoomFit R) (hr : Rising R.known ∧ Rising R.levels ∧ Rising R.needs) : JOk (roomJ R) := by
  have hj : (joinedL R).length ≤ 60 := by unfold joinedL; rw [List.length_map]; exact Nat.le_trans (List.length_filter_le _ _) h.known
  refine .obj (by simp) (rising_of_keys (ks := [sCreator, sDefault, sId, sJoined, sLeveled, sLevels, sNeeds, sUsers]) rfl (by decide +kernel)) ?_ ?_
  · simp only [List.mem_cons, List.not_mem_nil, or_false]
    rintro x (rfl | rfl | rfl | rfl | rfl | rfl | rfl | rfl) <;> (dsimp only; decide)
  · simp only [List.mem_cons, List.not_mem_nil, or_false]
    rintro x (rfl | rfl | rfl | rfl | rfl | rfl | rfl | rfl)
    · exact .text (by have := h.creator.1; omega)
    · exact .int h.other.1 h.other.2
    · exact .text (by have := h.id.1; omega)
    · exact .int (by omega) (by omega)
    · exact .bool _
    · exact nums_ok hr.2.1 h.levels.1 h.levels.2
    · exact nums_ok hr.2.2 h.needs.1 h.needs.2
    · exact users_ok hr.1 h.known h.users

end Toc

namespace Toc
open Go Go.RowKit Go.Proofs

/-- Print of a room, and Print of that value. -/
theorem printed (r : Ro) (w : World) (hG : Glob w) (hh : Has r w) {rb kb lb nb : Nat} {R : RoomSt} (hR : RoomAt w rb kb lb nb R) (hf : RoomFit R) {s : ByteArray} (hs : mkS (printL (roomJ R)) = s) :
    Calls Tryz.prog 30 #[ptrV rb] w fun e w' => ∃ q, e = .returned (ptrV q) ∧ Below w.heap.size w w' ∧
      (∀ w2, w' = w2 → Calls Tryz.prog 31 #[ptrV q] w2 fun e w3 => e = .returned (.string s) ∧ Below w2.heap.size w2 w3) := by
  refine (roomPrint_any r w hh hR hf).mono ?_
  rintro e w' ⟨q, r', rfl, h1, h2, h3, h4, h5, h6⟩
  refine ⟨q, rfl, h6, ?_⟩
  rintro w2 rfl
  exact vprint_any r' w' (hG.below h6) h2 h3 (room_ok hf hR.rise) (Nat.le_trans (room_few hf) (by decide)) hs

end Toc
