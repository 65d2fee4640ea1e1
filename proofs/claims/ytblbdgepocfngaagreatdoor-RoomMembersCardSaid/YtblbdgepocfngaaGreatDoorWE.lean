/-
  ShownL: The document that all statements of the layer begin with, read as a value and as an event. No program in sight; no condition.
  Room4: The walks of Is, Level.
  SortL: Sorting texts: what the library's sort leaves, as lists by rising keys. No program in sight; no condition.
-/
import Derived.Test.YtblbdgepocfngaaGreatDoorWA
import Derived.Test.YtblbdgepocfngaaGreatDoorWD
namespace Toc
open Go Go.RowKit Go.Proofs

def jA : Bytes := [123, 34, 101, 118, 101, 110, 116, 95, 105, 100, 34, 58, 34]
def jB : Bytes := [34, 44, 34, 114, 111, 111, 109, 95, 105, 100, 34, 58, 34, 33, 114, 34, 44, 34, 115, 101, 110, 100, 101, 114, 34, 58, 34, 64, 97, 58, 104, 111, 109, 101, 34, 44, 34, 116, 121, 112, 101, 34, 58, 34, 109, 46, 114, 111, 111, 109, 46, 109, 101, 109, 98, 101, 114, 34, 44, 34, 115, 116, 97, 116, 101, 95, 107, 101, 121, 34, 58, 34]
def jC : Bytes := [34, 44, 34, 99, 111, 110, 116, 101, 110, 116, 34, 58, 123, 34, 109, 101, 109, 98, 101, 114, 115, 104, 105, 112, 34, 58, 34]
def jD : Bytes := [34]
def jE : Bytes := [125, 125]
/-- An event of membership, as text. -/
def joinsT (id user how more : Bytes) : Bytes := jA ++ id ++ jB ++ user ++ jC ++ how ++ jD ++ more ++ jE
def sD1 : Bytes := [36, 49]
def sBhome : Bytes := [64, 98, 58, 104, 111, 109, 101]
def sAhome : Bytes := [64, 97, 58, 104, 111, 109, 101]
def sR : Bytes := [33, 114]
def sBea : Bytes := [66, 101, 97]
def sMoreBea : Bytes := [44, 34, 100, 105, 115, 112, 108, 97, 121, 110, 97, 109, 101, 34, 58, 34, 66, 101, 97, 34]
def docT : Bytes := joinsT sD1 sBhome sJoin sMoreBea
def docV : JV := .obj [(sContent, .obj [(sDisplayname, .text sBea), (sMembership, .text sJoin)]), (sEventId, .text sD1), (sRoomId, .text sR), (sSender, .text sAhome), (sStateKey, .text sBhome), (sType, .text sMember)]
def docE : Ev := ⟨sD1, sR, sAhome, sMember, true, sBhome, [], docV⟩
theorem doc_parse : parseL docT = some docV := by kernel_rfl
theorem doc_event : readEv (some docV) = (0, some docE) := by kernel_rfl
theorem doc_joins : joinsJ (contentO docE) = (1, sBea) := by kernel_rfl
theorem doc_member : memberB docE = true := by kernel_rfl

end Toc

namespace Toc
open Go Go.RowKit Go.Proofs

def isR (R : RoomSt) (u : Bytes) : Bool := (memD (getK R.known u)).1 == 1
def levelR (R : RoomSt) (u : Bytes) : Int :=
  match getK R.levels u with
  | some n => n
  | none => if R.leveled then R.other else if u = R.creator ∧ u ≠ [] then 100 else 0

theorem field_how (a : Int) (s : ByteArray) (w : World) : (Instr.field 130 (.agg #[.int .i64 a, .string s]) 0).run Tryz.prog w = .ok (.int .i64 a) w := by kernel_rfl
theorem field_display (a : Int) (s : ByteArray) (w : World) : (Instr.field 130 (.agg #[.int .i64 a, .string s]) 1).run Tryz.prog w = .ok (.string s) w := by kernel_rfl

set_option maxRecDepth 100000 in
set_option maxHeartbeats 4000000 in
theorem is_any (w : World) {rb kb lb nb : Nat} {R : RoomSt} (hR : RoomAt w rb kb lb nb R) (u : Bytes) {s : ByteArray} (hs : mkS u = s) :
    Calls Tryz.prog 34 #[ptrV rb, .string s] w fun e w' => e = .returned (.bool (isR R u)) ∧ w = w' := by
  subst hs
  have c1 : w.cell? ⟨rb, 1, none⟩ = some (.map (some kb)) := blk_cell hR.blk 1
  have hl := run_look (P := Tryz.prog) Tryz.underlying96 Tryz.underlying9 zeroMember hR.known u
  rw [(memD_val R u).1] at hl
  obtain ⟨m, hm⟩ : ∃ m, memD (getK R.known u) = m := ⟨_, rfl⟩
  rw [hm] at hl
  unfold encMem at hl
  have HI := Lib.hid (show isR R u = ((m.1 : Int) == 1) by unfold isR; rw [hm, Bool.eq_iff_iff]; simp; omega)
  clear hm
  have hfh := field_how
  go_enter Tryz.func34, Tryz.ntmps34
  go_wp2_with fail
  go_ret
  exact ⟨by rw [HI.out]; rfl, rfl⟩

theorem zeroInt (w : World) : (zeroValue 3).run Tryz.prog w = .ok (.int .i64 0) w := by kernel_rfl

set_option maxRecDepth 100000 in
set_option maxHeartbeats 4000000 in
theorem level_any (w : World) {rb kb lb nb : Nat} {R : RoomSt} (hR : RoomAt w rb kb lb nb R) (u : Bytes) {s : ByteArray} (hs : mkS u = s) {n : Int} (hn : levelR R u = n) :
    Calls Tryz.prog 26 #[ptrV rb, .string s] w fun e w' => e = .returned (.int .i64 n) ∧ w = w' := by
  have c2 : w.cell? ⟨rb, 2, none⟩ = some (.string (mkS R.creator)) := blk_cell hR.blk 2
  have c3 : w.cell? ⟨rb, 3, none⟩ = some (.bool R.leveled) := blk_cell hR.blk 3
  have c4 : w.cell? ⟨rb, 4, none⟩ = some (.int .i64 R.other) := blk_cell hR.blk 4
  have c5 : w.cell? ⟨rb, 5, none⟩ = some (.map (some lb)) := blk_cell hR.blk 5
  have hl := run_look_ok (P := Tryz.prog) Tryz.underlying59 Tryz.underlying9 zeroInt hR.levels u
  rw [mapE_get, hs] at hl
  have hlev : n = match getK R.levels u with | some n => n | none => if R.leveled then R.other else if u = R.creator ∧ u ≠ [] then 100 else 0 := hn.symm
  obtain ⟨c, hc⟩ : ∃ c, mkS R.creator = c := ⟨_, rfl⟩
  rw [hc] at c2
  have HC := Lib.hid hc
  have HS := Lib.hid hs
  cases hg : getK R.levels u with
  | some x =>
    rw [hg] at hl hlev
    dsimp only [Option.map, Option.getD, Option.isSome, encInt] at hl hlev
    subst hlev
    clear hg hn hs hc hR
    go_enter Tryz.func26, Tryz.ntmps26
    go_wp2_with fail
    go_ret
    exact ⟨rfl, rfl⟩
  | none =>
    rw [hg] at hl hlev
    dsimp only [Option.map, Option.getD, Option.isSome, encInt] at hl hlev
    clear hg hn hs hc hR
    cases hle : R.leveled with
    | true =>
      rw [hle] at c3 hlev
      rw [if_pos rfl] at hlev
      subst hlev
      clear hle
      go_enter Tryz.func26, Tryz.ntmps26
      go_wp2_with fail
      go_ret
      exact ⟨rfl, rfl⟩
    | false =>
      rw [hle] at c3 hlev
      rw [if_neg (by simp)] at hlev
      have HL := Lib.hid hlev
      clear hle hlev
      by_cases hu : u = R.creator
      · have hsc : s = c := by rw [← HS.out, ← HC.out, hu]
        subst hsc
        by_cases h0 : u = []
        · have hs0 : s = ⟨#[]⟩ := by rw [← HS.out, h0]
          subst hs0
          have HN := Lib.hid (show n = 0 by rw [HL.out, if_neg (by simp [h0])])
          clear hu h0
          go_enter Tryz.func26, Tryz.ntmps26
          go_wp2_with fail
          go_ret
          exact ⟨by rw [HN.out]; rfl, rfl⟩
        · have hs0 : s.toList.isEmpty = false := by rw [← HS.out, Lib.toList_data]; simpa using h0
          have HN := Lib.hid (show n = 100 by rw [HL.out, if_pos ⟨hu, h0⟩])
          clear hu h0
          go_enter Tryz.func26, Tryz.ntmps26
          go_wp2_with fail
          go_ret
          exact ⟨by rw [HN.out]; rfl, rfl⟩
      · have hsc : (s.toList == c.toList) = false := by rw [← HS.out, ← HC.out, Lib.toList_data, Lib.toList_data, beq_eq_false_iff_ne]; exact hu
        have HN := Lib.hid (show n = 0 by rw [HL.out, if_neg (by simp [hu])])
        clear hu
        go_enter Tryz.func26, Tryz.ntmps26
        go_wp2_with fail
        go_ret
        exact ⟨by rw [HN.out]; rfl, rfl⟩

end Toc

namespace Toc
open Go Go.RowKit Go.Proofs

theorem cb_lt : ∀ {a b : Bytes}, Lib.compareBytes a b = -1 → a < b
  | [], [], h => by cases h
  | [], _ :: _, _ => List.Lex.nil
  | _ :: _, [], h => by cases h
  | a :: xs, b :: ys, h => by
    unfold Lib.compareBytes at h
    split at h
    · rename_i hl; exact List.Lex.rel hl
    · split at h
      · cases h
      · rename_i h1 h2
        have e : a = b := UInt8.toNat_inj.1 (by rw [UInt8.lt_iff_toNat_lt] at h1 h2; omega)
        subst e
        exact List.Lex.cons (cb_lt h)
theorem cb_le {a b : Bytes} : (decide (a ≤ b) = true) ↔ Lib.compareBytes a b ≠ 1 := by
  rw [decide_eq_true_iff]
  constructor
  · intro h e
    exact h (cb_lt (cb_swap _ _ e))
  · intro h hlt
    rcases cb_vals a b with e | e | e
    · exact absurd (cb_lt e) (List.lt_asymm hlt)
    · have := cb_eq _ _ e
      subst this
      exact List.lt_irrefl _ hlt
    · exact h e
/-- What is sorted. -/
theorem sorted_is {l l' : List Bytes} (hp : l.Perm l') (hr : l'.Pairwise fun x y => Lib.compareBytes x y = -1) : (l.mergeSort fun x y => decide (x ≤ y)) = l' := by
  have h1 := List.mergeSort_perm l (fun x y => decide (x ≤ y))
  have h2 : (l.mergeSort fun x y => decide (x ≤ y)).Pairwise (fun x y => decide (x ≤ y) = true) := by
    refine List.pairwise_mergeSort ?_ ?_ l
    · intro a b c hab hbc
      rw [cb_le] at hab hbc ⊢
      intro h
      have hca := cb_swap _ _ h
      rcases cb_vals a b with e | e | e
      · have := cb_trans _ _ _ hca e
        exact hbc (cb_gt this)
      · have := cb_eq _ _ e
        subst this
        exact hbc (cb_gt hca)
      · exact hab e
    · intro a b
      rw [Bool.or_eq_true, cb_le, cb_le]
      rcases cb_vals a b with e | e | e
      · exact .inl (by rw [e]; decide)
      · exact .inl (by rw [e]; decide)
      · exact .inr (by rw [cb_swap _ _ e]; decide)
  refine List.Perm.eq_of_pairwise (le := fun x y => Lib.compareBytes x y ≠ 1) (fun a b _ _ hab hba => ?_) (h2.imp fun h => cb_le.1 h) (hr.imp fun h => by rw [h]; decide) (h1.trans hp)
  rcases cb_vals a b with e | e | e
  · exact absurd (cb_gt e) hba
  · exact cb_eq _ _ e
  · exact absurd e hab

end Toc
