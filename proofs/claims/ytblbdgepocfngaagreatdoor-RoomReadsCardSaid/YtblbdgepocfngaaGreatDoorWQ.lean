/-
  Rr1: The document's reader (tocsinref02): how it lies in memory; next, fail, must, blanks, letter, digit.
  Rval: How a value of the document's (tocsinref02) lies in memory; what its reader's functions leave.
  Rr2: The document's reader: word, run.
  Rr3: The document's reader: Form.
  Rr4: The document's reader: number.
  Rr5: The document's reader: number, the walk.
-/
import Derived.Test.YtblbdgepocfngaaGreatDoorWA
import Derived.Deep.QuietTactic
import Derived.Test.YtblbdgepocfngaaGreatDoorW8
import Derived.Deep.DeepCutAuto
namespace Toc
open Go Go.RowKit Go.Proofs

/-- The text that is read, the reader's block. -/
structure RC where
  s : ByteArray
  pb : Nat
abbrev RC.bs (C : RC) : Bytes := C.s.data.toList

def rdObj (s : ByteArray) (i d e a : Int) : Obj := .cells #[.string s, .int .i64 i, .int .i64 d, .int .i64 e, .int .i64 a] 217 (0, 0)
/-- It reads on at i, d brackets are open; nothing has been wrong. -/
structure Rd (C : RC) (w : World) (i d : Nat) : Prop where
  blk : w.heap[C.pb]? = some (rdObj C.s i d 0 0)
  le : i ≤ C.s.size
  small : C.s.size ≤ 4096
/-- Something is wrong. -/
def Bd (C : RC) (w : World) (d : Nat) : Prop := ∃ i e a : Int, e ≠ 0 ∧ 0 ≤ i ∧ i ≤ 4096 ∧ w.heap[C.pb]? = some (rdObj C.s i d e a)

theorem Rd.below {C : RC} {w w' : World} {i d : Nat} (h : Rd C w i d) (hb : Below w.heap.size w w') : Rd C w' i d := ⟨(hb.block _ (blk_lt h.blk)).trans h.blk, h.le, h.small⟩
theorem Bd.below {C : RC} {w w' : World} {d : Nat} (h : Bd C w d) (hb : Below w.heap.size w w') : Bd C w' d := by
  obtain ⟨i, e, a, h1, h2, h3, h4⟩ := h
  exact ⟨i, e, a, h1, h2, h3, (hb.block _ (blk_lt h4)).trans h4⟩

theorem below_drewN (w : World) (n : Nat) : Below w.heap.size w (w.drewN n) := ⟨rfl, rfl, rfl, Nat.le_refl _, fun _ _ => rfl⟩
theorem Rd.cells {C : RC} {w : World} {i d : Nat} (h : Rd C w i d) : w.cell? ⟨C.pb, 0, none⟩ = some (.string C.s) ∧ w.cell? ⟨C.pb, 1, none⟩ = some (.int .i64 i) ∧ w.cell? ⟨C.pb, 2, none⟩ = some (.int .i64 d) ∧ w.cell? ⟨C.pb, 3, none⟩ = some (.int .i64 0) ∧ ∀ o, w.frozen? ⟨C.pb, o, none⟩ = false :=
  ⟨blk_cell h.blk 0, blk_cell h.blk 1, blk_cell h.blk 2, blk_cell h.blk 3, fun o => blk_free h.blk o⟩
theorem Rd.step {C : RC} {w : World} {i d : Nat} (h : Rd C w i d) (j : Nat) (hj : j ≤ C.s.size) : Rd C (w.setCell ⟨C.pb, 1, none⟩ (.int .i64 j)) j d := by
  refine ⟨?_, hj, h.small⟩
  have := blk_set (v := .int .i64 (j : Int)) h.blk 1
  simpa [rdObj] using this
theorem Rd.opens {C : RC} {w : World} {i d : Nat} (h : Rd C w i d) (d' : Nat) : Rd C (w.setCell ⟨C.pb, 2, none⟩ (.int .i64 d')) i d' := by
  refine ⟨?_, h.le, h.small⟩
  have := blk_set (v := .int .i64 (d' : Int)) h.blk 2
  simpa [rdObj] using this
theorem Bd.opens {C : RC} {w : World} {d : Nat} (h : Bd C w d) (d' : Nat) : Bd C (w.setCell ⟨C.pb, 2, none⟩ (.int .i64 d')) d' := by
  obtain ⟨i, e, a, h1, h2, h3, h4⟩ := h
  refine ⟨i, e, a, h1, h2, h3, ?_⟩
  have := blk_set (v := .int .i64 (d' : Int)) h4 2
  simpa [rdObj] using this
theorem turns_set (pb o : Nat) (w : World) (v : Value) : Turns [pb] w (w.setCell ⟨pb, o, none⟩ v) := (Turns.refl [pb] w).setCell (.inl (by simp)) _
def iOf (C : RC) (w : World) : Nat := match w.heap[C.pb]? with | some (.cells c _ _) => (RowKit.intOf (c.getD 1 undef)).toNat | _ => 0
theorem iOf_of {C : RC} {w : World} {i d : Nat} (h : Rd C w i d) : iOf C w = i := by
  simp [iOf, h.blk, rdObj, RowKit.intOf]

/-- What next gives. -/
def nextV (l : Bytes) (i : Nat) : Int := match l[i]? with | some c => c.toNat | none => -1
theorem nextV_some {l : Bytes} {i : Nat} {c : UInt8} (h : l[i]? = some c) : nextV l i = c.toNat := by unfold nextV; rw [h]
theorem nextV_none {l : Bytes} {i : Nat} (h : l.length ≤ i) : nextV l i = -1 := by unfold nextV; rw [List.getElem?_eq_none h]

set_option maxRecDepth 100000 in
set_option maxHeartbeats 4000000 in
theorem next_good (C : RC) (w : World) (i d : Nat) (h : Rd C w i d) {z : Int} (hz : nextV C.bs i = z) :
    Calls Tryz.prog 156 #[ptrV C.pb] w fun e w' => e = .returned (.int .i64 z) ∧ Below w.heap.size w w' := by
  have c0 : w.cell? ⟨C.pb, 0, none⟩ = some (.string C.s) := blk_cell h.blk 0
  have c1 : w.cell? ⟨C.pb, 1, none⟩ = some (.int .i64 i) := blk_cell h.blk 1
  have c3 : w.cell? ⟨C.pb, 3, none⟩ = some (.int .i64 0) := blk_cell h.blk 3
  have hle := h.le
  have hsm := h.small
  clear h
  by_cases hlt : i < C.s.size
  · have hz2 : ((C.s[i]'hlt).toNat : Int) = z := by
      rw [← hz]; exact (nextV_some (List.getElem?_eq_getElem (by rw [← Lib.size_eq]; exact hlt))).symm
    clear hz
    have z0 : 0 ≤ z := by omega
    have z1 : z < 256 := by have := (C.s[i]'hlt).toNat_lt; omega
    go_enter Tryz.func156, Tryz.ntmps156
    go_wp2_with fail
    go_quiet (fail)
    go_wp2_with fail
    go_quiet (fail)
    go_wp2_with fail
    go_ret
    exact ⟨rfl, below_trans (below_drewN _ _) (below_drewN _ _)⟩
  · have hz2 : z = -1 := by rw [← hz]; exact nextV_none (by rw [← Lib.size_eq]; omega)
    subst hz2
    have : i = C.s.size := by omega
    subst this
    clear hz
    go_enter Tryz.func156, Tryz.ntmps156
    go_wp2_with fail
    go_quiet (fail)
    go_wp2_with fail
    go_ret
    exact ⟨rfl, below_drewN _ _⟩

set_option maxRecDepth 100000 in
set_option maxHeartbeats 4000000 in
theorem next_bad (C : RC) (w : World) (d : Nat) (h : Bd C w d) :
    Calls Tryz.prog 156 #[ptrV C.pb] w fun e w' => e = .returned (.int .i64 (-1)) ∧ Below w.heap.size w w' := by
  obtain ⟨i, e, a, h1, h2, h3, h4⟩ := h
  have c0 : w.cell? ⟨C.pb, 0, none⟩ = some (.string C.s) := blk_cell h4 0
  have c1 : w.cell? ⟨C.pb, 1, none⟩ = some (.int .i64 i) := blk_cell h4 1
  have c3 : w.cell? ⟨C.pb, 3, none⟩ = some (.int .i64 e) := blk_cell h4 3
  have he : (e != 0) = true := by simpa using h1
  clear h4 h1
  go_enter Tryz.func156, Tryz.ntmps156
  go_wp2_with fail
  go_quiet (fail)
  go_wp2_with fail
  go_ret
  exact ⟨rfl, below_drewN _ _⟩

set_option maxRecDepth 100000 in
set_option maxHeartbeats 4000000 in
theorem fail_good (C : RC) (w : World) (i d : Nat) (h : Rd C w i d) (at_ e : Int) (he : e ≠ 0) :
    Calls Tryz.prog 157 #[ptrV C.pb, .int .i64 at_, .int .i64 e] w fun x w' => x = .returned (.tuple #[]) ∧ Bd C w' d ∧ Turns [C.pb] w w' := by
  have hle := h.le
  have hsm := h.small
  have hb := h.blk
  unfold rdObj at hb
  have c3 : w.cell? ⟨C.pb, 3, none⟩ = some (.int .i64 0) := blk_cell hb 3
  have c4 : w.cell? ⟨C.pb, 4, none⟩ = some (.int .i64 0) := blk_cell hb 4
  have f0 := fun o => blk_free hb o
  have HB := Lib.hid h.blk
  clear h hb
  go_enter Tryz.func157, Tryz.ntmps157
  go_wp2_with fail
  go_end0
  refine ⟨rfl, ⟨i, e, at_, he, by omega, by omega, ?_⟩, ((Turns.refl [C.pb] w).setCell (.inl (by simp)) _).setCell (.inl (by simp)) _⟩
  have := blk_set (v := .int .i64 at_) (blk_set (v := .int .i64 e) HB.out 3) 4
  simpa [rdObj] using this

set_option maxRecDepth 100000 in
set_option maxHeartbeats 4000000 in
theorem fail_bad (C : RC) (w : World) (d : Nat) (h : Bd C w d) (at_ e : Int) :
    Calls Tryz.prog 157 #[ptrV C.pb, .int .i64 at_, .int .i64 e] w fun x w' => x = .returned (.tuple #[]) ∧ w = w' := by
  obtain ⟨i, e', a, h1, h2, h3, h4⟩ := h
  have c3 : w.cell? ⟨C.pb, 3, none⟩ = some (.int .i64 e') := blk_cell h4 3
  clear h4
  go_enter Tryz.func157, Tryz.ntmps157
  go_wp2_with fail
  go_end0
  exact ⟨rfl, rfl⟩

def letterI (z : Int) : Bool := (decide (97 ≤ z) && decide (z ≤ 122)) || (decide (65 ≤ z) && decide (z ≤ 90))
def digitI (z : Int) : Bool := decide (48 ≤ z) && decide (z ≤ 57)

set_option maxRecDepth 100000 in
set_option maxHeartbeats 4000000 in
theorem rletter_any (z : Int) {b : Bool} (hb : letterI z = b) (w : World) :
    Calls Tryz.prog 218 #[.int .i64 z] w fun x w' => x = .returned (.bool b) ∧ w = w' := by
  subst hb
  by_cases h1 : 97 ≤ z
  · by_cases h2 : z ≤ 122
    · rw [show letterI z = true by simp [letterI, h1, h2]]
      go_enter Tryz.func218, Tryz.ntmps218
      go_wp2_with fail
      go_ret
      exact ⟨rfl, rfl⟩
    · have h3 : ¬ z ≤ 90 := by omega
      have h4 : 65 ≤ z := by omega
      rw [show letterI z = false by simp [letterI, h1, h2, h3]]
      go_enter Tryz.func218, Tryz.ntmps218
      go_wp2_with fail
      go_ret
      exact ⟨rfl, rfl⟩
  · by_cases h2 : 65 ≤ z
    · by_cases h3 : z ≤ 90
      · rw [show letterI z = true by simp [letterI, h2, h3]]
        go_enter Tryz.func218, Tryz.ntmps218
        go_wp2_with fail
        go_ret
        exact ⟨rfl, rfl⟩
      · rw [show letterI z = false by simp [letterI, h1, h2, h3]]
        go_enter Tryz.func218, Tryz.ntmps218
        go_wp2_with fail
        go_ret
        exact ⟨rfl, rfl⟩
    · rw [show letterI z = false by simp [letterI, h1, h2]]
      go_enter Tryz.func218, Tryz.ntmps218
      go_wp2_with fail
      go_ret
      exact ⟨rfl, rfl⟩

set_option maxRecDepth 100000 in
set_option maxHeartbeats 4000000 in
theorem rdigit_any (z : Int) {b : Bool} (hb : digitI z = b) (w : World) :
    Calls Tryz.prog 219 #[.int .i64 z] w fun x w' => x = .returned (.bool b) ∧ w = w' := by
  subst hb
  by_cases h1 : 48 ≤ z
  · by_cases h2 : z ≤ 57
    · rw [show digitI z = true by simp [digitI, h1, h2]]
      go_enter Tryz.func219, Tryz.ntmps219
      go_wp2_with fail
      go_ret
      exact ⟨rfl, rfl⟩
    · rw [show digitI z = false by simp [digitI, h2]]
      go_enter Tryz.func219, Tryz.ntmps219
      go_wp2_with fail
      go_ret
      exact ⟨rfl, rfl⟩
  · rw [show digitI z = false by simp [digitI, h1]]
    go_enter Tryz.func219, Tryz.ntmps219
    go_wp2_with fail
    go_ret
    exact ⟨rfl, rfl⟩

theorem rskip (l : Bytes) (k : Nat) : skipWs (l.drop k) = match l[k]? with | none => [] | some c => if isWsB c then skipWs (l.drop (k + 1)) else l.drop k := by
  cases h : l[k]? with
  | none => rw [List.drop_eq_nil_of_le (List.getElem?_eq_none_iff.1 h)]; rfl
  | some c =>
    obtain ⟨h1, h2⟩ := List.getElem?_eq_some_iff.1 h
    dsimp only
    rw [List.drop_eq_getElem_cons h1, h2]
    unfold skipWs
    rw [List.dropWhile_cons]

theorem ws_of (c : UInt8) : isWsB c = true ↔ (c.toNat : Int) = 32 ∨ (c.toNat : Int) = 9 ∨ (c.toNat : Int) = 10 ∨ (c.toNat : Int) = 13 := by
  have : ∀ k : Fin 256, isWsB (UInt8.ofNat k.val) = true ↔ (k.val = 32 ∨ k.val = 9 ∨ k.val = 10 ∨ k.val = 13) := by decide +kernel
  have h := this ⟨c.toNat, c.toNat_lt⟩
  rw [show UInt8.ofNat c.toNat = c by simp] at h
  rw [h]
  dsimp only
  omega

/-- Behind blanks. -/
def BlanksTo (C : RC) (w : World) (i d : Nat) (w' : World) : Prop := ∃ j, Rd C w' j d ∧ C.bs.drop j = skipWs (C.bs.drop i) ∧ i ≤ j ∧ Turns [C.pb] w w'

set_option maxRecDepth 100000 in
set_option maxHeartbeats 4000000 in
theorem rblanks_good (C : RC) (w : World) (i d : Nat) (h : Rd C w i d) :
    Calls Tryz.prog 154 #[ptrV C.pb] w fun x w' => x = .returned (.tuple #[]) ∧ BlanksTo C w i d w' := by
  have H := Lib.hid h
  clear h
  go_enter Tryz.func154, Tryz.ntmps154
  go_wp2
  go_loopw [] (fun wr => ∃ k : Nat, Rd C wr k d ∧ skipWs (C.bs.drop k) = skipWs (C.bs.drop i) ∧ i ≤ k ∧ Turns [C.pb] w wr) (fun wr => C.s.size - iOf C wr)
  case atStart => exact ⟨i, H.out, rfl, Nat.le_refl _, Turns.refl _ _⟩
  case round =>
    obtain ⟨k, hR, hsk, hik, hT⟩ := hrel
    have HR := Lib.hid hR
    have HK := Lib.hid hsk
    have HT := Lib.hid hT
    have hle := hR.le
    have hsm := hR.small
    obtain ⟨z, hz⟩ : ∃ z, nextV C.bs k = z := ⟨_, rfl⟩
    have HN := Lib.hid (fun wx (hx : Rd C wx k d) => next_good C wx k d hx hz)
    have HZ := Lib.hid hz
    clear hR hsk hT hz
    have HSK := Lib.hid (rskip C.bs k)
    by_cases hw : z = 32 ∨ z = 9 ∨ z = 10 ∨ z = 13
    · have hlt : k < C.s.size := by
        rcases Nat.lt_or_ge k C.s.size with h | h
        · exact h
        · have := HZ.out; rw [nextV_none (by rw [← Lib.size_eq]; exact h)] at this; omega
      have hskip : skipWs (C.bs.drop (k + 1)) = skipWs (C.bs.drop i) := by
        rw [← HK.out, HSK.out]
        have hc : C.bs[k]? = some (C.bs[k]'(by rw [← Lib.size_eq]; exact hlt)) := List.getElem?_eq_getElem _
        have h1 := HZ.out
        rw [nextV_some hc] at h1
        rw [hc]
        dsimp only
        rw [if_pos ((ws_of _).2 (by rw [h1]; exact hw))]
      have HSP := Lib.hid hskip
      clear hskip
      rcases hw with rfl | rfl | rfl | rfl
      · go_wp2_with fail
        refine (HN.out _ HR.out).mono ?_
        rintro e w1 ⟨rfl, hb1⟩
        have hR1 := HR.out.below hb1
        have HR1 := Lib.hid hR1
        have HT1 := Lib.hid (HT.out.trans (Turns.below hb1))
        obtain ⟨_, c1, _, _, z1⟩ := hR1.cells
        clear hb1 hR1
        go_wp2_with fail
        go_roundw
        case rel => exact ⟨k + 1, HR1.out.step (k + 1) hlt, HSP.out, by omega, HT1.out.trans (turns_set _ _ _ _)⟩
        case measure => rw [iOf_of HR.out, show ((k : Int) + 1) = ((k + 1 : Nat) : Int) by omega, iOf_of (HR1.out.step (k + 1) hlt)]; omega
      · go_wp2_with fail
        refine (HN.out _ HR.out).mono ?_
        rintro e w1 ⟨rfl, hb1⟩
        have HR1 := Lib.hid (HR.out.below hb1)
        have HT1 := Lib.hid (HT.out.trans (Turns.below hb1))
        clear hb1
        go_wp2_with fail
        refine (HN.out _ HR1.out).mono ?_
        rintro e w2 ⟨rfl, hb2⟩
        have hR2 := HR1.out.below hb2
        have HR2 := Lib.hid hR2
        have HT2 := Lib.hid (HT1.out.trans (Turns.below hb2))
        obtain ⟨_, c1, _, _, z1⟩ := hR2.cells
        clear hb2 hR2
        go_wp2_with fail
        go_roundw
        case rel => exact ⟨k + 1, HR2.out.step (k + 1) hlt, HSP.out, by omega, HT2.out.trans (turns_set _ _ _ _)⟩
        case measure => rw [iOf_of HR.out, show ((k : Int) + 1) = ((k + 1 : Nat) : Int) by omega, iOf_of (HR2.out.step (k + 1) hlt)]; omega
      · go_wp2_with fail
        refine (HN.out _ HR.out).mono ?_
        rintro e w1 ⟨rfl, hb1⟩
        have HR1 := Lib.hid (HR.out.below hb1)
        have HT1 := Lib.hid (HT.out.trans (Turns.below hb1))
        clear hb1
        go_wp2_with fail
        refine (HN.out _ HR1.out).mono ?_
        rintro e w2 ⟨rfl, hb2⟩
        have HR2 := Lib.hid (HR1.out.below hb2)
        have HT2 := Lib.hid (HT1.out.trans (Turns.below hb2))
        clear hb2
        go_wp2_with fail
        refine (HN.out _ HR2.out).mono ?_
        rintro e w3 ⟨rfl, hb3⟩
        have hR3 := HR2.out.below hb3
        have HR3 := Lib.hid hR3
        have HT3 := Lib.hid (HT2.out.trans (Turns.below hb3))
        obtain ⟨_, c1, _, _, z1⟩ := hR3.cells
        clear hb3 hR3
        go_wp2_with fail
        go_roundw
        case rel => exact ⟨k + 1, HR3.out.step (k + 1) hlt, HSP.out, by omega, HT3.out.trans (turns_set _ _ _ _)⟩
        case measure => rw [iOf_of HR.out, show ((k : Int) + 1) = ((k + 1 : Nat) : Int) by omega, iOf_of (HR3.out.step (k + 1) hlt)]; omega
      · go_wp2_with fail
        refine (HN.out _ HR.out).mono ?_
        rintro e w1 ⟨rfl, hb1⟩
        have HR1 := Lib.hid (HR.out.below hb1)
        have HT1 := Lib.hid (HT.out.trans (Turns.below hb1))
        clear hb1
        go_wp2_with fail
        refine (HN.out _ HR1.out).mono ?_
        rintro e w2 ⟨rfl, hb2⟩
        have HR2 := Lib.hid (HR1.out.below hb2)
        have HT2 := Lib.hid (HT1.out.trans (Turns.below hb2))
        clear hb2
        go_wp2_with fail
        refine (HN.out _ HR2.out).mono ?_
        rintro e w3 ⟨rfl, hb3⟩
        have HR3 := Lib.hid (HR2.out.below hb3)
        have HT3 := Lib.hid (HT2.out.trans (Turns.below hb3))
        clear hb3
        go_wp2_with fail
        refine (HN.out _ HR3.out).mono ?_
        rintro e w4 ⟨rfl, hb4⟩
        have hR4 := HR3.out.below hb4
        have HR4 := Lib.hid hR4
        have HT4 := Lib.hid (HT3.out.trans (Turns.below hb4))
        obtain ⟨_, c1, _, _, z1⟩ := hR4.cells
        clear hb4 hR4
        go_wp2_with fail
        go_roundw
        case rel => exact ⟨k + 1, HR4.out.step (k + 1) hlt, HSP.out, by omega, HT4.out.trans (turns_set _ _ _ _)⟩
        case measure => rw [iOf_of HR.out, show ((k : Int) + 1) = ((k + 1 : Nat) : Int) by omega, iOf_of (HR4.out.step (k + 1) hlt)]; omega
    · have n1 : (z == 32) = false := by simp; omega
      have n2 : (z == 9) = false := by simp; omega
      have n3 : (z == 10) = false := by simp; omega
      have n4 : (z == 13) = false := by simp; omega
      go_wp2_with fail
      refine (HN.out _ HR.out).mono ?_
      rintro e w1 ⟨rfl, hb1⟩
      have HR1 := Lib.hid (HR.out.below hb1)
      have HT1 := Lib.hid (HT.out.trans (Turns.below hb1))
      clear hb1
      go_wp2_with fail
      refine (HN.out _ HR1.out).mono ?_
      rintro e w2 ⟨rfl, hb2⟩
      have HR2 := Lib.hid (HR1.out.below hb2)
      have HT2 := Lib.hid (HT1.out.trans (Turns.below hb2))
      clear hb2
      go_wp2_with fail
      refine (HN.out _ HR2.out).mono ?_
      rintro e w3 ⟨rfl, hb3⟩
      have HR3 := Lib.hid (HR2.out.below hb3)
      have HT3 := Lib.hid (HT2.out.trans (Turns.below hb3))
      clear hb3
      go_wp2_with fail
      refine (HN.out _ HR3.out).mono ?_
      rintro e w4 ⟨rfl, hb4⟩
      have HR4 := Lib.hid (HR3.out.below hb4)
      have HT4 := Lib.hid (HT3.out.trans (Turns.below hb4))
      clear hb4
      go_wp2_with fail
      go_end0
      refine ⟨rfl, k, HR4.out, ?_, hik, HT4.out⟩
      rw [← HK.out, HSK.out]
      cases hc : C.bs[k]? with
      | none => exact List.drop_eq_nil_of_le (List.getElem?_eq_none_iff.1 hc)
      | some c =>
        dsimp only
        have h1 := HZ.out
        rw [nextV_some hc] at h1
        rw [if_neg (fun h => hw (by have := (ws_of c).1 h; rw [h1] at this; exact this))]

set_option maxRecDepth 100000 in
set_option maxHeartbeats 4000000 in
theorem rblanks_bad (C : RC) (w : World) (d : Nat) (h : Bd C w d) :
    Calls Tryz.prog 154 #[ptrV C.pb] w fun x w' => x = .returned (.tuple #[]) ∧ Below w.heap.size w w' := by
  have H := Lib.hid h
  clear h
  go_enter Tryz.func154, Tryz.ntmps154
  go_wp2
  go_loopw [] (fun wr => wr = w) (fun _ => 0)
  case atStart => rfl
  case round =>
    subst hrel
    go_wp2_with fail
    refine (next_bad C _ d H.out).mono ?_
    rintro e w1 ⟨rfl, hb1⟩
    have HB1 := Lib.hid hb1
    clear hb1
    go_wp2_with fail
    refine (next_bad C _ d (H.out.below HB1.out)).mono ?_
    rintro e w2 ⟨rfl, hb2⟩
    have HB2 := Lib.hid (below_trans HB1.out hb2)
    clear hb2
    go_wp2_with fail
    refine (next_bad C _ d (H.out.below HB2.out)).mono ?_
    rintro e w3 ⟨rfl, hb3⟩
    have HB3 := Lib.hid (below_trans HB2.out hb3)
    clear hb3
    go_wp2_with fail
    refine (next_bad C _ d (H.out.below HB3.out)).mono ?_
    rintro e w4 ⟨rfl, hb4⟩
    have HB4 := Lib.hid (below_trans HB3.out hb4)
    clear hb4
    go_wp2_with fail
    go_end0
    exact ⟨rfl, HB4.out⟩

/-- A byte that must stand there. -/
def MustTo (C : RC) (w : World) (i d : Nat) (c : UInt8) (w' : World) : Prop :=
  Turns [C.pb] w w' ∧ if C.bs[i]? = some c then Rd C w' (i + 1) d else Bd C w' d

set_option maxRecDepth 100000 in
set_option maxHeartbeats 4000000 in
theorem rmust_good (C : RC) (w : World) (i d : Nat) (h : Rd C w i d) (c : UInt8) :
    Calls Tryz.prog 268 #[ptrV C.pb, .int .u8 c.toNat] w fun x w' => x = .returned (.tuple #[]) ∧ MustTo C w i d c w' := by
  obtain ⟨z, hz⟩ : ∃ z, nextV C.bs i = z := ⟨_, rfl⟩
  have HN := Lib.hid (next_good C w i d h hz)
  have H := Lib.hid h
  have hle := h.le
  have hsm := h.small
  have hcl := c.toNat_lt
  by_cases hc : C.bs[i]? = some c
  · have hz2 : z = c.toNat := by rw [← hz, nextV_some hc]
    subst hz2
    have hlt : i < C.s.size := by rw [Lib.size_eq]; exact (List.getElem?_eq_some_iff.1 hc).1
    clear h hz
    go_enter Tryz.func268, Tryz.ntmps268
    go_wp2_with fail
    refine HN.out.mono ?_
    rintro e w1 ⟨rfl, hb1⟩
    have hR1 := H.out.below hb1
    have HR1 := Lib.hid hR1
    have HT1 := Lib.hid (Turns.below (S := [C.pb]) hb1)
    obtain ⟨_, c1, _, _, z1⟩ := hR1.cells
    clear hb1 hR1
    go_wp2_with fail
    go_end0
    refine ⟨rfl, HT1.out.trans (turns_set _ _ _ _), ?_⟩
    rw [if_pos hc]
    exact HR1.out.step (i + 1) hlt
  · have hz2 : (z != (c.toNat : Int)) = true := by
      simp only [bne_iff_ne, ne_eq]
      rw [← hz]
      cases hx : C.bs[i]? with
      | none => unfold nextV; rw [hx]; dsimp only; omega
      | some x =>
        rw [nextV_some hx]
        intro e
        exact hc (by rw [hx]; congr 1; exact UInt8.toNat_inj.1 (by exact_mod_cast e))
    have hzr : -1 ≤ z ∧ z < 256 := by
      rw [← hz]; unfold nextV
      cases C.bs[i]? with
      | none => dsimp only; omega
      | some x => dsimp only; have := x.toNat_lt; omega
    clear h hz
    go_enter Tryz.func268, Tryz.ntmps268
    go_wp2_with fail
    refine HN.out.mono ?_
    rintro e w1 ⟨rfl, hb1⟩
    have hR1 := H.out.below hb1
    have HR1 := Lib.hid hR1
    have HT1 := Lib.hid (Turns.below (S := [C.pb]) hb1)
    obtain ⟨_, c1, _, _, z1⟩ := hR1.cells
    clear hb1 hR1
    go_wp2_with fail
    refine (fail_good C w1 i d HR1.out i 20 (by decide)).mono ?_
    rintro e w2 ⟨rfl, hB, hT⟩
    have HB2 := Lib.hid hB
    have HT2 := Lib.hid (HT1.out.trans hT)
    clear hB hT
    go_wp2_with fail
    refine bodyPost_ret (results_none rfl _ _ _) rfl ?_
    refine ⟨rfl, HT2.out, ?_⟩
    rw [if_neg hc]
    exact HB2.out

set_option maxRecDepth 100000 in
set_option maxHeartbeats 4000000 in
theorem rmust_bad (C : RC) (w : World) (d : Nat) (h : Bd C w d) (c : UInt8) :
    Calls Tryz.prog 268 #[ptrV C.pb, .int .u8 c.toNat] w fun x w' => x = .returned (.tuple #[]) ∧ Below w.heap.size w w' := by
  have H := Lib.hid h
  have hcl := c.toNat_lt
  have hz2 : ((-1 : Int) != (c.toNat : Int)) = true := by simp only [bne_iff_ne, ne_eq]; omega
  clear h
  go_enter Tryz.func268, Tryz.ntmps268
  go_wp2_with fail
  refine (next_bad C w d H.out).mono ?_
  rintro e w1 ⟨rfl, hb1⟩
  have HB1 := Lib.hid hb1
  have HB := Lib.hid (H.out.below hb1)
  obtain ⟨i, ee, a, h1, h2, h3, h4⟩ := HB.out
  have c1 : w1.cell? ⟨C.pb, 1, none⟩ = some (.int .i64 i) := blk_cell h4 1
  clear hb1 h4
  go_wp2_with fail
  refine (fail_bad C w1 d HB.out i 20).mono ?_
  rintro e w2 ⟨rfl, rfl⟩
  go_wp2_with fail
  refine bodyPost_ret (results_none rfl _ _ _) rfl ?_
  exact ⟨rfl, HB1.out⟩

end Toc

namespace Toc
open Go Go.RowKit Go.Proofs

def rvObj (k : Int) (t : Bool) (n : Int) (s : ByteArray) (items keys : Value) : Obj :=
  .cells #[.int .i64 k, .bool t, .int .i64 n, .string s, items, keys] 241 (0, 0)

inductive IsR (r : Ro) : Nat → JV → Prop
  | null {q : Nat} : r q = some (rvObj 0 false 0 emptyS nilS nilS) → IsR r q .null
  | bool {q : Nat} {b : Bool} : r q = some (rvObj 1 b 0 emptyS nilS nilS) → IsR r q (.bool b)
  | int {q : Nat} {n : Int} : r q = some (rvObj 2 false n emptyS nilS nilS) → IsR r q (.int n)
  | text {q : Nat} {s : Bytes} : r q = some (rvObj 3 false 0 (mkS s) nilS nilS) → IsR r q (.text s)
  | list {q : Nat} {l : List JV} {qs : List Nat} {sv : Value} : r q = some (rvObj 4 false 0 emptyS sv nilS) → RowR r sv l.length (qs.map ptrV) → qs.length = l.length →
      (∀ i (h : i < qs.length) (h' : i < l.length), IsR r (qs[i]'h) (l[i]'h')) → IsR r q (.list l)
  | obj {q : Nat} {l : List (Bytes × JV)} {qs : List Nat} {sv kv : Value} : r q = some (rvObj 5 false 0 emptyS sv kv) → RowR r sv l.length (qs.map ptrV) → RowR r kv l.length (l.map fun p => .string (mkS p.1)) → qs.length = l.length →
      (∀ i (h : i < qs.length) (h' : i < l.length), IsR r (qs[i]'h) (l[i]'h').2) → IsR r q (.obj l)

theorem IsR.mono {r r' : Ro} (hr : r.le r') {q : Nat} {v : JV} (h : IsR r q v) : IsR r' q v := by
  induction h with
  | null h => exact .null (hr _ _ h)
  | bool h => exact .bool (hr _ _ h)
  | int h => exact .int (hr _ _ h)
  | text h => exact .text (hr _ _ h)
  | list h1 h2 h3 _ ih => exact .list (hr _ _ h1) (h2.mono hr) h3 ih
  | obj h1 h2 h3 h4 _ ih => exact .obj (hr _ _ h1) (h2.mono hr) (h3.mono hr) h4 ih

def MadeR (lo : Nat) (w : World) (q : Nat) (v : JV) : Prop := ∃ r : Ro, r.from lo ∧ Has r w ∧ IsR r q v
theorem MadeR.one {lo : Nat} {w : World} {q : Nat} {v : JV} {o : Obj} (hq : lo ≤ q) (ho : w.heap[q]? = some o) (h : ∀ r : Ro, r q = some o → IsR r q v) : MadeR lo w q v :=
  ⟨Ro.one q o, Ro.from_one hq o, Has.one ho, h _ (Ro.one_self q o)⟩
theorem MadeR.mono {lo lo' : Nat} {w : World} {q : Nat} {v : JV} (h : MadeR lo w q v) (hl : lo' ≤ lo) : MadeR lo' w q v := by
  obtain ⟨r, h1, h2, h3⟩ := h
  exact ⟨r, Ro.from_mono h1 hl, h2, h3⟩
theorem MadeR.turns {lo : Nat} {w w' : World} {q : Nat} {v : JV} {S : List Nat} (h : MadeR lo w q v) (ho : Turns S w w') (hS : ∀ b ∈ S, b < lo) : MadeR lo w' q v := by
  obtain ⟨r, h1, h2, h3⟩ := h
  exact ⟨r, h1, h2.turns ho (fun b hb => Ro.from_ne h1 (hS b hb)), h3⟩

/-- A value has been read, and what stands behind it; or something is wrong. -/
def RValOf (C : RC) (w : World) (d : Nat) (o : Option (JV × Bytes)) (x : Ending) (w' : World) : Prop :=
  Turns [C.pb] w w' ∧
  match o with
  | some (v, t) => ∃ j q, x = .returned (ptrV q) ∧ Rd C w' j d ∧ C.bs.drop j = t ∧ MadeR w.heap.size w' q v
  | none => ∃ p, x = .returned (.pointer p) ∧ Bd C w' d

theorem letterI_of (c : UInt8) : letterI (c.toNat : Int) = letterB c := by
  have : ∀ k : Fin 256, letterI ((UInt8.ofNat k.val).toNat : Int) = letterB (UInt8.ofNat k.val) := by decide +kernel
  have h := this ⟨c.toNat, c.toNat_lt⟩
  simpa using h
theorem digitI_of (c : UInt8) : digitI (c.toNat : Int) = digitB c := by
  have : ∀ k : Fin 256, digitI ((UInt8.ofNat k.val).toNat : Int) = digitB (UInt8.ofNat k.val) := by decide +kernel
  have h := this ⟨c.toNat, c.toNat_lt⟩
  simpa using h
theorem letterI_none : letterI (-1) = false := by decide
theorem digitI_none : digitI (-1) = false := by decide

theorem nextV_rangeR (l : Bytes) (i : Nat) : -1 ≤ nextV l i ∧ nextV l i < 256 := by
  unfold nextV
  cases l[i]? with
  | none => dsimp only; omega
  | some x => dsimp only; have := x.toNat_lt; omega

/-- A step of a walk over what a kind of bytes begins with. -/
theorem scan_step {p : UInt8 → Bool} {l : Bytes} {i k : Nat} {c : UInt8} (hc : l[k]? = some c) (hp : p c = true) (h : (l.drop i).takeWhile p = (l.drop i).take (k - i) ++ (l.drop k).takeWhile p) (hik : i ≤ k) :
    (l.drop i).takeWhile p = (l.drop i).take (k + 1 - i) ++ (l.drop (k + 1)).takeWhile p := by
  obtain ⟨h1, h2⟩ := List.getElem?_eq_some_iff.1 hc
  rw [h, List.drop_eq_getElem_cons h1, h2, List.takeWhile_cons, if_pos hp]
  have e : (l.drop i)[k - i]? = some c := by rw [List.getElem?_drop, show i + (k - i) = k by omega]; exact hc
  rw [show k + 1 - i = (k - i) + 1 by omega, List.take_add_one, e]
  simp
theorem scan_end {p : UInt8 → Bool} {l : Bytes} {i k : Nat} (hp : ∀ c, l[k]? = some c → p c = false) (h : (l.drop i).takeWhile p = (l.drop i).take (k - i) ++ (l.drop k).takeWhile p) (hik : i ≤ k) :
    (l.drop i).takeWhile p = (l.drop i).take (k - i) ∧ (l.drop i).dropWhile p = l.drop k := by
  have h0 : (l.drop k).takeWhile p = [] := by
    cases hd : l.drop k with
    | nil => rfl
    | cons c r =>
      have hc : l[k]? = some c := by
        have := List.getElem?_drop (xs := l) (i := k) (j := 0)
        rw [hd] at this; simpa using this.symm
      rw [List.takeWhile_cons, if_neg (by rw [hp c hc]; simp)]
  rw [h0, List.append_nil] at h
  refine ⟨h, ?_⟩
  have hx := List.takeWhile_append_dropWhile (p := p) (l := l.drop i)
  rw [h] at hx
  have hy := List.take_append_drop (k - i) (l.drop i)
  have hz := hx.trans hy.symm
  have := List.append_cancel_left hz
  rw [this, List.drop_drop, show i + (k - i) = k by omega]

/-- Bytes i up to j of the text. -/
theorem slice_take (s : ByteArray) (i j : Nat) : (s.extract i j).data.toList = (s.data.toList.drop i).take (j - i) := Lib.extract_data s i j

end Toc

namespace Toc
open Go Go.RowKit Go.Proofs

theorem nextV_range0 (l : Bytes) (i : Nat) : -1 ≤ nextV l i ∧ nextV l i < 256 := by
  unfold nextV
  cases l[i]? with
  | none => dsimp only; omega
  | some x => dsimp only; have := x.toNat_lt; omega

theorem word_cases (t : Bytes) : wordOfL t = if t = nullS then some .null else if t = trueS then some (.bool true) else if t = falseS then some (.bool false) else none := rfl

set_option maxRecDepth 100000 in
set_option maxHeartbeats 4000000 in
theorem rword_any (C : RC) (w : World) (i d : Nat) (h : Rd C w i d) {o : Option (JV × Bytes)} (ho : wordL (C.bs.drop i) = o) :
    Calls Tryz.prog 220 #[ptrV C.pb] w fun x w' => RValOf C w d o x w' := by
  have H := Lib.hid h
  have HO := Lib.hid ho
  obtain ⟨_, c1, _, _, _⟩ := h.cells
  clear h ho
  go_enter Tryz.func220, Tryz.ntmps220
  go_wp2_with fail
  go_loopw [] (fun wr => ∃ k : Nat, Rd C wr k d ∧ (C.bs.drop i).takeWhile letterB = (C.bs.drop i).take (k - i) ++ (C.bs.drop k).takeWhile letterB ∧ i ≤ k ∧ Turns [C.pb] w wr) (fun wr => C.s.size - iOf C wr)
  case atStart => exact ⟨i, H.out, by simp, Nat.le_refl _, Turns.refl _ _⟩
  case round =>
    obtain ⟨k, hR, hsk, hik, hT⟩ := hrel
    have HR := Lib.hid hR
    have HK := Lib.hid hsk
    have HT := Lib.hid hT
    have hle := hR.le
    have hsm := hR.small
    obtain ⟨z, hz⟩ : ∃ z, nextV C.bs k = z := ⟨_, rfl⟩
    obtain ⟨b, hb⟩ : ∃ b, letterI z = b := ⟨_, rfl⟩
    have HN := Lib.hid (next_good C wr k d hR hz)
    have HL := Lib.hid (fun wx => rletter_any z hb wx)
    have HZ := Lib.hid hz
    have HB := Lib.hid hb
    clear hR hsk hT hz hb
    cases b with
    | true =>
      obtain ⟨c, hc⟩ : ∃ c, C.bs[k]? = some c := by
        cases hx : C.bs[k]? with
        | none =>
          have h1 := HZ.out; unfold nextV at h1; rw [hx] at h1
          have h2 := HB.out; rw [← h1] at h2; exact absurd h2 (by decide)
        | some c => exact ⟨c, rfl⟩
      have hlt : k < C.s.size := by rw [Lib.size_eq]; exact (List.getElem?_eq_some_iff.1 hc).1
      have hlc : letterB c = true := by rw [← letterI_of, ← nextV_some hc, HZ.out]; exact HB.out
      have HST := Lib.hid (scan_step hc hlc HK.out hik)
      clear hc hlc
      go_wp2_with fail
      refine HN.out.mono ?_
      rintro e w1 ⟨rfl, hb1⟩
      have hR1 := HR.out.below hb1
      have HR1 := Lib.hid hR1
      have HT1 := Lib.hid (HT.out.trans (Turns.below hb1))
      obtain ⟨_, c1, _, _, z1⟩ := hR1.cells
      clear hb1 hR1
      go_wp2_with fail
      refine (HL.out _).mono ?_
      rintro e w2 ⟨rfl, rfl⟩
      go_wp2_with fail
      go_roundw
      case rel => exact ⟨k + 1, HR1.out.step (k + 1) hlt, HST.out, by omega, HT1.out.trans (turns_set _ _ _ _)⟩
      case measure => rw [iOf_of HR.out, show ((k : Int) + 1) = ((k + 1 : Nat) : Int) by omega, iOf_of (HR1.out.step (k + 1) hlt)]; omega
    | false =>
      have hno : ∀ c, C.bs[k]? = some c → letterB c = false := fun c hc => by rw [← letterI_of, ← nextV_some hc, HZ.out]; exact HB.out
      obtain ⟨e1, e2⟩ := scan_end hno HK.out hik
      have HE := Lib.hid (And.intro e1 e2)
      clear hno e1 e2
      go_wp2_with fail
      refine HN.out.mono ?_
      rintro e w1 ⟨rfl, hb1⟩
      have hR1 := HR.out.below hb1
      have HR1 := Lib.hid hR1
      have HT1 := Lib.hid (HT.out.trans (Turns.below hb1))
      obtain ⟨c0, c1, _, _, z1⟩ := hR1.cells
      clear hb1 hR1
      go_wp2_with fail
      refine (HL.out _).mono ?_
      rintro e w2 ⟨rfl, rfl⟩
      go_wp2_with fail
      go_quiet (fail)
      generalize htx : C.s.extract i k = tx at *
      have HTL := Lib.hid (show tx.data.toList = (C.bs.drop i).takeWhile letterB by rw [← htx, slice_take, HE.out.1])
      clear htx
      by_cases h1 : tx.data.toList = nullS
      · have ho : o = some (JV.null, C.bs.drop k) := by
          rw [← HO.out]; unfold wordL; rw [← HTL.out, HE.out.2, h1]; rfl
        subst ho
        have hs' := str_eq h1
        subst hs'
        clear HTL h1
        go_wp2_with fail
        go_ret
        exact ⟨((HT1.out.drewN nq).alloc _), k, _, rfl, (HR1.out.below (below_drewN _ nq)).below ((Below.refl _ _).alloc (Nat.le_refl _) _), rfl, MadeR.one (by have := HT1.out.size; exact this) (blk_new _ _) (fun r h => .null h)⟩
      by_cases h2 : tx.data.toList = trueS
      · have ho : o = some (JV.bool true, C.bs.drop k) := by
          rw [← HO.out]; unfold wordL; rw [← HTL.out, HE.out.2, h2]; rfl
        subst ho
        have hs' := str_eq h2
        subst hs'
        clear HTL h2
        go_wp2_with fail
        go_ret
        exact ⟨((HT1.out.drewN nq).alloc _), k, _, rfl, (HR1.out.below (below_drewN _ nq)).below ((Below.refl _ _).alloc (Nat.le_refl _) _), rfl, MadeR.one (by have := HT1.out.size; exact this) (blk_new _ _) (fun r h => .bool h)⟩
      by_cases h3 : tx.data.toList = falseS
      · have ho : o = some (JV.bool false, C.bs.drop k) := by
          rw [← HO.out]; unfold wordL; rw [← HTL.out, HE.out.2, h3]; rfl
        subst ho
        have hs' := str_eq h3
        subst hs'
        clear HTL h3
        go_wp2_with fail
        go_ret
        exact ⟨((HT1.out.drewN nq).alloc _), k, _, rfl, (HR1.out.below (below_drewN _ nq)).below ((Below.refl _ _).alloc (Nat.le_refl _) _), rfl, MadeR.one (by have := HT1.out.size; exact this) (blk_new _ _) (fun r h => .bool h)⟩
      have ho : o = none := by
        rw [← HO.out]; unfold wordL; rw [← HTL.out]
        unfold wordOfL; rw [if_neg h1, if_neg h2, if_neg h3]; rfl
      subst ho
      have e1 := str_ne h1
      have e2 := str_ne h2
      have e3 := str_ne h3
      unfold nullS at e1
      unfold trueS at e2
      unfold falseS at e3
      clear HTL h1 h2 h3
      go_wp2_with fail
      refine (fail_good C _ k d (HR1.out.below (below_drewN _ nq)) i 20 (by decide)).mono ?_
      rintro e w2 ⟨rfl, hB, hT⟩
      have HT2 := Lib.hid ((HT1.out.drewN nq).trans hT)
      have HB2 := Lib.hid hB
      clear hB hT
      go_wp2_with fail
      go_ret
      exact ⟨HT2.out, none, rfl, HB2.out⟩

set_option maxRecDepth 100000 in
set_option maxHeartbeats 4000000 in
theorem rrun_any (s : ByteArray) (hs : s.size ≤ 4096) {n : Nat} (hn : (s.data.toList.takeWhile digitB).length = n) (w : World) :
    Calls Tryz.prog 293 #[.string s] w fun x w' => x = .returned (.int .i64 n) ∧ w = w' := by
  have HN := Lib.hid hn
  clear hn
  go_enter Tryz.func293, Tryz.ntmps293
  go_wp2_with fail
  go_loopw [3] (fun s3 wr => ∃ k : Nat, s3 = .int .i64 k ∧ k ≤ s.size ∧ s.data.toList.takeWhile digitB = s.data.toList.take k ++ (s.data.toList.drop k).takeWhile digitB ∧ wr = w) (fun s3 _ => match s3 with | .int _ k => s.size - k.toNat | _ => 0)
  case atStart => exact ⟨0, rfl, Nat.zero_le _, by simp, rfl⟩
  case round =>
    obtain ⟨k, rfl, hk, hsk, rfl⟩ := hrel
    have HK := Lib.hid hsk
    clear hsk
    have hend : ∀ (hno : ∀ c, s.data.toList[k]? = some c → digitB c = false), k = n := fun hno => by
      have h1 := scan_end (i := 0) hno (by simpa using HK.out) (Nat.zero_le _)
      simp only [List.drop_zero, Nat.sub_zero] at h1
      rw [← HN.out, h1.1, List.length_take, ← Lib.size_eq]; omega
    have HE := Lib.hid hend
    clear hend
    by_cases hlt : k < s.size
    · obtain ⟨c, hc⟩ : ∃ c, s[k]'hlt = c := ⟨_, rfl⟩
      have hcl : s.data.toList[k]? = some c := by rw [← hc]; exact List.getElem?_eq_getElem (by rw [← Lib.size_eq]; exact hlt)
      have HC := Lib.hid hcl
      have hd := digitI_of c
      have hcr := c.toNat_lt
      clear hcl
      by_cases h1 : (48 : Int) ≤ c.toNat
      · by_cases h2 : (c.toNat : Int) ≤ 57
        · have hdb : digitB c = true := by rw [← hd]; simp [digitI, h1, h2]
          have HST := Lib.hid (scan_step (i := 0) HC.out hdb (by simpa using HK.out) (Nat.zero_le _))
          clear hd hdb
          go_wp2_with fail
          go_roundw
          case rel => exact ⟨k + 1, by simp, hlt, by simpa using HST.out, by first | rfl | trivial⟩
          case measure => simp; omega
        · have h2' : (57 : Int) < c.toNat := by omega
          have hdb : digitB c = false := by rw [← hd]; simp [digitI, h2]
          have hkn := Lib.hid <| HE.out (fun c' h' => by rw [HC.out] at h'; cases h'; exact hdb)
          clear hd hdb
          go_wp2_with fail
          go_ret
          exact ⟨congrArg (fun m : Nat => Ending.returned (.int .i64 (m : Int))) hkn.out, rfl⟩
      · have h1' : (c.toNat : Int) < 48 := by omega
        have hdb : digitB c = false := by rw [← hd]; simp [digitI, h1]
        have hkn := Lib.hid <| HE.out (fun c' h' => by rw [HC.out] at h'; cases h'; exact hdb)
        clear hd hdb
        go_wp2_with fail
        go_ret
        exact ⟨congrArg (fun m : Nat => Ending.returned (.int .i64 (m : Int))) hkn.out, rfl⟩
    · have hkn := Lib.hid <| HE.out (fun c' h' => by have := (List.getElem?_eq_some_iff.1 h').1; rw [← Lib.size_eq] at this; omega)
      go_wp2_with fail
      go_ret
      exact ⟨congrArg (fun m : Nat => Ending.returned (.int .i64 (m : Int))) hkn.out, rfl⟩

end Toc

namespace Toc
open Go Go.RowKit Go.Proofs

def stripL (t : Bytes) : Bytes := match t with | 45 :: r => r | r => r
/-- A whole number, without a point and a power. -/
def plainB (t : Bytes) : Bool := (stripL t).all digitB && !(stripL t).isEmpty && ((stripL t).length == 1 || (stripL t).headD 0 != 48)
def headIs (l : Bytes) (c : UInt8) : Bool := match l with | x :: _ => x == c | [] => false

theorem headIs_get (s : ByteArray) (h : 0 < s.size) (c : UInt8) : headIs s.data.toList c = (((s[0]'h).toNat : Int) == (c.toNat : Int)) := by
  have hl : 0 < s.data.toList.length := by rw [← Lib.size_eq]; exact h
  have e : s.data.toList = (s[0]'h) :: s.data.toList.drop 1 := by
    have := List.drop_eq_getElem_cons hl
    rw [List.drop_zero] at this
    exact this
  rw [e]
  show ((s[0]'h) == c) = _
  rw [Bool.eq_iff_iff]
  simp only [beq_iff_eq]
  exact ⟨fun h => by rw [h], fun h => UInt8.toNat_inj.1 (by exact_mod_cast h)⟩
theorem headIs_nil (s : ByteArray) (h : ¬ 0 < s.size) (c : UInt8) : headIs s.data.toList c = false := by
  have : s.data.toList = [] := List.eq_nil_of_length_eq_zero (by rw [← Lib.size_eq]; omega)
  rw [this]; rfl

theorem strip_of (t : Bytes) : stripL t = if headIs t 45 then t.drop 1 else t := by
  cases t with
  | nil => rfl
  | cons c r =>
    by_cases h : c = 45
    · subst h; rfl
    · have h1 : headIs (c :: r) 45 = false := by simpa [headIs] using h
      rw [h1]
      unfold stripL
      split
      · rename_i e; cases e; try exact absurd rfl h
      · rfl

theorem extract_drop' (s : ByteArray) (k : Nat) (_ : k ≤ s.size) : (s.extract k s.size).data.toList = s.data.toList.drop k := by
  rw [extract_drop]

theorem takeWhile_self {p : UInt8 → Bool} : ∀ {l : Bytes}, l.takeWhile p = l ↔ ∀ x ∈ l, p x = true
  | [] => by simp
  | c :: l => by
    rw [List.takeWhile_cons]
    by_cases h : p c = true
    · rw [if_pos h]
      simp only [List.cons.injEq, true_and, List.mem_cons, forall_eq_or_imp, h]
      exact takeWhile_self
    · rw [if_neg h]
      simp [h]
theorem plain_all (m : Bytes) (n : Nat) (hn : (m.takeWhile digitB).length = n) : m.all digitB = decide (n = m.length) := by
  rw [Bool.eq_iff_iff, decide_eq_true_iff, List.all_eq_true]
  constructor
  · intro h
    rw [← hn, takeWhile_self.2 (fun x hx => h x hx)]
  · intro h x hx
    have e : m.takeWhile digitB = m := by
      have h1 := List.takeWhile_prefix digitB (l := m)
      exact h1.eq_of_length (by rw [hn, h])
    exact takeWhile_self.1 e x hx

set_option maxRecDepth 100000 in
set_option maxHeartbeats 8000000 in
theorem rform_any (s : ByteArray) (hs : s.size ≤ 4096) {P : Bool} (hP : plainB s.data.toList = P) (w : World) :
    Calls Tryz.prog 267 #[.string s] w fun x w' => w = w' ∧ ∃ k : Int, x = .returned (.int .i64 k) ∧ (k = 0 ∨ k = 1 ∨ k = 2) ∧ (k = 1 ↔ P = true) := by
  have HP := Lib.hid hP
  clear hP
  go_enter Tryz.func267, Tryz.ntmps267
  go_upto_region 1 with fail
  go_cut [12] (fun s12 wy => s12 = .bool (headIs s.data.toList 45) ∧ wy = w)
  case first =>
    by_cases h0 : 0 < s.size
    · have h0i : (0 : Int) < s.size := by omega
      obtain ⟨b, hb⟩ : ∃ b, (((s[0]'h0).toNat : Int) == 45) = b := ⟨_, rfl⟩
      have HH := Lib.hid ((headIs_get s h0 45).trans hb)
      go_wp2_with fail
      go_meet
      exact ⟨by rw [HH.out], rfl⟩
    · have HH := Lib.hid (headIs_nil s h0 45)
      have h0' : s.size = 0 := by omega
      go_wp2_with fail
      go_meet
      exact ⟨by rw [HH.out], rfl⟩
  case rest =>
    obtain ⟨rfl, hw⟩ := hcut
    subst hw
    obtain ⟨ng, hng⟩ : ∃ b, headIs s.data.toList 45 = b := ⟨_, rfl⟩
    rw [hng]
    have HNG := Lib.hid hng
    clear hng
    go_upto_if 12 with fail
    go_cut [0] (fun s0 wy => ∃ m : ByteArray, s0 = .string m ∧ m.data.toList = stripL s.data.toList ∧ m.size ≤ 4096 ∧ wy = wc)
    case first =>
      cases ng
      · go_wp2_with fail
        go_meet
        exact ⟨s, rfl, by rw [strip_of, HNG.out]; rfl, hs, rfl⟩
      · have h1 : 1 ≤ s.size := by
          rcases Nat.eq_zero_or_pos s.size with h | h
          · have := headIs_nil s (by omega) 45; rw [HNG.out] at this; cases this
          · exact h
        have h1i : (1 : Int) ≤ s.size := by omega
        go_wp2_with fail
        go_meet
        exact ⟨_, rfl, by rw [strip_of, HNG.out, if_pos rfl]; exact extract_drop' s 1 h1, Nat.le_trans (extract_size_le _ _ _) hs, rfl⟩
    case rest =>
      obtain ⟨m, rfl, hm, hml, rfl⟩ := hcut
      have HM := Lib.hid hm
      obtain ⟨n, hn⟩ : ∃ n, (m.data.toList.takeWhile digitB).length = n := ⟨_, rfl⟩
      have HNL := Lib.hid hn
      have hnm : n ≤ m.size := by rw [← hn, Lib.size_eq]; exact (List.takeWhile_prefix digitB (l := m.data.toList)).length_le
      have hall := plain_all _ _ hn
      have HR := Lib.hid (fun wx => rrun_any m hml hn wx)
      -- plain: all digits, some, no 0 ahead
      have hpl : P = (decide (n = m.size) && !decide (m.size = 0) && (decide (m.size = 1) || !headIs m.data.toList 48)) := by
        rw [← HP.out]; unfold plainB; rw [← hm, hall, ← Lib.size_eq]
        have e1 : m.data.toList.isEmpty = decide (m.size = 0) := by
          rw [Bool.eq_iff_iff, decide_eq_true_iff, List.isEmpty_iff, Lib.size_eq]; exact List.length_eq_zero_iff.symm
        have e2 : (m.data.toList.length == 1) = decide (m.size = 1) := by rw [← Lib.size_eq, Bool.eq_iff_iff]; simp
        rw [e1]
        by_cases hm0 : m.size = 0
        · simp [hm0]
        · have e3 : (m.data.toList.headD 0 != 48) = !headIs m.data.toList 48 := by
            cases hx : m.data.toList with
            | nil => rw [Lib.size_eq, hx] at hm0; exact absurd rfl hm0
            | cons c r => rfl
          rw [e3]
          rfl
      have HPL := Lib.hid hpl
      clear hm hpl hall
      go_wp2_with fail
      refine (HR.out _).mono ?_
      rintro e w1 ⟨rfl, rfl⟩
      have hcons : n = 0 ∨ m.size ≠ 0 := by omega
      go_upto_region 4 with fail
      go_cut [27] (fun s27 wy => s27 = .bool (decide (n = 0) || (decide (1 < n) && headIs m.data.toList 48)) ∧ wy = wc)
      case first =>
        by_cases hn0 : n = 0
        · have hn0i : (n : Int) = 0 := by omega
          go_wp2_with fail
          go_meet
          exact ⟨by simp [hn0], rfl⟩
        · have hn0i : ((n : Int) == 0) = false := by simp; omega
          by_cases hn1 : 1 < n
          · have hn1i : (1 : Int) < n := by omega
            have h0 : 0 < m.size := by omega
            have h0i : (0 : Int) < m.size := by omega
            obtain ⟨b, hb⟩ : ∃ b, (((m[0]'h0).toNat : Int) == 48) = b := ⟨_, rfl⟩
            have HH := Lib.hid ((headIs_get m h0 48).trans hb)
            go_wp2_with fail
            go_meet
            exact ⟨by rw [HH.out]; simp [hn0, hn1], rfl⟩
          · have hn1i : (n : Int) ≤ 1 := by omega
            go_wp2_with fail
            go_meet
            exact ⟨by simp [hn0, hn1], rfl⟩
      case rest =>
        obtain ⟨rfl, hw⟩ := hcut
        subst hw
        obtain ⟨bd, hbd⟩ : ∃ b, (decide (n = 0) || (decide (1 < n) && headIs m.data.toList 48)) = b := ⟨_, rfl⟩
        rw [hbd]
        have HBD := Lib.hid hbd
        clear hbd
        cases bd with
        | true =>
          go_wp2_with fail
          go_ret
          refine ⟨rfl, 0, rfl, .inl rfl, ⟨(fun h => by cases h), fun h => ?_⟩⟩
          exfalso
          have h1 := HPL.out
          have h2 := HBD.out
          rw [h] at h1
          have h1 := h1.symm
          simp only [Bool.and_eq_true, decide_eq_true_eq, Bool.not_eq_true', decide_eq_false_iff_not, Bool.or_eq_true] at h1 h2
          obtain ⟨⟨h3, h4⟩, h5⟩ := h1
          rcases h2 with h2 | ⟨h2, h6⟩
          · omega
          · rw [h6] at h5
            rcases h5 with h5 | h5
            · omega
            · cases h5
        | false =>
          have hbf := HBD.out
          simp only [Bool.or_eq_false_iff, decide_eq_false_iff_not, Bool.and_eq_false_iff] at hbf
          obtain ⟨hn0, hn48⟩ := hbf
          have hnmi : (n : Int) ≤ m.size := by omega
          obtain ⟨y, hy⟩ : ∃ y, m.extract n m.size = y := ⟨_, rfl⟩
          have hyd : y.data.toList = m.data.toList.drop n := by rw [← hy]; exact extract_drop' m n hnm
          have hys : y.size = m.size - n := by rw [Lib.size_eq, hyd, List.length_drop, ← Lib.size_eq]
          have hyl : y.size ≤ 4096 := by omega
          have hpy : P = true ↔ y.size = 0 := by
            rw [HPL.out]
            have h0 : ¬ m.size = 0 := by omega
            simp only [h0, decide_false, Bool.not_false, Bool.and_true, Bool.and_eq_true, decide_eq_true_eq, Bool.or_eq_true, Bool.not_eq_true']
            constructor
            · intro h; omega
            · intro h
              refine ⟨by omega, ?_⟩
              rcases hn48 with h1 | h1
              · left; omega
              · exact .inr h1
          have HPY := Lib.hid hpy
          clear hyd hys hpy hn48
          go_upto_region 8 with fail
          clear hy
          go_cut [38] (fun s38 wy => s38 = .bool (headIs y.data.toList 46) ∧ wy = wc)
          case first =>
            by_cases h0 : 0 < y.size
            · have h0i : (0 : Int) < y.size := by omega
              obtain ⟨b, hb⟩ : ∃ b, (((y[0]'h0).toNat : Int) == 46) = b := ⟨_, rfl⟩
              have HH := Lib.hid ((headIs_get y h0 46).trans hb)
              go_wp2_with fail
              go_meet
              exact ⟨by rw [HH.out], rfl⟩
            · have HH := Lib.hid (headIs_nil y h0 46)
              have h0' : y.size = 0 := by omega
              go_wp2_with fail
              go_meet
              exact ⟨by rw [HH.out], rfl⟩
          case rest =>
            obtain ⟨rfl, hw⟩ := hcut
            subst hw
            obtain ⟨dt, hdt⟩ : ∃ b, headIs y.data.toList 46 = b := ⟨_, rfl⟩
            rw [hdt]
            have HDT := Lib.hid hdt
            clear hdt
            go_upto_if 38 with fail
            go_cut [0, 3, 4] (fun s0 s3 s4 wy => ∃ (y2 : ByteArray) (f : Int), s0 = .string y2 ∧ y2.size ≤ 4096 ∧ s4 = .int .i64 f ∧ ((f = 2 ∧ y.size ≠ 0) ∨ (f = 1 ∧ y2 = y)) ∧ wy = wc)
            case first =>
              cases dt
              · go_wp2_with fail
                go_meet
                exact ⟨y, 1, rfl, hyl, rfl, .inr ⟨rfl, rfl⟩, rfl⟩
              · have h1 : 1 ≤ y.size := by
                  rcases Nat.eq_zero_or_pos y.size with h | h
                  · have := headIs_nil y (by omega) 46; rw [HDT.out] at this; cases this
                  · exact h
                have h1i : (1 : Int) ≤ y.size := by omega
                obtain ⟨n2, hn2⟩ : ∃ n2, ((y.extract 1 y.size).data.toList.takeWhile digitB).length = n2 := ⟨_, rfl⟩
                have hn2l : n2 + 1 ≤ y.size := by
                  have h2 := (List.takeWhile_prefix digitB (l := (y.extract 1 y.size).data.toList)).length_le
                  rw [hn2, extract_drop' y 1 h1, List.length_drop, ← Lib.size_eq] at h2
                  omega
                have HR2 := Lib.hid (fun wx => rrun_any (y.extract 1 y.size) (Nat.le_trans (extract_size_le _ _ _) hyl) hn2 wx)
                have hn2i : (n2 : Int) + 1 ≤ y.size := by omega
                clear hn2
                go_wp2_with fail
                refine (HR2.out _).mono ?_
                rintro e w2 ⟨rfl, rfl⟩
                by_cases hz : n2 = 0
                · have hzi : (n2 : Int) = 0 := by omega
                  go_wp2_with fail
                  go_ret
                  refine ⟨rfl, 0, rfl, .inl rfl, ⟨(fun h => by cases h), fun h => ?_⟩⟩
                  have := HPY.out.1 h; omega
                · have hzi : ((n2 : Int) == 0) = false := by simp; omega
                  go_wp2_with fail
                  go_meet
                  exact ⟨_, 2, rfl, Nat.le_trans (extract_size_le _ _ _) hyl, rfl, .inl ⟨rfl, by omega⟩, rfl⟩
            case rest =>
              obtain ⟨y2, f, rfl, hy2l, rfl, hf, hw⟩ := hcut
              subst hw
              have HF := Lib.hid hf
              clear hf
              go_upto_region 14 with fail
              go_cut [60] (fun s60 wy => s60 = .bool (headIs y2.data.toList 101 || headIs y2.data.toList 69) ∧ wy = wc)
              case first =>
                by_cases h0 : 0 < y2.size
                · have h0i : (0 : Int) < y2.size := by omega
                  by_cases h101 : ((((y2[0]'h0).toNat : Nat) : Int) == 101) = true
                  · have HH := Lib.hid ((headIs_get y2 h0 101).trans h101)
                    go_wp2_with fail
                    go_meet
                    exact ⟨by rw [HH.out]; rfl, rfl⟩
                  · have h101' : ((((y2[0]'h0).toNat : Nat) : Int) == 101) = false := Bool.eq_false_iff.2 h101
                    obtain ⟨b, hb⟩ : ∃ b, (((y2[0]'h0).toNat : Int) == 69) = b := ⟨_, rfl⟩
                    have HH := Lib.hid (And.intro ((headIs_get y2 h0 101).trans h101') ((headIs_get y2 h0 69).trans hb))
                    clear h101
                    go_wp2_with fail
                    go_meet
                    exact ⟨by rw [HH.out.1, HH.out.2]; rfl, rfl⟩
                · have HH := Lib.hid (And.intro (headIs_nil y2 h0 101) (headIs_nil y2 h0 69))
                  have h0' : y2.size = 0 := by omega
                  go_wp2_with fail
                  go_meet
                  exact ⟨by rw [HH.out.1, HH.out.2]; rfl, rfl⟩
              case rest =>
                obtain ⟨rfl, hw⟩ := hcut
                subst hw
                obtain ⟨ex, hex⟩ : ∃ b, (headIs y2.data.toList 101 || headIs y2.data.toList 69) = b := ⟨_, rfl⟩
                rw [hex]
                have HEX := Lib.hid hex
                clear hex
                go_upto_if 60 with fail
                go_cut [0, 3, 4] (fun s0 s3 s4 wy => ∃ (y3 : ByteArray) (f : Int), s0 = .string y3 ∧ s4 = .int .i64 f ∧ ((f = 2 ∧ y.size ≠ 0) ∨ (f = 1 ∧ y3 = y)) ∧ wy = wc)
                case first =>
                  cases ex
                  · go_wp2_with fail
                    go_meet
                    exact ⟨y2, f, rfl, rfl, HF.out, rfl⟩
                  · have h1 : 1 ≤ y2.size := by
                      rcases Nat.eq_zero_or_pos y2.size with h | h
                      · have e1 := headIs_nil y2 (by omega) 101
                        have e2 := headIs_nil y2 (by omega) 69
                        have := HEX.out
                        rw [e1, e2] at this; cases this
                      · exact h
                    have h1i : (1 : Int) ≤ y2.size := by omega
                    have hyne : y.size ≠ 0 := by
                      rcases HF.out with ⟨_, h⟩ | ⟨_, h⟩
                      · exact h
                      · rw [← h]; omega
                    obtain ⟨z, hz⟩ : ∃ z, y2.extract 1 y2.size = z := ⟨_, rfl⟩
                    have hzl : z.size ≤ 4096 := by rw [← hz]; exact Nat.le_trans (extract_size_le _ _ _) hy2l
                    go_upto_region 17 with fail
                    clear hz
                    go_cut [75] (fun s75 wy => s75 = .bool (headIs z.data.toList 43 || headIs z.data.toList 45) ∧ wy = wc)
                    case first =>
                      by_cases h0 : 0 < z.size
                      · have h0i : (0 : Int) < z.size := by omega
                        by_cases h101 : ((((z[0]'h0).toNat : Nat) : Int) == 43) = true
                        · have HH := Lib.hid ((headIs_get z h0 43).trans h101)
                          go_wp2_with fail
                          go_meet
                          exact ⟨by rw [HH.out]; rfl, rfl⟩
                        · have h101' : ((((z[0]'h0).toNat : Nat) : Int) == 43) = false := Bool.eq_false_iff.2 h101
                          obtain ⟨b, hb⟩ : ∃ b, (((z[0]'h0).toNat : Int) == 45) = b := ⟨_, rfl⟩
                          have HH := Lib.hid (And.intro ((headIs_get z h0 43).trans h101') ((headIs_get z h0 45).trans hb))
                          clear h101
                          go_wp2_with fail
                          go_meet
                          exact ⟨by rw [HH.out.1, HH.out.2]; rfl, rfl⟩
                      · have HH := Lib.hid (And.intro (headIs_nil z h0 43) (headIs_nil z h0 45))
                        have h0' : z.size = 0 := by omega
                        go_wp2_with fail
                        go_meet
                        exact ⟨by rw [HH.out.1, HH.out.2]; rfl, rfl⟩
                    case rest =>
                      obtain ⟨rfl, hw⟩ := hcut
                      subst hw
                      obtain ⟨sg, hsg⟩ : ∃ b, (headIs z.data.toList 43 || headIs z.data.toList 45) = b := ⟨_, rfl⟩
                      rw [hsg]
                      have HSG := Lib.hid hsg
                      clear hsg
                      go_upto_if 75 with fail
                      go_cut [0] (fun s0 wy => ∃ u : ByteArray, s0 = .string u ∧ u.size ≤ 4096 ∧ wy = wc)
                      case first =>
                        cases sg
                        · go_wp2_with fail
                          go_meet
                          exact ⟨z, rfl, hzl, rfl⟩
                        · have h1 : 1 ≤ z.size := by
                            rcases Nat.eq_zero_or_pos z.size with h | h
                            · have e1 := headIs_nil z (by omega) 43
                              have e2 := headIs_nil z (by omega) 45
                              have := HSG.out
                              rw [e1, e2] at this; cases this
                            · exact h
                          have h1i : (1 : Int) ≤ z.size := by omega
                          go_wp2_with fail
                          go_meet
                          exact ⟨_, rfl, Nat.le_trans (extract_size_le _ _ _) hzl, rfl⟩
                      case rest =>
                        obtain ⟨u, rfl, hul, hw⟩ := hcut
                        subst hw
                        obtain ⟨n3, hn3⟩ : ∃ n3, (u.data.toList.takeWhile digitB).length = n3 := ⟨_, rfl⟩
                        have hn3l : n3 ≤ u.size := by
                          rw [← hn3, Lib.size_eq]; exact (List.takeWhile_prefix digitB (l := u.data.toList)).length_le
                        have HR3 := Lib.hid (fun wx => rrun_any u hul hn3 wx)
                        have hn3i : (n3 : Int) ≤ u.size := by omega
                        clear hn3
                        go_wp2_with fail
                        refine (HR3.out _).mono ?_
                        rintro e w2 ⟨rfl, rfl⟩
                        by_cases hz : n3 = 0
                        · have hzi : (n3 : Int) = 0 := by omega
                          go_wp2_with fail
                          go_ret
                          refine ⟨rfl, 0, rfl, .inl rfl, ⟨(fun h => by cases h), fun h => ?_⟩⟩
                          exact absurd (HPY.out.1 h) hyne
                        · have hzi : ((n3 : Int) == 0) = false := by simp; omega
                          go_wp2_with fail
                          go_meet
                          exact ⟨_, 2, rfl, rfl, .inl ⟨rfl, hyne⟩, rfl⟩
                case rest =>
                  obtain ⟨y3, f3, rfl, rfl, hf3, hw⟩ := hcut
                  subst hw
                  have HF3 := Lib.hid hf3
                  clear hf3
                  by_cases h0 : 0 < y3.size
                  · have hxe : y3.toList.isEmpty = false := by rw [Lib.toList_data, List.isEmpty_eq_false_iff]; exact ne_nil_of_size h0
                    go_wp2_with fail
                    go_ret
                    refine ⟨rfl, 0, rfl, .inl rfl, ⟨(fun h => by cases h), fun h => ?_⟩⟩
                    exfalso
                    have h2 := HPY.out.1 h
                    rcases HF3.out with ⟨_, h3⟩ | ⟨_, h3⟩
                    · exact h3 h2
                    · rw [h3] at h0; omega
                  · have hxn := nil_of_size h0
                    go_wp2_with fail
                    go_ret
                    refine ⟨rfl, f3, rfl, ?_, ?_⟩
                    · rcases HF3.out with ⟨h3, _⟩ | ⟨h3, _⟩
                      · exact .inr (.inr h3)
                      · exact .inr (.inl h3)
                    · rw [HPY.out]
                      rcases HF3.out with ⟨h3, h4⟩ | ⟨h3, h4⟩
                      · rw [h3]; exact ⟨(fun h => by cases h), fun h => absurd h h4⟩
                      · rw [h3]; exact ⟨fun _ => by rw [← h4]; omega, fun _ => rfl⟩

end Toc

namespace Toc
open Go Go.RowKit Go.Proofs

def numericI (z : Int) : Bool := digitI z || z == 43 || z == 45 || z == 46 || z == 101 || z == 69
theorem numericI_of (c : UInt8) : numericI (c.toNat : Int) = numericB c := by
  have : ∀ k : Fin 256, numericI ((UInt8.ofNat k.val).toNat : Int) = numericB (UInt8.ofNat k.val) := by decide +kernel
  have h := this ⟨c.toNat, c.toNat_lt⟩
  simpa using h
theorem numericI_cases {z : Int} (h : numericI z = true) : digitI z = true ∨ z = 43 ∨ z = 45 ∨ z = 46 ∨ z = 101 ∨ z = 69 := by
  unfold numericI at h
  simp only [Bool.or_eq_true, beq_iff_eq] at h
  rcases h with ((((h | h) | h) | h) | h) | h
  · exact .inl h
  · exact .inr (.inl h)
  · exact .inr (.inr (.inl h))
  · exact .inr (.inr (.inr (.inl h)))
  · exact .inr (.inr (.inr (.inr (.inl h))))
  · exact .inr (.inr (.inr (.inr (.inr h))))
theorem numericI_not {z : Int} (h : numericI z = false) : digitI z = false ∧ (z != 43) = true ∧ (z != 45) = true ∧ (z != 46) = true ∧ (z != 101) = true ∧ (z != 69) = true := by
  unfold numericI at h
  simp only [Bool.or_eq_false_iff] at h
  obtain ⟨⟨⟨⟨⟨h0, h1⟩, h2⟩, h3⟩, h4⟩, h5⟩ := h
  refine ⟨h0, ?_, ?_, ?_, ?_, ?_⟩ <;> simp_all

theorem sign_of (t : Bytes) (a b : Int) : (match t with | 45 :: _ => a | _ => b) = if headIs t 45 then a else b := by
  cases t with
  | nil => rfl
  | cons c r =>
    by_cases h : c = 45
    · subst h; rfl
    · rw [show headIs (c :: r) 45 = false by simpa [headIs] using h]
      split
      · rename_i e; cases e; try exact absurd rfl h
      · rfl
theorem numOf_plain (t : Bytes) : numOf t = if plainB t = true ∧ decNat (stripL t) ≤ 9007199254740991 then some (if headIs t 45 then -(decNat (stripL t) : Int) else (decNat (stripL t) : Int)) else none := by
  have e : ∀ m : Bytes, (m.all digitB && !m.isEmpty && (m.length == 1 || m.headD 0 != 48) && decide (decNat m ≤ 9007199254740991)) = decide ((m.all digitB && !m.isEmpty && (m.length == 1 || m.headD 0 != 48)) = true ∧ decNat m ≤ 9007199254740991) := fun m => by
    rw [Bool.eq_iff_iff, Bool.and_eq_true, decide_eq_true_iff, decide_eq_true_iff]
  have k : numOf t = if ((stripL t).all digitB && !(stripL t).isEmpty && ((stripL t).length == 1 || (stripL t).headD 0 != 48) && decide (decNat (stripL t) ≤ 9007199254740991)) = true then some (match t with | 45 :: _ => -(decNat (stripL t) : Int) | _ => (decNat (stripL t) : Int)) else none := rfl
  rw [k, e (stripL t), sign_of]
  simp only [decide_eq_true_eq]
  rfl

theorem decNat_snoc (l : Bytes) (c : UInt8) : decNat (l ++ [c]) = 10 * decNat l + (c.toNat - 48) := by
  unfold decNat; rw [List.foldl_append]; rfl
theorem decNat_le : ∀ (b a : Bytes), decNat a ≤ decNat (a ++ b)
  | [], a => by simp
  | c :: b, a => by
    have h1 := decNat_le b (a ++ [c])
    rw [List.append_assoc, decNat_snoc] at h1
    have h2 : a ++ ([c] ++ b) = a ++ c :: b := rfl
    rw [h2] at h1
    omega

/-- The digits among the first i signs. -/
def dgs (t : Bytes) (i : Nat) : Bytes := (t.take i).filter fun c => c != 45
theorem dgs_step {t : Bytes} {i : Nat} {c : UInt8} (h : t[i]? = some c) : dgs t (i + 1) = dgs t i ++ (if c = 45 then [] else [c]) := by
  unfold dgs
  rw [List.take_add_one, h]
  by_cases hc : c = 45
  · simp [hc]
  · simp [hc]
theorem dgs_all {t : Bytes} (h : plainB t = true) : dgs t t.length = stripL t ∧ ∀ c ∈ t, c = 45 ∨ digitB c = true := by
  unfold plainB at h
  simp only [Bool.and_eq_true] at h
  have hd := List.all_eq_true.1 h.1.1
  have hf : (stripL t).filter (fun c => c != 45) = stripL t := List.filter_eq_self.2 fun c hc => by
    have := hd c hc
    simp only [bne_iff_ne, ne_eq]
    intro e; subst e; exact absurd this (by decide)
  unfold dgs
  rw [List.take_length]
  cases t with
  | nil => exact ⟨rfl, fun _ h => by simp at h⟩
  | cons c r =>
    by_cases hc : c = 45
    · subst hc
      refine ⟨?_, fun c hc => ?_⟩
      · rw [List.filter_cons, if_neg (by decide)]; exact hf
      · rcases List.mem_cons.1 hc with h | h
        · exact .inl h
        · exact .inr (hd c h)
    · have hst : stripL (c :: r) = c :: r := by
        rw [strip_of, show headIs (c :: r) 45 = false by simpa [headIs] using hc]; rfl
      rw [hst] at hf hd
      exact ⟨by rw [hst]; exact hf, fun x hx => .inr (hd x hx)⟩
theorem dgs_prefix (t : Bytes) (i : Nat) : ∃ b, dgs t t.length = dgs t i ++ b := by
  refine ⟨(t.drop i).filter fun c => c != 45, ?_⟩
  unfold dgs
  rw [List.take_length, ← List.filter_append, List.take_append_drop]

end Toc

namespace Toc
open Go Go.RowKit Go.Proofs

set_option maxRecDepth 100000 in
set_option maxHeartbeats 8000000 in
theorem rnumber_any (C : RC) (w : World) (i d : Nat) (h : Rd C w i d) {o : Option (JV × Bytes)} (ho : numberL (C.bs.drop i) = o) :
    Calls Tryz.prog 221 #[ptrV C.pb] w fun x w' => RValOf C w d o x w' := by
  have H := Lib.hid h
  have HO := Lib.hid ho
  obtain ⟨_, c1, _, _, _⟩ := h.cells
  clear h ho
  go_enter Tryz.func221, Tryz.ntmps221
  go_wp2_with fail
  go_loopw [] (fun wr => ∃ k : Nat, Rd C wr k d ∧ (C.bs.drop i).takeWhile numericB = (C.bs.drop i).take (k - i) ++ (C.bs.drop k).takeWhile numericB ∧ i ≤ k ∧ Turns [C.pb] w wr) (fun wr => C.s.size - iOf C wr)
  case atStart => exact ⟨i, H.out, by simp, Nat.le_refl _, Turns.refl _ _⟩
  case round =>
    obtain ⟨k, hR, hsk, hik, hT⟩ := hrel
    have HR := Lib.hid hR
    have HK := Lib.hid hsk
    have HT := Lib.hid hT
    have hle := hR.le
    have hsm := hR.small
    obtain ⟨z, hz⟩ : ∃ z, nextV C.bs k = z := ⟨_, rfl⟩
    obtain ⟨b, hb⟩ : ∃ b, digitI z = b := ⟨_, rfl⟩
    have HN := Lib.hid (next_good C wr k d hR hz)
    have HL := Lib.hid (fun wx => rdigit_any z hb wx)
    have HZ := Lib.hid hz
    clear hR hsk hT hz
    cases hnum : numericI z with
    | true =>
      obtain ⟨c, hc⟩ : ∃ c, C.bs[k]? = some c := by
        cases hx : C.bs[k]? with
        | none =>
          have h1 := HZ.out; unfold nextV at h1; rw [hx] at h1
          rw [← h1] at hnum; exact absurd hnum (by decide)
        | some c => exact ⟨c, rfl⟩
      have hlt : k < C.s.size := by rw [Lib.size_eq]; exact (List.getElem?_eq_some_iff.1 hc).1
      have hlc : numericB c = true := by rw [← numericI_of, ← nextV_some hc, HZ.out]; exact hnum
      have HST := Lib.hid (scan_step hc hlc HK.out hik)
      have hcs := numericI_cases hnum
      rw [hb] at hcs
      clear hc hlc hnum
      have hcs' : b = true ∨ (b = false ∧ z = 43) ∨ (b = false ∧ z = 45) ∨ (b = false ∧ z = 46) ∨ (b = false ∧ z = 101) ∨ (b = false ∧ z = 69) := by
        rcases hcs with h | rfl | rfl | rfl | rfl | rfl
        · exact .inl h
        · exact .inr (.inl ⟨by rw [← hb]; decide, rfl⟩)
        · exact .inr (.inr (.inl ⟨by rw [← hb]; decide, rfl⟩))
        · exact .inr (.inr (.inr (.inl ⟨by rw [← hb]; decide, rfl⟩)))
        · exact .inr (.inr (.inr (.inr (.inl ⟨by rw [← hb]; decide, rfl⟩))))
        · exact .inr (.inr (.inr (.inr (.inr ⟨by rw [← hb]; decide, rfl⟩))))
      clear hcs hb
      rcases hcs' with rfl | ⟨rfl, rfl⟩ | ⟨rfl, rfl⟩ | ⟨rfl, rfl⟩ | ⟨rfl, rfl⟩ | ⟨rfl, rfl⟩
      all_goals
        go_wp2_with fail
        refine HN.out.mono ?_
        rintro e w1 ⟨rfl, hb1⟩
        have hR1 := HR.out.below hb1
        have HR1 := Lib.hid hR1
        have HT1 := Lib.hid (HT.out.trans (Turns.below hb1))
        obtain ⟨_, c1, _, _, z1⟩ := hR1.cells
        clear hb1 hR1
        go_wp2_with fail
        refine (HL.out _).mono ?_
        rintro e w2 ⟨rfl, rfl⟩
        go_wp2_with fail
        go_roundw
        case rel => exact ⟨k + 1, HR1.out.step (k + 1) hlt, HST.out, by omega, HT1.out.trans (turns_set _ _ _ _)⟩
        case measure => rw [iOf_of HR.out, show ((k : Int) + 1) = ((k + 1 : Nat) : Int) by omega, iOf_of (HR1.out.step (k + 1) hlt)]; omega
    | false =>
      have hno : ∀ c, C.bs[k]? = some c → numericB c = false := fun c hc => by rw [← numericI_of, ← nextV_some hc, HZ.out]; exact hnum
      obtain ⟨e1, e2⟩ := scan_end hno HK.out hik
      have HE := Lib.hid (And.intro e1 e2)
      obtain ⟨hd0, n1, n2, n3, n4, n5⟩ := numericI_not hnum
      rw [hb] at hd0
      subst hd0
      clear hno e1 e2 hb hnum
      go_wp2_with fail
      refine HN.out.mono ?_
      rintro e w1 ⟨rfl, hb1⟩
      have hR1 := HR.out.below hb1
      have HR1 := Lib.hid hR1
      have HT1 := Lib.hid (HT.out.trans (Turns.below hb1))
      obtain ⟨c0, c1, _, _, z1⟩ := hR1.cells
      clear hb1 hR1
      go_wp2_with fail
      refine (HL.out _).mono ?_
      rintro e w2 ⟨rfl, rfl⟩
      go_wp2_with fail
      go_quiet (fail)
      generalize htx : C.s.extract i k = tx at *
      have htl : tx.data.toList = (C.bs.drop i).takeWhile numericB := by rw [← htx, slice_take, HE.out.1]
      have htz : tx.size ≤ 4096 := by rw [← htx]; exact Nat.le_trans (extract_size_le _ _ _) hsm
      have hoo : o = (numOf tx.data.toList).map fun n => (JV.int n, C.bs.drop k) := by
        rw [← HO.out]; unfold numberL; rw [htl, HE.out.2]
      have HOO := Lib.hid hoo
      clear htx htl hoo n1 n2 n3 n4 n5 c0 c1 z1
      obtain ⟨P, hP⟩ : ∃ P, plainB tx.data.toList = P := ⟨_, rfl⟩
      have HF := Lib.hid (fun wx => rform_any tx htz hP wx)
      have HP := Lib.hid hP
      have HR2 := Lib.hid (HR1.out.below (below_drewN w1 nq))
      have HT2 := Lib.hid (HT1.out.drewN nq)
      clear hP
      generalize w1.drewN nq = w2 at *
      go_wp2_with fail
      refine (HF.out _).mono ?_
      rintro e w3 ⟨rfl, kf, rfl, hk3, hkP⟩
      have HKP := Lib.hid hkP
      clear hkP
      rcases hk3 with rfl | hk12
      · have hP : P = false := by cases P with
          | true => exact absurd (HKP.out.2 rfl) (by decide)
          | false => rfl
        have ho : o = none := by
          rw [HOO.out, numOf_plain, HP.out, hP, if_neg (by simp)]; rfl
        subst ho
        go_wp2_with fail
        refine (fail_good C _ k d HR2.out i 20 (by decide)).mono ?_
        rintro e w4 ⟨rfl, hB, hT⟩
        have HT3 := Lib.hid (HT2.out.trans hT)
        have HB3 := Lib.hid hB
        clear hB hT
        go_wp2_with fail
        go_ret
        exact ⟨HT3.out, none, rfl, HB3.out⟩
      · have hkf0 : (kf == 0) = false := by simp; omega
        rcases hk12 with rfl | rfl
        · -- a whole number
          have hP : P = true := HKP.out.1 rfl
          subst hP
          obtain ⟨hda, hdig⟩ := dgs_all HP.out
          have HDA := Lib.hid hda
          have HDG := Lib.hid hdig
          clear hda hdig
          have hne : 0 < tx.size := by
            rcases Nat.eq_zero_or_pos tx.size with h | h
            · have h0 : tx.data.toList = [] := List.eq_nil_of_length_eq_zero (by rw [← Lib.size_eq]; exact h)
              have h1 := HP.out
              rw [h0] at h1; exact absurd h1 (by decide)
            · exact h
          go_wp2_with fail
          go_loopw [8, 9] (fun s8 s9 wr => ∃ j nn : Nat, s8 = .int .i64 nn ∧ s9 = .int .i64 j ∧ j ≤ tx.size ∧ decNat (dgs tx.data.toList j) = nn ∧ nn ≤ 90071992547409919 ∧ wr = w2) (fun _ s9 _ => match s9 with | .int _ x => tx.size - x.toNat | _ => 0)
          case atStart => exact ⟨0, 0, rfl, rfl, Nat.zero_le _, rfl, by omega, rfl⟩
          case round =>
            obtain ⟨j, nn, rfl, rfl, hj, hnn, hnb, rfl⟩ := hrel
            have HNN := Lib.hid hnn
            clear hnn
            have hbig : 9007199254740991 < nn → o = none := fun hb => by
              obtain ⟨b, hb2⟩ := dgs_prefix tx.data.toList j
              rw [HDA.out] at hb2
              have h1 := decNat_le b (dgs tx.data.toList j)
              rw [← hb2, HNN.out] at h1
              rw [HOO.out, numOf_plain, if_neg (by rintro ⟨_, h⟩; omega)]; rfl
            have HBIG := Lib.hid hbig
            clear hbig
            by_cases hlt : j < tx.size
            · by_cases hn : nn ≤ 9007199254740991
              · have hni : (nn : Int) ≤ 9007199254740991 := by omega
                obtain ⟨c, hc⟩ : ∃ c, tx[j]'hlt = c := ⟨_, rfl⟩
                have hcl : tx.data.toList[j]? = some c := by rw [← hc]; exact List.getElem?_eq_getElem (by rw [← Lib.size_eq]; exact hlt)
                have hst := dgs_step hcl
                have hdc := HDG.out c (List.mem_of_getElem? hcl)
                have HST := Lib.hid hst
                clear hcl hst
                by_cases h45 : c = 45
                · have h45' : ((c.toNat : Int) != 45) = false := by rw [h45]; rfl
                  go_wp2_with fail
                  go_roundw
                  case rel => exact ⟨j + 1, nn, rfl, by simp, hlt, by rw [HST.out, if_pos h45, List.append_nil]; exact HNN.out, hnb, by first | rfl | trivial⟩
                  case measure => simp; omega
                · have hcd : 48 ≤ c.toNat ∧ c.toNat ≤ 57 := by
                    rcases hdc with h | h
                    · exact absurd h h45
                    · unfold digitB at h
                      simp only [Bool.and_eq_true, decide_eq_true_eq] at h
                      exact ⟨UInt8.le_iff_toNat_le.1 h.1, UInt8.le_iff_toNat_le.1 h.2⟩
                  have h45' : ((c.toNat : Int) != 45) = true := by simp only [bne_iff_ne, ne_eq]; omega
                  obtain ⟨hc1, hc2⟩ := hcd
                  go_wp2_with fail
                  go_roundw
                  case rel => exact ⟨j + 1, 10 * nn + (c.toNat - 48), by congr 1; omega, by simp, hlt, by rw [HST.out, if_neg h45, decNat_snoc, HNN.out], by omega, by first | rfl | trivial⟩
                  case measure => simp; omega
              · have hni : 9007199254740991 < (nn : Int) := by omega
                have ho := HBIG.out (by omega)
                subst ho
                go_wp2_with fail
                refine (fail_good C _ k d HR2.out i 23 (by decide)).mono ?_
                rintro e w4 ⟨rfl, hB, hT⟩
                have HT3 := Lib.hid (HT2.out.trans hT)
                have HB3 := Lib.hid hB
                clear hB hT
                go_wp2_with fail
                go_ret
                exact ⟨HT3.out, none, rfl, HB3.out⟩
            · have hje : j = tx.size := by omega
              subst hje
              have hfull : decNat (stripL tx.data.toList) = nn := by rw [← HDA.out, ← HNN.out, ← Lib.size_eq]
              by_cases hn : nn ≤ 9007199254740991
              · have hni : (nn : Int) ≤ 9007199254740991 := by omega
                obtain ⟨c, hc⟩ : ∃ c, tx[0]'hne = c := ⟨_, rfl⟩
                have hh := headIs_get tx hne 45
                rw [hc] at hh
                have HH := Lib.hid hh
                clear hh
                by_cases h45 : ((c.toNat : Int) == 45) = true
                · have ho : o = some (JV.int (-(nn : Int)), C.bs.drop k) := by
                    rw [HOO.out, numOf_plain, if_pos ⟨HP.out, by omega⟩, hfull, HH.out, show ((c.toNat : Int) == ((45 : UInt8).toNat : Int)) = true from h45]; rfl
                  subst ho
                  clear HH hfull
                  go_wp2_with fail
                  go_ret
                  refine ⟨HT2.out.alloc _, k, _, rfl, HR2.out.below ((Below.refl _ _).alloc (Nat.le_refl _) _), rfl, MadeR.one (by have := HT2.out.size; exact this) (blk_new _ _) (fun r h => ?_)⟩
                  refine .int ?_
                  rw [h]
                  simp [rvObj]
                · have h45' : ((c.toNat : Int) == 45) = false := Bool.eq_false_iff.2 h45
                  have ho : o = some (JV.int (nn : Int), C.bs.drop k) := by
                    rw [HOO.out, numOf_plain, if_pos ⟨HP.out, by omega⟩, hfull, HH.out, show ((c.toNat : Int) == ((45 : UInt8).toNat : Int)) = false from h45']; rfl
                  subst ho
                  clear HH h45 hfull
                  go_wp2_with fail
                  go_ret
                  refine ⟨HT2.out.alloc _, k, _, rfl, HR2.out.below ((Below.refl _ _).alloc (Nat.le_refl _) _), rfl, MadeR.one (by have := HT2.out.size; exact this) (blk_new _ _) (fun r h => .int h)⟩
              · have hni : 9007199254740991 < (nn : Int) := by omega
                have ho := HBIG.out (by omega)
                subst ho
                go_wp2_with fail
                refine (fail_good C _ k d HR2.out i 23 (by decide)).mono ?_
                rintro e w4 ⟨rfl, hB, hT⟩
                have HT3 := Lib.hid (HT2.out.trans hT)
                have HB3 := Lib.hid hB
                clear hB hT
                go_wp2_with fail
                go_ret
                exact ⟨HT3.out, none, rfl, HB3.out⟩
        · -- with a point or a power
          have hP : P = false := by cases P with
            | true => exact absurd (HKP.out.2 rfl) (by decide)
            | false => rfl
          have ho : o = none := by
            rw [HOO.out, numOf_plain, HP.out, hP, if_neg (by simp)]; rfl
          subst ho
          go_wp2_with fail
          go_loopw [8, 9] (fun s8 s9 wr => ∃ (n : Int) (j : Nat), s8 = .int .i64 n ∧ s9 = .int .i64 j ∧ j ≤ tx.size ∧ wr = w2) (fun _ s9 _ => match s9 with | .int _ x => tx.size - x.toNat | _ => 0)
          case atStart => exact ⟨0, 0, rfl, rfl, Nat.zero_le _, rfl⟩
          case round =>
            obtain ⟨n, j, rfl, rfl, hj, rfl⟩ := hrel
            by_cases hlt : j < tx.size
            · by_cases hn : n ≤ 9007199254740991
              · obtain ⟨c, hc⟩ : ∃ c, tx[j]'hlt = c := ⟨_, rfl⟩
                by_cases h45 : ((c.toNat : Int) != 45) = true
                · go_wp2_with fail
                  go_roundw
                  case rel => exact ⟨_, j + 1, rfl, by simp, hlt, by first | rfl | trivial⟩
                  case measure => simp; omega
                · have h45' : ((c.toNat : Int) != 45) = false := Bool.eq_false_iff.2 h45
                  clear h45
                  go_wp2_with fail
                  go_roundw
                  case rel => exact ⟨n, j + 1, rfl, by simp, hlt, by first | rfl | trivial⟩
                  case measure => simp; omega
              · have hn' : 9007199254740991 < n := by omega
                go_wp2_with fail
                refine (fail_good C _ k d HR2.out i 23 (by decide)).mono ?_
                rintro e w4 ⟨rfl, hB, hT⟩
                have HT3 := Lib.hid (HT2.out.trans hT)
                have HB3 := Lib.hid hB
                clear hB hT
                go_wp2_with fail
                go_ret
                exact ⟨HT3.out, none, rfl, HB3.out⟩
            · go_wp2_with fail
              refine (fail_good C _ k d HR2.out i 23 (by decide)).mono ?_
              rintro e w4 ⟨rfl, hB, hT⟩
              have HT3 := Lib.hid (HT2.out.trans hT)
              have HB3 := Lib.hid hB
              clear hB hT
              go_wp2_with fail
              go_ret
              exact ⟨HT3.out, none, rfl, HB3.out⟩

end Toc
