/-
  Parse: The walks of jsonval's parser, its smallest parts: wrong, blanks, must, letters and digits, tokens, words.
  Parse2: The walks of jsonval's parser: must, token, words.
  Val: How a value of jsonval's lies in memory, once it is made: IsV.
  Parse3: The walks of jsonval's parser: words and numbers.
-/
import Derived.Test.YtblbdgepocfngaaGreatDoorW1
import Derived.Test.YtblbdgepocfngaaGreatDoorShelf
import Derived.Lib.SlBytesRow
namespace Toc
open Go Go.RowKit Go.Proofs

/-- A parser's place in memory, and the bytes that it reads (at least one). -/
structure PC where
  pb : Nat
  bb : Nat
  off : Nat
  cap : Nat
  bs : Bytes

abbrev PC.n (C : PC) : Nat := C.bs.length
def pObj (C : PC) (i d : Nat) : Obj := .cells #[.slice (some ⟨C.bb, C.off, none⟩) C.bs.length C.cap, .int .i64 i, .int .i64 d] 104 (0, 0)
/-- A row of bytes. -/
def BytesAt (w : World) (bb off : Nat) (bs : Bytes) : Prop :=
  ∃ arr T fr, w.heap[bb]? = some (.cells arr T fr) ∧ ∀ k (h : k < bs.length), arr[off + k]? = some (.int .u8 (bs[k]'h).toNat)

theorem BytesAt.cell {w : World} {bb off : Nat} {bs : Bytes} (h : BytesAt w bb off bs) (k : Nat) (hk : k < bs.length) : w.cell? ⟨bb, off + k, none⟩ = some (.int .u8 (bs[k]'hk).toNat) := by
  obtain ⟨arr, T, fr, hb, hc⟩ := h
  rw [blk_cell hb]; exact hc k hk

/-- As the shelf tells it. -/
theorem getElem_mkS (bs : Bytes) (k : Nat) (hk : k < (mkS bs).size) : (mkS bs)[k]'hk = bs[k]'(by rwa [size_mkS] at hk) := (getElem_list (mkS bs) k hk).symm
theorem BytesAt.lib {w : World} {bb off : Nat} {bs : Bytes} (h : BytesAt w bb off bs) : Lib.Bytes w bb off (mkS bs) := by
  intro k hk
  have e := h.cell k (by rwa [size_mkS] at hk)
  rw [← getElem_mkS bs k hk] at e
  exact e
theorem BytesAt.conv {w : World} {bb off : Nat} {bs : Bytes} (h : BytesAt w bb off bs) (j k cap : Nat) (hjk : j ≤ k) (hk : k ≤ bs.length) (q : Nat) :
    (convert 34 9 (.slice (some ⟨bb, off + j, none⟩) (k - j) cap)).run Tryz.prog (w.drewN q) = .ok (.string ((mkS bs).extract j k)) (w.drewN q) := by
  have h1 := Lib.run_convert_window (P := Tryz.prog) (w.drewN q) 34 5 9 Tryz.underlying34 Tryz.underlying5 Tryz.underlying9 bb off (mkS bs) (h.lib.drewN q) j (k - j) cap (by rw [size_mkS]; omega)
  have e : j + (k - j) = k := by omega
  rw [e] at h1
  exact h1
theorem window {bb off n cap j k : Nat} (hjk : j < k) (hk : k ≤ cap) (W : World) :
    (Instr.slice 34 (.slice (some ⟨bb, off, none⟩) n cap) (some (.int .i64 (j : Int))) (some (.int .i64 (k : Int))) none).run Tryz.prog W = .ok (.slice (some ⟨bb, off + j, none⟩) (k - j) (cap - j)) W :=
  Lib.run_slice_window W 34 5 Tryz.underlying34 Tryz.sizeOf5 bb off n cap j k hjk hk

structure PW (C : PC) (w : World) (i d : Nat) : Prop where
  at_ : w.heap[C.pb]? = some (pObj C i d)
  bytes : BytesAt w C.bb C.off C.bs
  ne : C.bb ≠ C.pb
  room : C.bs.length ≤ C.cap
  small : C.bs.length ≤ 4096
  pos : i ≤ C.bs.length
  dep : d ≤ 10
  glob : Glob w
  top : gTop ≤ C.pb

theorem PW.only {C : PC} {w w' : World} {i d j d' : Nat} (h : PW C w i d) (ho : Only [C.pb] w w') (ha : w'.heap[C.pb]? = some (pObj C j d')) (hj : j ≤ C.bs.length) (hd : d' ≤ 10) : PW C w' j d' := by
  refine ⟨ha, ?_, h.ne, h.room, h.small, hj, hd, h.glob.only ho (by simpa using h.top), h.top⟩
  obtain ⟨arr, T, fr, hb, hc⟩ := h.bytes
  exact ⟨arr, T, fr, ho.heap hb (by simpa using h.ne), hc⟩

/-- What the walk reads of a parser. -/
theorem PW.cells {C : PC} {w : World} {i d : Nat} (h : PW C w i d) :
    w.cell? ⟨C.pb, 0, none⟩ = some (.slice (some ⟨C.bb, C.off, none⟩) C.bs.length C.cap) ∧ w.cell? ⟨C.pb, 1, none⟩ = some (.int .i64 i) ∧ w.cell? ⟨C.pb, 2, none⟩ = some (.int .i64 d) ∧ w.frozen? ⟨C.pb, 1, none⟩ = false ∧ w.frozen? ⟨C.pb, 2, none⟩ = false := by
  have hb := h.at_
  unfold pObj at hb
  exact ⟨blk_cell hb 0, blk_cell hb 1, blk_cell hb 2, blk_free hb 1, blk_free hb 2⟩

theorem pObj_at {C : PC} {w : World} {i d : Nat} (h : w.heap[C.pb]? = some (pObj C i d)) (j : Nat) : (w.setCell ⟨C.pb, 1, none⟩ (.int .i64 j)).heap[C.pb]? = some (pObj C j d) := by
  have := blk_set (v := .int .i64 j) h 1
  simpa [pObj] using this
theorem pObj_dep {C : PC} {w : World} {i d : Nat} (h : w.heap[C.pb]? = some (pObj C i d)) (e : Nat) : (w.setCell ⟨C.pb, 2, none⟩ (.int .i64 e)).heap[C.pb]? = some (pObj C i e) := by
  have := blk_set (v := .int .i64 e) h 2
  simpa [pObj] using this

/-- The parser stands at place j. -/
structure Stands (C : PC) (w w' : World) (j d : Nat) : Prop where
  at_ : w'.heap[C.pb]? = some (pObj C j d)
  only : Only [C.pb] w w'
  pos : j ≤ C.bs.length

theorem Stands.pw {C : PC} {w w' : World} {i j d : Nat} (s : Stands C w w' j d) (h : PW C w i d) : PW C w' j d := h.only s.only s.at_ s.pos h.dep
theorem Stands.refl {C : PC} {w : World} {i d : Nat} (h : PW C w i d) : Stands C w w i d := ⟨h.at_, Only.refl _ _, h.pos⟩
theorem Stands.trans {C : PC} {w w1 w2 : World} {i j d e : Nat} (s : Stands C w w1 i d) (t : Stands C w1 w2 j e) : Stands C w w2 j e := ⟨t.at_, s.only.trans t.only, t.pos⟩
theorem Stands.step {C : PC} {w w1 : World} {i d : Nat} (s : Stands C w w1 i d) (n : Nat) (j : Nat) (hj : j ≤ C.bs.length) : Stands C w ((w1.drewN n).setCell ⟨C.pb, 1, none⟩ (.int .i64 j)) j d :=
  ⟨pObj_at (w := w1.drewN n) s.at_ j, (s.only.drewN n).setCell (by simp) _, hj⟩
theorem Stands.step0 {C : PC} {w w1 : World} {i d : Nat} (s : Stands C w w1 i d) (j : Nat) (hj : j ≤ C.bs.length) : Stands C w (w1.setCell ⟨C.pb, 1, none⟩ (.int .i64 j)) j d :=
  ⟨pObj_at s.at_ j, s.only.setCell (by simp) _, hj⟩
theorem Stands.drewN {C : PC} {w w1 : World} {i d : Nat} (s : Stands C w w1 i d) (n : Nat) : Stands C w (w1.drewN n) i d := ⟨s.at_, s.only.drewN n, s.pos⟩

/-- The parser gives up, by a panic of a fault. -/
def Fails (C : PC) (w : World) (e : Ending) (w' : World) : Prop :=
  ∃ f p c : Int, ∃ b : Nat, f = b ∧ e = .panicked [{ v := .iface 99 (.pointer (some ⟨b, 0, none⟩)), recovered := false }] ∧ w'.heap[b]? = some (.cells #[.int .i64 p, .int .i64 c] 101 (0, 0)) ∧ w.heap.size ≤ b ∧ Only [C.pb] w w'

theorem Fails.before {C : PC} {w w1 w' : World} {e : Ending} (h : Only [C.pb] w w1) (k : Fails C w1 e w') : Fails C w e w' := by
  obtain ⟨f, p, c, b, h1, h2, h3, h4, h5⟩ := k
  exact ⟨f, p, c, b, h1, h2, h3, Nat.le_trans h.size h4, h.trans h5⟩

set_option maxRecDepth 100000 in
theorem wrong_any (C : PC) (p c : Int) (v : Value) (w : World) :
    Calls Tryz.prog 60 #[v, .int .i64 p, .int .i64 c] w fun e w' => Fails C w e w' := by
  go_enter Tryz.func60, Tryz.ntmps60
  go_wp2
  refine ⟨rfl, ?_⟩
  exact ⟨_, p, c, w.heap.size, rfl, rfl, blk_new _ _, Nat.le_refl _, (Only.refl _ _).alloc _⟩

set_option maxRecDepth 100000 in
theorem digit_any (c : UInt8) (w : World) : Calls Tryz.prog 133 #[.int .u8 c.toNat] w fun e w' => e = .returned (.bool (digitB c)) ∧ w = w' := by
  go_enter Tryz.func133, Tryz.ntmps133
  go_wp2
  all_goals
    go_ret
    refine ⟨ret_bool ?_, rfl⟩
    rw [Bool.eq_iff_iff]
    simp [digitB, UInt8.le_iff_toNat_le]
    omega

set_option maxRecDepth 100000 in
theorem letter_any (c : UInt8) (w : World) : Calls Tryz.prog 131 #[.int .u8 c.toNat] w fun e w' => e = .returned (.bool (letterB c)) ∧ w = w' := by
  go_enter Tryz.func131, Tryz.ntmps131
  go_wp2
  all_goals
    go_ret
    refine ⟨ret_bool ?_, rfl⟩
    rw [Bool.eq_iff_iff]
    simp [letterB, UInt8.le_iff_toNat_le]
    omega

theorem indexByte_mem (l : Bytes) (c : UInt8) : (0 ≤ Lib.indexByte l c) ↔ c ∈ l := by
  induction l with
  | nil => simp [Lib.indexByte]
  | cons x xs ih =>
    unfold Lib.indexByte
    by_cases h : x = c
    · simp [h]
    · have hb : (x == c) = false := by simpa using h
      have h' : ¬ c = x := fun e => h e.symm
      rw [hb, if_neg (by decide)]
      simp only [List.mem_cons, h', false_or]
      rw [← ih]
      have := Lib.indexByte_ge xs c
      split
      · rename_i e; simp at e; omega
      · rename_i e; simp at e; omega

/-- strings.IndexByte at a byte. -/
theorem indexByte_at (s : ByteArray) (c : UInt8) (w : World) : Calls Tryz.prog 141 #[.string s, .int .u8 c.toNat] w fun e w' => e = .returned (.int .i64 (Lib.indexByte s.data.toList c)) ∧ w' = w := by
  have h := Tryz.strings_IndexByte s c.toNat w
  have e : (c.toNat : Int).toNat.toUInt8 = c := by simp
  rw [e] at h
  exact h

set_option maxRecDepth 100000 in
theorem numeric_any (c : UInt8) (w : World) : Calls Tryz.prog 200 #[.int .u8 c.toNat] w fun e w' => e = .returned (.bool (numericB c)) ∧ w = w' := by
  have hix := indexByte_mem [43, 45, 46, 101, 69] c
  have h1 := indexByte_at ⟨#[43, 45, 46, 101, 69]⟩ c w
  dsimp only at h1
  generalize hi : Lib.indexByte [43, 45, 46, 101, 69] c = ix at hix h1
  have HI := Lib.hid hix
  have H1 := Lib.hid h1
  clear hix h1 hi
  have H0 := Lib.hid (digit_any c w)
  obtain ⟨d, hd⟩ : ∃ d, digitB c = d := ⟨_, rfl⟩
  rw [hd] at H0
  have HD := Lib.hid hd
  clear hd
  go_enter Tryz.func200, Tryz.ntmps200
  go_wp2_with fail
  refine H0.out.mono ?_
  rintro e w1 ⟨rfl, rfl⟩
  clear H0
  go_wp2_with fail
  · have hd : d = true := by assumption
    go_ret
    exact ⟨ret_bool (by show true = _; unfold numericB; rw [HD.out, hd]; rfl), rfl⟩
  · have hd : ¬ d = true := by assumption
    refine H1.out.mono ?_
    rintro e w2 ⟨rfl, rfl⟩
    go_wp2_with fail
    go_ret
    refine ⟨ret_bool ?_, rfl⟩
    show decide _ = _
    rw [Bool.eq_iff_iff, decide_eq_true_eq, HI.out]
    unfold numericB
    rw [HD.out, Bool.eq_false_iff.2 hd]
    simp [or_assoc]

theorem ws_index (c : UInt8) : (0 ≤ Lib.indexByte [32, 9, 10, 13] c) ↔ isWsB c = true := by
  rw [indexByte_mem]
  simp [isWsB, or_assoc]

/-! ### blanks -/
theorem skip_drop (bs : Bytes) (k : Nat) (h : k < bs.length) : skipWs (bs.drop k) = if isWsB (bs[k]'h) then skipWs (bs.drop (k + 1)) else bs.drop k := by
  unfold skipWs
  rw [List.drop_eq_getElem_cons h, List.dropWhile_cons]

/-- Where a parser stands (for a loop's measure). -/
def atOf (C : PC) (w : World) : Nat := match w.heap[C.pb]? with | some (.cells c _ _) => (RowKit.intOf (c.getD 1 undef)).toNat | _ => 0
theorem atOf_of {C : PC} {w : World} {j d : Nat} (h : w.heap[C.pb]? = some (pObj C j d)) : atOf C w = j := by
  simp [atOf, h, pObj, RowKit.intOf]
theorem atOf_lt {C : PC} {w w' : World} {i j d d' : Nat} (h : w.heap[C.pb]? = some (pObj C i d)) (h' : w'.heap[C.pb]? = some (pObj C j d')) (hij : i < j) (hi : i < C.bs.length) : C.bs.length - atOf C w' < C.bs.length - atOf C w := by
  rw [atOf_of h, atOf_of h']; omega

def BlanksRet (C : PC) (w : World) (i d : Nat) (e : Ending) (w' : World) : Prop :=
  ∃ j : Nat, e = .returned (.bool (decide (j < C.bs.length))) ∧ Stands C w w' j d ∧ C.bs.drop j = skipWs (C.bs.drop i)

set_option maxRecDepth 100000 in
set_option maxHeartbeats 1000000 in
theorem blanks_any (C : PC) (w : World) (i d : Nat) (hp : PW C w i d) :
    Calls Tryz.prog 59 #[.pointer (some ⟨C.pb, 0, none⟩)] w fun e w' => BlanksRet C w i d e w' := by
  have hsm := hp.small
  go_enter Tryz.func59, Tryz.ntmps59
  go_wp2
  go_loopw [] (fun wr => ∃ k : Nat, Stands C w wr k d ∧ skipWs (C.bs.drop k) = skipWs (C.bs.drop i)) (fun wr => C.bs.length - atOf C wr)
  case atStart => exact ⟨i, Stands.refl hp, rfl⟩
  case round =>
    obtain ⟨k, hst, hsk⟩ := hrel
    have HS := Lib.hid hst
    have HK := Lib.hid hsk
    obtain ⟨c0, c1, c2, z1, z2⟩ := (hst.pw hp).cells
    have hpos := hst.pos
    clear hst hsk
    by_cases hlt : k < C.bs.length
    · have hcell := (HS.out.pw hp).bytes.cell k hlt
      have hsd := skip_drop C.bs k hlt
      have hws := ws_index (C.bs[k]'hlt)
      generalize C.bs[k]'hlt = b at hcell hsd hws
      have i0 : (0 : Int) ≤ k := by omega
      have i1 : (k : Int) < C.bs.length := by omega
      have hix := fun wx => indexByte_at ⟨#[32, 9, 10, 13]⟩ b wx
      dsimp only at hix
      generalize Lib.indexByte [32, 9, 10, 13] b = ix at hix hws
      have HIX := Lib.hid hix
      have HSD := Lib.hid hsd
      clear hix hsd
      by_cases h0 : 0 ≤ ix
      · have HW := Lib.hid (hws.1 h0)
        clear hws
        go_wp2_with fail
        go_quiet ((go_at_call 141; exact Calls.quiet_of_same (HIX.out _)))
        go_wp2
        go_roundw
        case rel => exact ⟨k + 1, HS.out.step _ (k + 1) (by omega), by rw [← HK.out, HSD.out, HW.out]; rfl⟩
        case measure => exact atOf_lt HS.out.at_ (HS.out.step nq (k + 1) (by omega)).at_ (by omega) hlt
      · have HW := Lib.hid (fun h => h0 (hws.2 h))
        clear hws
        go_wp2_with fail
        go_quiet ((go_at_call 141; exact Calls.quiet_of_same (HIX.out _)))
        go_wp2_with fail
        go_quiet (fail)
        go_wp2
        go_ret
        have HW' : isWsB b = false := Bool.eq_false_iff.2 HW.out
        exact ⟨k, ret_bool (by show true = decide _; simp [hlt]), (HS.out.drewN _).drewN _, by rw [← HK.out, HSD.out, HW']; rfl⟩
    · have i1 : (C.bs.length : Int) ≤ k := by omega
      go_wp2_with fail
      go_quiet (fail)
      go_wp2_with fail
      go_quiet (fail)
      go_wp2
      go_ret
      exact ⟨k, ret_bool (by show _ = decide _; simp [hlt]), (HS.out.drewN _).drewN _, by rw [← HK.out, List.drop_eq_nil_of_le (by omega)]; rfl⟩

end Toc

namespace Toc
open Go Go.RowKit Go.Proofs

theorem mustL_some {l r : Bytes} (h : mustL l = some r) : ∃ c t, r = c :: t ∧ skipWs l = c :: t := by
  unfold mustL at h
  cases hs : skipWs l with
  | nil => rw [hs] at h; cases h
  | cons c t => rw [hs] at h; cases h; exact ⟨c, t, rfl, rfl⟩
theorem mustL_none {l : Bytes} (h : mustL l = none) : skipWs l = [] := by
  unfold mustL at h
  cases hs : skipWs l with
  | nil => rfl
  | cons c t => rw [hs] at h; cases h
theorem drop_lt {l : Bytes} {j : Nat} {c : UInt8} {t : Bytes} (h : l.drop j = c :: t) : j < l.length := by
  have : (l.drop j).length = t.length + 1 := by rw [h]; rfl
  rw [List.length_drop] at this; omega
theorem drop_get {l : Bytes} {j : Nat} {c : UInt8} {t : Bytes} (h : l.drop j = c :: t) : l[j]'(drop_lt h) = c := by
  rw [List.drop_eq_getElem_cons (drop_lt h)] at h
  exact (List.cons.inj h).1
theorem drop_next {l : Bytes} {j : Nat} {c : UInt8} {t : Bytes} (h : l.drop j = c :: t) : l.drop (j + 1) = t := by
  rw [List.drop_eq_getElem_cons (drop_lt h)] at h
  exact (List.cons.inj h).2

def MustRet (C : PC) (w : World) (d : Nat) (c : UInt8) (t : Bytes) (e : Ending) (w' : World) : Prop :=
  ∃ j : Nat, e = .returned (.int .u8 c.toNat) ∧ Stands C w w' j d ∧ C.bs.drop j = c :: t

set_option maxRecDepth 100000 in
set_option maxHeartbeats 1000000 in
theorem must_ok (C : PC) (w : World) (i d : Nat) (hp : PW C w i d) {c : UInt8} {t : Bytes} (h : mustL (C.bs.drop i) = some (c :: t)) :
    Calls Tryz.prog 57 #[.pointer (some ⟨C.pb, 0, none⟩)] w fun e w' => MustRet C w d c t e w' := by
  obtain ⟨c', t', e1, hs⟩ := mustL_some h
  cases e1
  have H1 := Lib.hid (blanks_any C w i d hp)
  have HS := Lib.hid hs
  clear h hs
  go_enter Tryz.func57, Tryz.ntmps57
  go_wp2_with fail
  refine H1.out.mono ?_
  rintro e w1 ⟨j, rfl, hst, hd⟩
  rw [HS.out] at hd
  have hlt := drop_lt hd
  have hcell := (hst.pw hp).bytes.cell j hlt
  rw [drop_get hd] at hcell
  obtain ⟨c0, c1, c2, z1, z2⟩ := (hst.pw hp).cells
  have HST := Lib.hid hst
  have HD := Lib.hid hd
  clear hst hd H1
  have i0 : (0 : Int) ≤ j := by omega
  have i1 : (j : Int) < C.bs.length := by omega
  have ht : decide (j < C.bs.length) = true := by simpa using hlt
  go_wp2_with fail
  go_quiet (fail)
  go_wp2
  go_ret
  exact ⟨j, rfl, HST.out.drewN _, HD.out⟩

set_option maxRecDepth 100000 in
set_option maxHeartbeats 1000000 in
theorem must_no (C : PC) (w : World) (i d : Nat) (hp : PW C w i d) (h : mustL (C.bs.drop i) = none) :
    Calls Tryz.prog 57 #[.pointer (some ⟨C.pb, 0, none⟩)] w fun e w' => Fails C w e w' := by
  have hs := mustL_none h
  have H1 := Lib.hid (blanks_any C w i d hp)
  have HS := Lib.hid hs
  clear h hs
  go_enter Tryz.func57, Tryz.ntmps57
  go_wp2_with fail
  refine H1.out.mono ?_
  rintro e w1 ⟨j, rfl, hst, hd⟩
  rw [HS.out] at hd
  have hlt : C.bs.length ≤ j := by simpa using hd
  obtain ⟨c0, c1, c2, z1, z2⟩ := (hst.pw hp).cells
  have HST := Lib.hid hst
  clear hst hd H1
  have ht : decide (j < C.bs.length) = false := by simpa using hlt
  go_wp2_with fail
  refine (wrong_any C _ _ _ w1).mono ?_
  intro e w2 hf
  obtain ⟨f, p, k, b, h1, rfl, h3, h4, h5⟩ := hf
  go_wp2
  exact ⟨rfl, Fails.before HST.out.only ⟨f, p, k, b, h1, rfl, h3, h4, h5⟩⟩

theorem takeWhile_step (kind : UInt8 → Bool) (bs : Bytes) (i k : Nat) (hik : i ≤ k) (h : k < bs.length) (hall : ((bs.drop i).take (k - i)).all kind = true) (hc : kind (bs[k]'h) = true) : ((bs.drop i).take (k + 1 - i)).all kind = true := by
  have e : k + 1 - i = (k - i) + 1 := by omega
  rw [e, List.take_succ_eq_append_getElem (by rw [List.length_drop]; omega), List.all_append, hall]
  have : (bs.drop i)[k - i]'(by rw [List.length_drop]; omega) = bs[k]'h := by
    rw [List.getElem_drop]; congr 1; omega
  rw [this]; simpa using hc

theorem span_at (kind : UInt8 → Bool) : ∀ (l : Bytes) (m : Nat), (l.take m).all kind = true → (∀ h : m < l.length, kind (l[m]'h) = false) → m ≤ l.length → l.takeWhile kind = l.take m ∧ l.dropWhile kind = l.drop m
  | [], m, _, _, _ => by simp
  | x :: xs, 0, _, h, _ => by
    have := h (by simp)
    simp at this
    simp [this]
  | x :: xs, m + 1, hall, h, hm => by
    simp only [List.take_succ_cons, List.all_cons, Bool.and_eq_true] at hall
    have ih := span_at kind xs m hall.2 (fun hlt => by have := h (by simpa using hlt); simpa using this) (by simpa using hm)
    rw [List.takeWhile_cons, List.dropWhile_cons, if_pos hall.1, if_pos hall.1]
    simp [ih.1, ih.2]

def TokenRet (C : PC) (kind : UInt8 → Bool) (w : World) (i d : Nat) (e : Ending) (w' : World) : Prop :=
  ∃ (j : Nat) (s : ByteArray), e = .returned (.string s) ∧ s.data.toList = (C.bs.drop i).takeWhile kind ∧ Stands C w w' j d ∧ C.bs.drop j = (C.bs.drop i).dropWhile kind

set_option maxRecDepth 100000 in
set_option maxHeartbeats 1000000 in
theorem token_letter (C : PC) (w : World) (i d : Nat) (hp : PW C w i d) {c : UInt8} {t : Bytes} (hd0 : C.bs.drop i = c :: t) (hc0 : letterB c = true) :
    Calls Tryz.prog 199 #[.pointer (some ⟨C.pb, 0, none⟩), .func (.func 131) #[] #[]] w fun e w' => TokenRet C letterB w i d e w' := by
  have hsm := hp.small
  have hi := drop_lt hd0
  have hroom := hp.room
  have HF0 := Lib.hid (show letterB (C.bs[i]'hi) = true by rw [drop_get hd0]; exact hc0)
  clear hd0 hc0
  have hpi := hp.pos
  have c1' := hp.cells.2.1
  go_enter Tryz.func199, Tryz.ntmps199
  go_wp2
  clear c1'
  go_loopw [] (fun wr => ∃ k : Nat, i ≤ k ∧ Stands C w wr k d ∧ ((C.bs.drop i).take (k - i)).all letterB = true) (fun wr => C.bs.length - atOf C wr)
  case atStart => exact ⟨i, Nat.le_refl _, Stands.refl hp, by simp⟩
  case round =>
    obtain ⟨k, hik, hst, hall⟩ := hrel
    have HS := Lib.hid hst
    have HA := Lib.hid hall
    obtain ⟨c0, c1, c2, z1, z2⟩ := (hst.pw hp).cells
    have hpos := hst.pos
    clear hst hall
    have fin : (∀ h : k < C.bs.length, letterB (C.bs[k]'h) = false) → (C.bs.drop i).takeWhile letterB = (C.bs.drop i).take (k - i) ∧ C.bs.drop k = (C.bs.drop i).dropWhile letterB := fun h => by
      have h1 := span_at letterB (C.bs.drop i) (k - i) HA.out (fun hlt => by
        have hk : k < C.bs.length := by rw [List.length_drop] at hlt; omega
        have h2 := h hk
        rw [List.getElem_drop]
        have e : i + (k - i) = k := by omega
        simpa [e] using h2) (by rw [List.length_drop]; omega)
      refine ⟨h1.1, ?_⟩
      rw [h1.2, List.drop_drop]; congr 1; omega
    have FIN := Lib.hid fin
    clear fin
    by_cases hlt : k < C.bs.length
    · have hcell := (HS.out.pw hp).bytes.cell k hlt
      have hstep := takeWhile_step letterB C.bs i k hik hlt HA.out
      have FIN' := Lib.hid (fun hb : letterB (C.bs[k]'hlt) = false => FIN.out (fun _ => hb))
      have hne : letterB (C.bs[k]'hlt) = false → i < k := fun hb => by
        rcases Nat.lt_or_ge i k with h | h
        · exact h
        · exfalso
          have e : k = i := by omega
          subst e
          have := HF0.out
          rw [hb] at this
          cases this
      generalize C.bs[k]'hlt = b at hcell hstep FIN' hne
      have i0 : (0 : Int) ≤ k := by omega
      have i1 : (k : Int) < C.bs.length := by omega
      have HST := Lib.hid hstep
      clear hstep
      cases hk : letterB b
      · have hik2 := hne hk
        have hf := FIN'.out hk
        have HF := Lib.hid hf
        have HC := Lib.hid (fun wx => letter_any b wx)
        rw [hk] at HC
        clear hf
        have hsl := fun W => window (bb := C.bb) (off := C.off) (n := C.bs.length) hik2 (show k ≤ C.cap by omega) W
        have hcv := fun q => (HS.out.pw hp).bytes.conv i k (C.cap - i) hik (by omega) q
        go_wp2_with fail
        go_quiet ((go_at_call 131; exact Calls.quiet_of_same ((HC.out _).mono fun _ _ ⟨a, b⟩ => ⟨a, b.symm⟩)))
        go_wp2_with fail
        go_quiet (fail)
        go_wp2
        go_ret
        refine ⟨k, _, rfl, ?_, (HS.out.drewN _).drewN _, HF.out.2⟩
        rw [HF.out.1, Lib.extract_data]
      · have HC := Lib.hid (fun wx => letter_any b wx)
        rw [hk] at HC
        go_wp2_with fail
        go_quiet ((go_at_call 131; exact Calls.quiet_of_same ((HC.out _).mono fun _ _ ⟨a, b⟩ => ⟨a, b.symm⟩)))
        go_wp2
        go_roundw
        case rel => exact ⟨k + 1, by omega, HS.out.step _ (k + 1) (by omega), HST.out hk⟩
        case measure => exact atOf_lt HS.out.at_ (HS.out.step nq (k + 1) (by omega)).at_ (by omega) hlt
    · have hik2 : i < k := by omega
      have hf := FIN.out (fun h => absurd h hlt)
      have HF := Lib.hid hf
      clear hf
      have i1 : (C.bs.length : Int) ≤ k := by omega
      have hsl := fun W => window (bb := C.bb) (off := C.off) (n := C.bs.length) hik2 (show k ≤ C.cap by omega) W
      have hcv := fun q => (HS.out.pw hp).bytes.conv i k (C.cap - i) hik (by omega) q
      go_wp2_with fail
      go_quiet (fail)
      go_wp2_with fail
      go_quiet (fail)
      go_wp2
      go_ret
      refine ⟨k, _, rfl, ?_, (HS.out.drewN _).drewN _, HF.out.2⟩
      rw [HF.out.1, Lib.extract_data]

set_option maxRecDepth 100000 in
set_option maxHeartbeats 1000000 in
theorem token_numeric (C : PC) (w : World) (i d : Nat) (hp : PW C w i d) {c : UInt8} {t : Bytes} (hd0 : C.bs.drop i = c :: t) (hc0 : numericB c = true) :
    Calls Tryz.prog 199 #[.pointer (some ⟨C.pb, 0, none⟩), .func (.func 200) #[] #[]] w fun e w' => TokenRet C numericB w i d e w' := by
  have hsm := hp.small
  have hi := drop_lt hd0
  have hroom := hp.room
  have HF0 := Lib.hid (show numericB (C.bs[i]'hi) = true by rw [drop_get hd0]; exact hc0)
  clear hd0 hc0
  have hpi := hp.pos
  have c1' := hp.cells.2.1
  go_enter Tryz.func199, Tryz.ntmps199
  go_wp2
  clear c1'
  go_loopw [] (fun wr => ∃ k : Nat, i ≤ k ∧ Stands C w wr k d ∧ ((C.bs.drop i).take (k - i)).all numericB = true) (fun wr => C.bs.length - atOf C wr)
  case atStart => exact ⟨i, Nat.le_refl _, Stands.refl hp, by simp⟩
  case round =>
    obtain ⟨k, hik, hst, hall⟩ := hrel
    have HS := Lib.hid hst
    have HA := Lib.hid hall
    obtain ⟨c0, c1, c2, z1, z2⟩ := (hst.pw hp).cells
    have hpos := hst.pos
    clear hst hall
    have fin : (∀ h : k < C.bs.length, numericB (C.bs[k]'h) = false) → (C.bs.drop i).takeWhile numericB = (C.bs.drop i).take (k - i) ∧ C.bs.drop k = (C.bs.drop i).dropWhile numericB := fun h => by
      have h1 := span_at numericB (C.bs.drop i) (k - i) HA.out (fun hlt => by
        have hk : k < C.bs.length := by rw [List.length_drop] at hlt; omega
        have h2 := h hk
        rw [List.getElem_drop]
        have e : i + (k - i) = k := by omega
        simpa [e] using h2) (by rw [List.length_drop]; omega)
      refine ⟨h1.1, ?_⟩
      rw [h1.2, List.drop_drop]; congr 1; omega
    have FIN := Lib.hid fin
    clear fin
    by_cases hlt : k < C.bs.length
    · have hcell := (HS.out.pw hp).bytes.cell k hlt
      have hstep := takeWhile_step numericB C.bs i k hik hlt HA.out
      have FIN' := Lib.hid (fun hb : numericB (C.bs[k]'hlt) = false => FIN.out (fun _ => hb))
      have hne : numericB (C.bs[k]'hlt) = false → i < k := fun hb => by
        rcases Nat.lt_or_ge i k with h | h
        · exact h
        · exfalso
          have e : k = i := by omega
          subst e
          have := HF0.out
          rw [hb] at this
          cases this
      generalize C.bs[k]'hlt = b at hcell hstep FIN' hne
      have i0 : (0 : Int) ≤ k := by omega
      have i1 : (k : Int) < C.bs.length := by omega
      have HST := Lib.hid hstep
      clear hstep
      cases hk : numericB b
      · have hik2 := hne hk
        have hf := FIN'.out hk
        have HF := Lib.hid hf
        have HC := Lib.hid (fun wx => numeric_any b wx)
        rw [hk] at HC
        clear hf
        have hsl := fun W => window (bb := C.bb) (off := C.off) (n := C.bs.length) hik2 (show k ≤ C.cap by omega) W
        have hcv := fun q => (HS.out.pw hp).bytes.conv i k (C.cap - i) hik (by omega) q
        go_wp2_with fail
        go_quiet ((go_at_call 200; exact Calls.quiet_of_same ((HC.out _).mono fun _ _ ⟨a, b⟩ => ⟨a, b.symm⟩)))
        go_wp2_with fail
        go_quiet (fail)
        go_wp2
        go_ret
        refine ⟨k, _, rfl, ?_, (HS.out.drewN _).drewN _, HF.out.2⟩
        rw [HF.out.1, Lib.extract_data]
      · have HC := Lib.hid (fun wx => numeric_any b wx)
        rw [hk] at HC
        go_wp2_with fail
        go_quiet ((go_at_call 200; exact Calls.quiet_of_same ((HC.out _).mono fun _ _ ⟨a, b⟩ => ⟨a, b.symm⟩)))
        go_wp2
        go_roundw
        case rel => exact ⟨k + 1, by omega, HS.out.step _ (k + 1) (by omega), HST.out hk⟩
        case measure => exact atOf_lt HS.out.at_ (HS.out.step nq (k + 1) (by omega)).at_ (by omega) hlt
    · have hik2 : i < k := by omega
      have hf := FIN.out (fun h => absurd h hlt)
      have HF := Lib.hid hf
      clear hf
      have i1 : (C.bs.length : Int) ≤ k := by omega
      have hsl := fun W => window (bb := C.bb) (off := C.off) (n := C.bs.length) hik2 (show k ≤ C.cap by omega) W
      have hcv := fun q => (HS.out.pw hp).bytes.conv i k (C.cap - i) hik (by omega) q
      go_wp2_with fail
      go_quiet (fail)
      go_wp2_with fail
      go_quiet (fail)
      go_wp2
      go_ret
      refine ⟨k, _, rfl, ?_, (HS.out.drewN _).drewN _, HF.out.2⟩
      rw [HF.out.1, Lib.extract_data]

end Toc

namespace Toc
open Go Go.RowKit Go.Proofs

abbrev ptrV (q : Nat) : Value := .pointer (some ⟨q, 0, none⟩)
abbrev nilS : Value := .slice none 0 0
abbrev emptyS : ByteArray := ⟨#[]⟩
def vObj (k : Int) (t : Bool) (n : Int) (s : ByteArray) (items members : Value) : Obj :=
  .cells #[.int .i64 k, .bool t, .int .i64 n, .string s, items, members] 117 (0, 0)

/-- A slice of n elements whose cells are these. -/
def RowR (r : Ro) (sv : Value) (n : Nat) (xs : List Value) : Prop :=
  (n = 0 ∧ xs = [] ∧ sv = nilS) ∨
  ∃ g off cap arr T fr, sv = .slice (some ⟨g, off, none⟩) n cap ∧ n ≤ cap ∧ r g = some (.cells arr T fr) ∧ ∀ k (h : k < xs.length), arr[off + k]? = some (xs[k]'h)

theorem RowR.mono {r r' : Ro} {sv : Value} {n : Nat} {xs : List Value} (h : RowR r sv n xs) (hr : r.le r') : RowR r' sv n xs := by
  rcases h with h | ⟨g, off, cap, arr, T, fr, h1, h2, h3, h4⟩
  · exact .inl h
  · exact .inr ⟨g, off, cap, arr, T, fr, h1, h2, hr _ _ h3, h4⟩

/-- The cells of members. -/
def memC : List (Bytes × JV) → List Nat → List Value
  | m :: ms, q :: qs => .string (mkS m.1) :: ptrV q :: memC ms qs
  | _, _ => []

inductive IsV (r : Ro) : Nat → JV → Prop
  | null {q : Nat} : r q = some (vObj 0 false 0 emptyS nilS nilS) → IsV r q .null
  | bool {q : Nat} {b : Bool} : r q = some (vObj 1 b 0 emptyS nilS nilS) → IsV r q (.bool b)
  | int {q : Nat} {n : Int} : r q = some (vObj 2 false n emptyS nilS nilS) → IsV r q (.int n)
  | text {q : Nat} {s : Bytes} : r q = some (vObj 3 false 0 (mkS s) nilS nilS) → IsV r q (.text s)
  | list {q : Nat} {l : List JV} {qs : List Nat} {sv : Value} : r q = some (vObj 4 false 0 emptyS sv nilS) → RowR r sv l.length (qs.map ptrV) → qs.length = l.length →
      (∀ i (h : i < qs.length) (h' : i < l.length), IsV r (qs[i]'h) (l[i]'h')) → IsV r q (.list l)
  | obj {q : Nat} {l : List (Bytes × JV)} {qs : List Nat} {sv : Value} : r q = some (vObj 5 false 0 emptyS nilS sv) → RowR r sv l.length (memC l qs) → qs.length = l.length →
      (∀ i (h : i < qs.length) (h' : i < l.length), IsV r (qs[i]'h) (l[i]'h').2) → IsV r q (.obj l)

theorem IsV.mono {r r' : Ro} (hr : r.le r') {q : Nat} {v : JV} (h : IsV r q v) : IsV r' q v := by
  induction h with
  | null h => exact .null (hr _ _ h)
  | bool h => exact .bool (hr _ _ h)
  | int h => exact .int (hr _ _ h)
  | text h => exact .text (hr _ _ h)
  | list h1 h2 h3 _ ih => exact .list (hr _ _ h1) (h2.mono hr) h3 ih
  | obj h1 h2 h3 _ ih => exact .obj (hr _ _ h1) (h2.mono hr) h3 ih

/-- A value has been made: at q, in blocks from lo on. -/
def Made (lo : Nat) (w : World) (q : Nat) (v : JV) : Prop := ∃ r : Ro, r.from lo ∧ Has r w ∧ IsV r q v

theorem Made.one {lo : Nat} {w : World} {q : Nat} {v : JV} {o : Obj} (hq : lo ≤ q) (ho : w.heap[q]? = some o) (h : ∀ r : Ro, r q = some o → IsV r q v) : Made lo w q v :=
  ⟨Ro.one q o, Ro.from_one hq o, Has.one ho, h _ (Ro.one_self q o)⟩
theorem Made.mono {lo lo' : Nat} {w : World} {q : Nat} {v : JV} (h : Made lo w q v) (hl : lo' ≤ lo) : Made lo' w q v := by
  obtain ⟨r, h1, h2, h3⟩ := h
  exact ⟨r, Ro.from_mono h1 hl, h2, h3⟩
theorem Made.only {lo : Nat} {w w' : World} {q : Nat} {v : JV} {S : List Nat} (h : Made lo w q v) (ho : Only S w w') (hS : ∀ b ∈ S, b < lo) : Made lo w' q v := by
  obtain ⟨r, h1, h2, h3⟩ := h
  exact ⟨r, h1, h2.only ho (fun b hb => Ro.from_ne h1 (hS b hb)), h3⟩

end Toc

namespace Toc
open Go Go.RowKit Go.Proofs

theorem str_ne {s : ByteArray} {l : Bytes} (h : ¬ s.data.toList = l) : (s.toList == l) = false := by
  rw [Lib.toList_data, beq_eq_false_iff_ne]; exact h
theorem str_eq {s : ByteArray} {l : Bytes} (h : s.data.toList = l) : s = mkS l := by rw [← h, mkS_list]

def WordOfRet (w : World) (v : JV) (e : Ending) (w' : World) : Prop :=
  ∃ q, e = .returned (.tuple #[ptrV q, .bool true]) ∧ Made w.heap.size w' q v ∧ Below w.heap.size w w'

set_option maxRecDepth 100000 in
theorem wordOf_ok (s : ByteArray) (v : JV) (h : wordOfL s.data.toList = some v) (w : World) :
    Calls Tryz.prog 198 #[.string s] w fun e w' => WordOfRet w v e w' := by
  unfold wordOfL at h
  split at h
  · rename_i hs
    cases h
    have hs' := str_eq hs
    subst hs'
    go_enter Tryz.func198, Tryz.ntmps198
    go_wp2
    go_ret2
    exact ⟨w.heap.size, rfl, Made.one (Nat.le_refl _) (blk_new _ _) (fun r h => .null h), (Below.refl _ _).alloc (Nat.le_refl _) _⟩
  · split at h
    · rename_i hs
      cases h
      have hs' := str_eq hs
      subst hs'
      go_enter Tryz.func198, Tryz.ntmps198
      go_wp2
      go_ret2
      exact ⟨w.heap.size, rfl, Made.one (Nat.le_refl _) (blk_new _ _) (fun r h => .bool h), (Below.refl _ _).alloc (Nat.le_refl _) _⟩
    · split at h
      · rename_i hs
        cases h
        have hs' := str_eq hs
        subst hs'
        go_enter Tryz.func198, Tryz.ntmps198
        go_wp2
        go_ret2
        exact ⟨w.heap.size, rfl, Made.one (Nat.le_refl _) (blk_new _ _) (fun r h => .bool h), (Below.refl _ _).alloc (Nat.le_refl _) _⟩
      · cases h

set_option maxRecDepth 100000 in
theorem wordOf_no (s : ByteArray) (h : wordOfL s.data.toList = none) (w : World) :
    Calls Tryz.prog 198 #[.string s] w fun e w' => e = .returned (.tuple #[.pointer none, .bool false]) ∧ w = w' := by
  unfold wordOfL at h
  split at h
  · cases h
  · split at h
    · cases h
    · split at h
      · cases h
      · rename_i h1 h2 h3
        have e1 := str_ne h1
        have e2 := str_ne h2
        have e3 := str_ne h3
        unfold nullS at e1
        unfold trueS at e2
        unfold falseS at e3
        clear h1 h2 h3 h
        go_enter Tryz.func198, Tryz.ntmps198
        go_wp2
        go_ret2
        exact ⟨rfl, rfl⟩

/-- A value has been read. -/
def ValRet (C : PC) (w : World) (d : Nat) (v : JV) (t : Bytes) (e : Ending) (w' : World) : Prop :=
  ∃ (j q : Nat), e = .returned (ptrV q) ∧ Stands C w w' j d ∧ C.bs.drop j = t ∧ Made w.heap.size w' q v

set_option maxRecDepth 100000 in
set_option maxHeartbeats 1000000 in
theorem word_ok (C : PC) (w : World) (i d : Nat) (hp : PW C w i d) {c : UInt8} {l : Bytes} (hd0 : C.bs.drop i = c :: l) (hc0 : letterB c = true) {v : JV} {t : Bytes} (h : wordL (C.bs.drop i) = some (v, t)) :
    Calls Tryz.prog 132 #[ptrV C.pb] w fun e w' => ValRet C w d v t e w' := by
  have H1 := Lib.hid (token_letter C w i d hp hd0 hc0)
  unfold wordL at h
  cases hw : wordOfL ((C.bs.drop i).takeWhile letterB) with
  | none => rw [hw] at h; cases h
  | some v' =>
    rw [hw] at h
    simp at h
    obtain ⟨rfl, rfl⟩ := h
    have HW := Lib.hid hw
    obtain ⟨c0, c1, c2, z1, z2⟩ := hp.cells
    clear hw hd0 hc0
    go_enter Tryz.func132, Tryz.ntmps132
    go_wp2_with fail
    refine H1.out.mono ?_
    rintro e w1 ⟨j, s, rfl, hs, hst, hd⟩
    have HST := Lib.hid hst
    have HD := Lib.hid hd
    have H2 := Lib.hid (wordOf_ok s v' (by rw [hs]; exact HW.out) w1)
    clear hst hd hs H1 c0 c1 c2 z1 z2
    go_wp2_with fail
    refine H2.out.mono ?_
    rintro e w2 ⟨q, rfl, hm, hb⟩
    have HM := Lib.hid hm
    have HB := Lib.hid hb
    clear hm hb H2
    go_wp2
    go_ret
    have hst2 : Stands C w w2 j d := ⟨(HB.out.block C.pb (blk_lt HST.out.at_)).trans HST.out.at_, HST.out.only.trans (Only.of_below HB.out _), HST.out.pos⟩
    exact ⟨j, q, rfl, hst2, HD.out, HM.out.mono HST.out.only.size⟩

set_option maxRecDepth 100000 in
set_option maxHeartbeats 1000000 in
theorem word_no (C : PC) (w : World) (i d : Nat) (hp : PW C w i d) {c : UInt8} {l : Bytes} (hd0 : C.bs.drop i = c :: l) (hc0 : letterB c = true) (h : wordL (C.bs.drop i) = none) :
    Calls Tryz.prog 132 #[ptrV C.pb] w fun e w' => Fails C w e w' := by
  have H1 := Lib.hid (token_letter C w i d hp hd0 hc0)
  have HW : Hid (wordOfL ((C.bs.drop i).takeWhile letterB) = none) := by
    unfold wordL at h
    cases hw : wordOfL ((C.bs.drop i).takeWhile letterB) with
    | none => exact rfl
    | some v' => rw [hw] at h; cases h
  obtain ⟨c0, c1, c2, z1, z2⟩ := hp.cells
  clear hd0 hc0 h
  go_enter Tryz.func132, Tryz.ntmps132
  go_wp2_with fail
  refine H1.out.mono ?_
  rintro e w1 ⟨j, s, rfl, hs, hst, hd⟩
  have HST := Lib.hid hst
  have H2 := Lib.hid (wordOf_no s (by rw [hs]; exact HW.out) w1)
  clear hst hd hs H1 c0 c1 c2 z1 z2
  go_wp2_with fail
  refine H2.out.mono ?_
  rintro e w2 ⟨rfl, rfl⟩
  clear H2
  go_wp2_with fail
  refine (wrong_any C _ _ _ w1).mono ?_
  rintro e w2 ⟨f, p, k, b, h1, rfl, h3, h4, h5⟩
  go_wp2
  exact ⟨rfl, Fails.before HST.out.only ⟨f, p, k, b, h1, rfl, h3, h4, h5⟩⟩

end Toc
