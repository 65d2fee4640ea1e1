/-
  ReadEv: room.ReadEvent: the map of what must be there, made in whatever order.
  ReadEv2: room.ReadEvent of any value, or none.
-/
import Derived.Test.YtblbdgepocfngaaGreatDoorWA
import Derived.Test.YtblbdgepocfngaaGreatDoorWB
import Derived.Deep.DeepCutAuto
namespace Toc
open Go Go.RowKit Go.Proofs

def evObj (id room sender type : Bytes) (state : Bool) (key redacts : Bytes) (body : Value) : Obj :=
  .cells #[.string (mkS id), .string (mkS room), .string (mkS sender), .string (mkS type), .bool state, .string (mkS key), .string (mkS redacts), body] 122 (0, 0)

abbrev fieldP (qe o : Nat) : Value := .pointer (some ⟨qe, o, none⟩)
def fourL (qe : Nat) : List (Bytes × Nat × Value) := [(sEventId, 4, fieldP qe 0), (sRoomId, 8, fieldP qe 1), (sSender, 12, fieldP qe 2), (sType, 16, fieldP qe 3)]
def fourM (qe : Nat) : List (Bytes × Value) := [(sEventId, fieldP qe 0), (sRoomId, fieldP qe 1), (sSender, fieldP qe 2), (sType, fieldP qe 3)]
def rjL (mb qe : Nat) : List (Nat × Value) :=
  [(0, .map (some mb)), (1, fieldP qe 0), (2, fieldP qe 0), (3, fieldP qe 0), (5, fieldP qe 0), (6, fieldP qe 0), (7, fieldP qe 1), (9, fieldP qe 0), (10, fieldP qe 0), (11, fieldP qe 2), (13, fieldP qe 0), (14, fieldP qe 0), (15, fieldP qe 3), (17, .map (some mb))]
theorem four_rising (qe : Nat) : Rising (fourL qe) := by
  rw [rising_iff]
  simp only [fourL, List.pairwise_cons, List.mem_cons, List.not_mem_nil, or_false, forall_eq_or_imp, forall_eq, List.Pairwise.nil, and_true, false_imp_iff, implies_true]
  decide +kernel

/-- What the region keeps. -/
structure RJ (wE : World) (qe : Nat) (done : Nat → Bool) (val : Nat → Value) (w : World) : Prop where
  pur : ∀ p ∈ rjL wE.heap.size qe, done p.1 = true → val p.1 = p.2
  turns : Turns [] wE w
  sz : done 0 = false → w.heap.size = wE.heap.size ∧ done 4 = false ∧ done 8 = false ∧ done 12 = false ∧ done 16 = false
  mapA : done 0 = true → done 18 = false → MapAt w wE.heap.size (entL (fourL qe) done)
  all : done 17 = true → done 0 = true ∧ done 4 = true ∧ done 8 = true ∧ done 12 = true ∧ done 16 = true
  rng : done 18 = true → done 17 = true ∧ ∃ it, val 18 = fieldP it 0 ∧ it ≠ wE.heap.size ∧ wE.heap.size < it ∧ RangeAt w it wE.heap.size (fourM qe) [] (fourM qe)

theorem RJ.start (w0 : World) (qe : Nat) : RJ w0 qe (fun _ => false) (fun _ => undef) w0.drew :=
  ⟨fun _ _ h => by simp at h, (Turns.refl _ _).drew, fun _ => ⟨rfl, rfl, rfl, rfl, rfl⟩, fun h => by simp at h, fun h => by simp at h, fun h => by simp at h⟩

/-- An operation that only computes. -/
theorem RJ.pure {wE : World} {qe : Nat} {done : Nat → Bool} {val : Nat → Value} {w : World} (h : RJ wE qe done val w) (i : Nat) (v : Value) (hi : [0, 4, 8, 12, 16, 17, 18].contains i = false) (hv : ∀ p ∈ rjL wE.heap.size qe, p.1 = i → v = p.2) : RJ wE qe (also done i) (withVal val i v) w := by
  simp at hi
  obtain ⟨h1, h2, h3, h4, h5, h6, h7⟩ := hi
  have e : ∀ j, j ≠ i → also done i j = done j := fun j hj => by simp [also, hj]
  have e0 := e 0 (Ne.symm h1)
  have e4 := e 4 (Ne.symm h2)
  have e8 := e 8 (Ne.symm h3)
  have e12 := e 12 (Ne.symm h4)
  have e16 := e 16 (Ne.symm h5)
  have e17 := e 17 (Ne.symm h6)
  have e18 := e 18 (Ne.symm h7)
  have eL : entL (fourL qe) (also done i) = entL (fourL qe) done := entL_same fun p hp => by
    simp only [fourL, List.mem_cons, List.not_mem_nil, or_false] at hp
    rcases hp with rfl | rfl | rfl | rfl <;> assumption
  have ev : withVal val i v 18 = val 18 := by simp [withVal, Ne.symm h7]
  exact ⟨pure_upd h.pur hv, h.turns, by rw [e0, e4, e8, e12, e16]; exact h.sz, by rw [e0, e18, eL]; exact h.mapA, by rw [e0, e4, e8, e12, e16, e17]; exact h.all, by rw [e17, e18, ev]; exact h.rng⟩

theorem RJ.make {wE : World} {qe : Nat} {done : Nat → Bool} {val : Nat → Value} {w : World} (h : RJ wE qe done val w) (h0 : done 0 = false) : RJ wE qe (also done 0) (withVal val 0 (.map (some w.heap.size))) (w.alloc (.map #[] 0)) := by
  obtain ⟨hs, h4, h8, h12, h16⟩ := h.sz h0
  have e : ∀ j, j ≠ 0 → also done 0 j = done j := fun j hj => by simp [also, hj]
  have n17 : done 17 = false := by
    cases h17 : done 17 with
    | false => rfl
    | true => have := (h.all h17).1; rw [h0] at this; cases this
  have n18 : done 18 = false := by
    cases h18 : done 18 with
    | false => rfl
    | true => have := (h.rng h18).1; rw [n17] at this; cases this
  have eL : entL (fourL qe) (also done 0) = [] := entL_none fun p hp => by
    simp only [fourL, List.mem_cons, List.not_mem_nil, or_false] at hp
    rcases hp with rfl | rfl | rfl | rfl <;> (rw [e _ (by dsimp only; omega)]; assumption)
  refine ⟨pure_upd h.pur (fun p hp hi => ?_), h.turns.alloc _, fun h' => by simp [also] at h', fun _ _ => ?_, fun h' => ?_, fun h' => ?_⟩
  · rw [hs]
    simp only [rjL, List.mem_cons, List.not_mem_nil, or_false] at hp
    rcases hp with rfl | rfl | rfl | rfl | rfl | rfl | rfl | rfl | rfl | rfl | rfl | rfl | rfl | rfl <;> first | rfl | cases hi
  · rw [eL, ← hs]; exact MapAt.new w
  · rw [e 17 (by omega), n17] at h'; cases h'
  · rw [e 18 (by omega), n18] at h'; cases h'

theorem RJ.insert {P : Program} {T K E : TypeId} {wE : World} {qe : Nat} {done : Nat → Bool} {val : Nat → Value} {w : World} (hT : P.underlying T = some (.map K E)) (hK : P.underlying K = some .string) (h : RJ wE qe done val w) {i : Nat} {k : Bytes} {v : Value} (hi : done i = false)
    (h0 : done 0 = true) (hm : (k, i, v) ∈ fourL qe) : ∃ w', (Instr.mapUpdate T (.map (some wE.heap.size)) (.string (mkS k)) v).run P w = .ok () w' ∧ RJ wE qe (also done i) (withVal val i undef) w' := by
  have hi4 : i = 4 ∨ i = 8 ∨ i = 12 ∨ i = 16 := by
    simp only [fourL, List.mem_cons, List.not_mem_nil, or_false, Prod.mk.injEq] at hm
    rcases hm with h | h | h | h
    · exact .inl h.2.1
    · exact .inr (.inl h.2.1)
    · exact .inr (.inr (.inl h.2.1))
    · exact .inr (.inr (.inr h.2.1))
  have n17 : done 17 = false := by
    cases h17 : done 17 with
    | false => rfl
    | true =>
      obtain ⟨_, h4, h8, h12, h16⟩ := h.all h17
      rcases hi4 with rfl | rfl | rfl | rfl <;> simp_all
  have n18 : done 18 = false := by
    cases h18 : done 18 with
    | false => rfl
    | true => have := (h.rng h18).1; rw [n17] at this; cases this
  obtain ⟨w', hr, hm', ht⟩ := run_put hT hK (h.mapA h0 n18) k v
  rw [entL_put (four_rising qe) (by simp [fourL]) hm] at hm'
  have hi18 : i ≠ 18 ∧ i ≠ 17 ∧ i ≠ 0 := by omega
  refine ⟨w', hr, pure_upd h.pur (fun p hp hpi => ?_), ?_, fun h' => ?_, fun _ _ => hm', fun h' => ?_, fun h' => ?_⟩
  · exfalso
    simp only [rjL, List.mem_cons, List.not_mem_nil, or_false] at hp
    rcases hp with rfl | rfl | rfl | rfl | rfl | rfl | rfl | rfl | rfl | rfl | rfl | rfl | rfl | rfl <;> dsimp only at hpi <;> omega
  · exact h.turns.extend ht (by simp)
  · simp [also, h0] at h'
  · simp [also, hi18.2.1.symm, n17] at h'
  · simp [also, hi18.1.symm, n18] at h'

theorem RJ.move17 {wE : World} {qe : Nat} {done : Nat → Bool} {val : Nat → Value} {w : World} (h : RJ wE qe done val w) (h17 : done 17 = false) (ha : done 0 = true ∧ done 4 = true ∧ done 8 = true ∧ done 12 = true ∧ done 16 = true) : RJ wE qe (also done 17) (withVal val 17 (.map (some wE.heap.size))) w := by
  have n18 : done 18 = false := by
    cases h18 : done 18 with
    | false => rfl
    | true => have := (h.rng h18).1; rw [h17] at this; cases this
  have e : ∀ j, j ≠ 17 → also done 17 j = done j := fun j hj => by simp [also, hj]
  have eL : entL (fourL qe) (also done 17) = entL (fourL qe) done := entL_same fun p hp => by
    simp only [fourL, List.mem_cons, List.not_mem_nil, or_false] at hp
    rcases hp with rfl | rfl | rfl | rfl <;> exact e _ (by dsimp only; omega)
  refine ⟨pure_upd h.pur (fun p hp hpi => ?_), h.turns, fun h' => ?_, fun _ _ => ?_, fun _ => ?_, fun h' => ?_⟩
  · simp only [rjL, List.mem_cons, List.not_mem_nil, or_false] at hp
    rcases hp with rfl | rfl | rfl | rfl | rfl | rfl | rfl | rfl | rfl | rfl | rfl | rfl | rfl | rfl <;> first | rfl | (dsimp only at hpi; omega)
  · rw [e 0 (by omega), ha.1] at h'; cases h'
  · rw [eL]; exact h.mapA ha.1 n18
  · rw [e 0 (by omega), e 4 (by omega), e 8 (by omega), e 12 (by omega), e 16 (by omega)]; exact ha
  · rw [e 18 (by omega), n18] at h'; cases h'

theorem RJ.range {P : Program} {T K E : TypeId} {wE : World} {qe : Nat} {done : Nat → Bool} {val : Nat → Value} {w : World} (hT : P.underlying T = some (.map K E)) (h : RJ wE qe done val w) (h18 : done 18 = false) (h17 : done 17 = true) :
    ∃ it w', (Instr.range T (.map (some wE.heap.size))).run P w = .ok (fieldP it 0) w' ∧ RJ wE qe (also done 18) (withVal val 18 (fieldP it 0)) w' := by
  have ha := h.all h17
  have hm := h.mapA ha.1 h18
  have eL : entL (fourL qe) done = fourM qe := by
    rw [entL_all (fun p hp => by
      simp only [fourL, List.mem_cons, List.not_mem_nil, or_false] at hp
      rcases hp with rfl | rfl | rfl | rfl
      · exact ha.2.1
      · exact ha.2.2.1
      · exact ha.2.2.2.1
      · exact ha.2.2.2.2)]
    rfl
  rw [eL] at hm
  obtain ⟨o, hr, hra⟩ := run_range_new hT hm
  have e : ∀ j, j ≠ 18 → also done 18 j = done j := fun j hj => by simp [also, hj]
  have hlt := hm.lt
  refine ⟨w.heap.size, _, hr, pure_upd h.pur (fun p hp hpi => ?_), h.turns.alloc _, fun h' => ?_, fun _ h' => by simp [also] at h', fun _ => ?_, fun _ => ⟨?_, w.heap.size, by simp [withVal], by omega, hlt, hra⟩⟩
  · exfalso
    simp only [rjL, List.mem_cons, List.not_mem_nil, or_false] at hp
    rcases hp with rfl | rfl | rfl | rfl | rfl | rfl | rfl | rfl | rfl | rfl | rfl | rfl | rfl | rfl <;> dsimp only at hpi <;> omega
  · rw [e 0 (by omega), ha.1] at h'; cases h'
  · rw [e 0 (by omega), e 4 (by omega), e 8 (by omega), e 12 (by omega), e 16 (by omega)]; exact ha
  · rw [e 17 (by omega)]; exact h17
/-! ### the walk -/
def rangeLeft (w : World) (r b : Nat) : Nat :=
  match w.heap[r]?, w.heap[b]? with
  | some (.mapIter _ _ seen _), some (.map es _) => (leftOf es seen).size
  | _, _ => 0
theorem RangeAt.left_eq {w : World} {r b : Nat} {l done left : List (Bytes × Value)} (h : RangeAt w r b l done left) : rangeLeft w r b = left.length := by
  obtain ⟨es, clock, seen, c0, h1, _, h2, _, h3, _⟩ := h
  unfold rangeLeft
  rw [h1, h2]
  have := h3.length_eq
  simpa [encM] using this

def fourKey : Nat → Bytes
  | 0 => sEventId | 1 => sRoomId | 2 => sSender | _ => sType
def fld (v : JV) (done : List (Bytes × Value)) (k : Bytes) : Bytes := if done.any (fun p => p.1 == k) then textO (getJ v k) else []
/-- The event's cells while the four texts come. -/
def evCells (v : JV) (done : List (Bytes × Value)) (q : Nat) : Array Value :=
  #[.string (mkS (fld v done sEventId)), .string (mkS (fld v done sRoomId)), .string (mkS (fld v done sSender)), .string (mkS (fld v done sType)), .bool false, .string emptyS, .string emptyS, ptrV q]
theorem four_mem {qe : Nat} {k : Bytes} {pv : Value} (h : (k, pv) ∈ fourM qe) : ∃ i, i < 4 ∧ k = fourKey i ∧ pv = fieldP qe i := by
  simp only [fourM, List.mem_cons, List.not_mem_nil, or_false, Prod.mk.injEq] at h
  rcases h with ⟨rfl, rfl⟩ | ⟨rfl, rfl⟩ | ⟨rfl, rfl⟩ | ⟨rfl, rfl⟩
  · exact ⟨0, by omega, rfl, rfl⟩
  · exact ⟨1, by omega, rfl, rfl⟩
  · exact ⟨2, by omega, rfl, rfl⟩
  · exact ⟨3, by omega, rfl, rfl⟩
theorem fld_snoc (v : JV) (done : List (Bytes × Value)) (k x : Bytes) (pv : Value) : fld v (done ++ [(k, pv)]) x = if k = x then textO (getJ v x) else fld v done x := by
  unfold fld
  rw [List.any_append]
  by_cases h : k = x
  · subst h; simp
  · have : (k == x) = false := by simpa using h
    rw [if_neg h]
    simp only [List.any_cons, List.any_nil, this, Bool.or_false]
theorem evCells_set {v : JV} {done : List (Bytes × Value)} {q i : Nat} (hi : i < 4) (pv : Value) : (evCells v done q).setIfInBounds i (.string (mkS (textO (getJ v (fourKey i))))) = evCells v (done ++ [(fourKey i, pv)]) q := by
  unfold evCells
  simp only [fld_snoc]
  have hne : sEventId ≠ sRoomId ∧ sEventId ≠ sSender ∧ sEventId ≠ sType ∧ sRoomId ≠ sSender ∧ sRoomId ≠ sType ∧ sSender ≠ sType := by decide
  obtain ⟨n1, n2, n3, n4, n5, n6⟩ := hne
  obtain rfl | rfl | rfl | rfl : i = 0 ∨ i = 1 ∨ i = 2 ∨ i = 3 := by omega
  · simp [fourKey, n1, n2, n3]
  · simp [fourKey, n1.symm, n4, n5]
  · simp [fourKey, n2.symm, n4.symm, n6]
  · simp [fourKey, n3.symm, n5.symm, n6.symm]
theorem evCells_old (v : JV) (done : List (Bytes × Value)) (q : Nat) {i : Nat} (hi : i < 4) : ∃ s : ByteArray, (evCells v done q)[i]? = some (.string s) := by
  obtain rfl | rfl | rfl | rfl : i = 0 ∨ i = 1 ∨ i = 2 ∨ i = 3 := by omega
  all_goals exact ⟨_, rfl⟩
theorem evCells_full {v : JV} {done : List (Bytes × Value)} {qe q : Nat} (h : (done ++ []).Perm (fourM qe)) : evCells v done q =
    #[.string (mkS (evOf v).id), .string (mkS (evOf v).room), .string (mkS (evOf v).sender), .string (mkS (evOf v).type), .bool false, .string emptyS, .string emptyS, ptrV q] := by
  rw [List.append_nil] at h
  have hf : ∀ k pv, (k, pv) ∈ fourM qe → fld v done k = textO (getJ v k) := fun k pv hm => by
    unfold fld
    rw [if_pos]
    rw [List.any_eq_true]
    exact ⟨_, h.mem_iff.2 hm, by simp⟩
  unfold evCells
  rw [hf sEventId (fieldP qe 0) (by simp [fourM]), hf sRoomId (fieldP qe 1) (by simp [fourM]), hf sSender (fieldP qe 2) (by simp [fourM]), hf sType (fieldP qe 3) (by simp [fourM])]
  rfl
theorem four_full {v : JV} {done : List (Bytes × Value)} {qe : Nat} (h : (done ++ []).Perm (fourM qe)) (hd : ∀ p ∈ done, isTextO (getJ v p.1) = true) : fourOk v = true := by
  rw [List.append_nil] at h
  have hf : ∀ k pv, (k, pv) ∈ fourM qe → isTextO (getJ v k) = true := fun k pv hm => hd _ (h.mem_iff.2 hm)
  unfold fourOk
  rw [hf sEventId (fieldP qe 0) (by simp [fourM]), hf sRoomId (fieldP qe 1) (by simp [fourM]), hf sSender (fieldP qe 2) (by simp [fourM]), hf sType (fieldP qe 3) (by simp [fourM])]
  rfl
theorem four_lacks {v : JV} {i : Nat} (hi : i < 4) (h : isTextO (getJ v (fourKey i)) = false) : fourOk v = false := by
  unfold fourOk
  obtain rfl | rfl | rfl | rfl : i = 0 ∨ i = 1 ∨ i = 2 ∨ i = 3 := by omega
  all_goals (simp only [fourKey] at h; simp [h])

def evObjE (E : Ev) (body : Value) : Obj := evObj E.id E.room E.sender E.type E.state E.key E.redacts body
/-- What ReadEvent gives. -/
def ReadRet (q : Nat) (v : JV) (w : World) (e : Ending) (w' : World) : Prop :=
  Below w.heap.size w w' ∧
  match readEvJ v with
  | (n, none) => e = .returned (.tuple #[.pointer none, .int .i64 n])
  | (n, some E) => ∃ qe, e = .returned (.tuple #[ptrV qe, .int .i64 n]) ∧ w.heap.size ≤ qe ∧ w'.heap[qe]? = some (evObjE E (ptrV q))
theorem ReadRet.no {q : Nat} {v : JV} {w : World} {e : Ending} {w' : World} {n : Int} (h : readEvJ v = (n, none)) (hb : Below w.heap.size w w') (he : e = .returned (.tuple #[.pointer none, .int .i64 n])) : ReadRet q v w e w' :=
  ⟨hb, by rw [h]; exact he⟩
theorem readEvJ_four {v : JV} (h5 : kindJ v = 5) (h : fourOk v = false) : readEvJ v = (90, none) := by
  unfold readEvJ; rw [if_neg (by simp [h5]), if_pos h]

/-- Behind the four texts. -/
def EvW0 (v : JV) (q : Nat) (w wy : World) : Prop := Below w.heap.size w wy ∧
  wy.heap[w.heap.size]? = some (.cells #[.string (mkS (evOf v).id), .string (mkS (evOf v).room), .string (mkS (evOf v).sender), .string (mkS (evOf v).type), .bool false, .string emptyS, .string emptyS, ptrV q] 122 (0, 0))
/-- Behind the key of state. -/
def EvW1 (v : JV) (q : Nat) (w wy : World) : Prop := Below w.heap.size w wy ∧ ¬ ((getJ v sStateKey).isSome = true ∧ isTextO (getJ v sStateKey) = false) ∧
  wy.heap[w.heap.size]? = some (evObj (evOf v).id (evOf v).room (evOf v).sender (evOf v).type (evOf v).state (evOf v).key [] (ptrV q))
theorem EvW1.step {v : JV} {q : Nat} {w wy wz : World} (h : EvW1 v q w wy) (hb : Below wy.heap.size wy wz) : EvW1 v q w wz :=
  ⟨below_trans h.1 hb, h.2.1, (hb.block _ (blk_lt h.2.2)).trans h.2.2⟩

set_option maxRecDepth 100000 in
set_option maxHeartbeats 4000000 in
theorem readEvent_any (r : Ro) (w : World) (hG : Glob w) (hh : Has r w) {q : Nat} {v : JV} (hv : IsV r q v) (hok : JOk v) (h5 : kindJ v = 5) :
    Calls Tryz.prog 25 #[ptrV q] w fun e w' => ReadRet q v w e w' := by
  have HK := Lib.hid (fun wx (hx : Has r wx) => kind_any r wx hx (pv := ptrV q) (o := some v) ⟨q, rfl, hv⟩ (k := 5) (by show ((kindJ v : Nat) : Int) = 5; rw [h5]; rfl))
  have HH := Lib.hid hh
  have H5 := Lib.hid h5
  have HV := Lib.hid hv
  have HOK := Lib.hid hok
  have HG := Lib.hid hG
  have HRF : Hid (∀ b, w.heap.size ≤ b → r b = none) := Lib.hid (fun b hb => by cases hrb : r b with | none => rfl | some o => exact absurd (blk_lt (hh b o hrb)) (by omega))
  clear h5 hh hv hok hG
  go_enter Tryz.func25, Tryz.ntmps25
  go_wp2_with fail
  refine (HK.out w HH.out).mono ?_
  rintro e w1 ⟨rfl, rfl⟩
  go_wp2_with fail
  generalize hwE : w.alloc _ = wE
  refine wp_region_parts_lit (by kernel_rfl) (by kernel_rfl) (by kernel_rfl) (by decide) (by simp) (RJ wE w.heap.size) (RJ.start _ _) ?_ ?_
  · generalize hA : ({ tmps := _, defers := [] } : Act) = a0
    have e4 : a0.tmps[4]? = some (fieldP w.heap.size 0) := by rw [← hA]; rfl
    clear hA
    repeat' (first | with_reducible exact stepsOk_nil | with_reducible refine stepsOk_cons ?_ ?_)
    · -- 0
      intro done val a wx hi hdeps hs hJ
      exact step_value (v := .map (some wx.heap.size)) (w' := wx.alloc (.map #[] 0)) (by simp [execOp, run_makeMap, Result.andThen]) ⟨_, rfl, hJ.make hi⟩
    · -- 1
      intro done val a wx hi hdeps hs hJ
      have e1 := hs.oldV 4 (by kernel_rfl) e4
      exact step_value (v := fieldP w.heap.size 0) (w' := wx) (by simp [execOp, e1, go_sem]) ⟨_, rfl, hJ.pure 1 _ rfl (by simp [rjL])⟩
    · -- 2
      intro done val a wx hi hdeps hs hJ
      have d1 := hdeps ⟨1, .data⟩ (by simp) rfl
      have e1 := hs.newV 1 21 rfl rfl d1 (hJ.pur (1, _) (by simp [rjL]; rfl) d1)
      exact step_value (v := fieldP w.heap.size 0) (w' := wx) (by simp [execOp, e1, go_sem]) ⟨_, rfl, hJ.pure 2 _ rfl (by simp [rjL])⟩
    · -- 3
      intro done val a wx hi hdeps hs hJ
      have d1 := hdeps ⟨2, .data⟩ (by simp) rfl
      have e1 := hs.newV 2 22 rfl rfl d1 (hJ.pur (2, _) (by simp [rjL]; rfl) d1)
      exact step_value (v := fieldP w.heap.size 0) (w' := wx) (by simp [execOp, e1, go_sem]) ⟨_, rfl, hJ.pure 3 _ rfl (by simp [rjL])⟩
    · -- 4
      intro done val a wx hi hdeps hs hJ
      have d0 := hdeps ⟨0, .data⟩ (by simp) rfl
      have d1 := hdeps ⟨3, .data⟩ (by simp) rfl
      have e1 := hs.newV 0 20 rfl rfl d0 (hJ.pur (0, _) (by simp [rjL]; rfl) d0)
      have e2 := hs.newV 3 23 rfl rfl d1 (hJ.pur (3, _) (by simp [rjL]; rfl) d1)
      obtain ⟨w', h1, h2⟩ := hJ.insert (P := Tryz.prog) Tryz.underlying124 Tryz.underlying9 hi d0 (k := sEventId) (by simp [fourL]; rfl)
      dsimp only [mkS, sEventId] at h1
      exact step_skip (w' := w') (by simp [execOp, e1, e2, Act.eval, h1, Result.andThen]) ⟨_, rfl, h2⟩
    · -- 5
      intro done val a wx hi hdeps hs hJ
      have e1 := hs.oldV 4 (by kernel_rfl) e4
      exact step_value (v := fieldP w.heap.size 0) (w' := wx) (by simp [execOp, e1, go_sem]) ⟨_, rfl, hJ.pure 5 _ rfl (by simp [rjL])⟩
    · -- 6
      intro done val a wx hi hdeps hs hJ
      have d1 := hdeps ⟨5, .data⟩ (by simp) rfl
      have e1 := hs.newV 5 24 rfl rfl d1 (hJ.pur (5, _) (by simp [rjL]; rfl) d1)
      exact step_value (v := fieldP w.heap.size 0) (w' := wx) (by simp [execOp, e1, go_sem]) ⟨_, rfl, hJ.pure 6 _ rfl (by simp [rjL])⟩
    · -- 7
      intro done val a wx hi hdeps hs hJ
      have d1 := hdeps ⟨6, .data⟩ (by simp) rfl
      have e1 := hs.newV 6 25 rfl rfl d1 (hJ.pur (6, _) (by simp [rjL]; rfl) d1)
      exact step_value (v := fieldP w.heap.size 1) (w' := wx) (by simp [execOp, e1, go_sem]) ⟨_, rfl, hJ.pure 7 _ rfl (by simp [rjL])⟩
    · -- 8
      intro done val a wx hi hdeps hs hJ
      have d0 := hdeps ⟨0, .data⟩ (by simp) rfl
      have d1 := hdeps ⟨7, .data⟩ (by simp) rfl
      have e1 := hs.newV 0 20 rfl rfl d0 (hJ.pur (0, _) (by simp [rjL]; rfl) d0)
      have e2 := hs.newV 7 26 rfl rfl d1 (hJ.pur (7, _) (by simp [rjL]; rfl) d1)
      obtain ⟨w', h1, h2⟩ := hJ.insert (P := Tryz.prog) Tryz.underlying124 Tryz.underlying9 hi d0 (k := sRoomId) (by simp [fourL]; rfl)
      dsimp only [mkS, sRoomId] at h1
      exact step_skip (w' := w') (by simp [execOp, e1, e2, Act.eval, h1, Result.andThen]) ⟨_, rfl, h2⟩
    · -- 9
      intro done val a wx hi hdeps hs hJ
      have e1 := hs.oldV 4 (by kernel_rfl) e4
      exact step_value (v := fieldP w.heap.size 0) (w' := wx) (by simp [execOp, e1, go_sem]) ⟨_, rfl, hJ.pure 9 _ rfl (by simp [rjL])⟩
    · -- 10
      intro done val a wx hi hdeps hs hJ
      have d1 := hdeps ⟨9, .data⟩ (by simp) rfl
      have e1 := hs.newV 9 27 rfl rfl d1 (hJ.pur (9, _) (by simp [rjL]; rfl) d1)
      exact step_value (v := fieldP w.heap.size 0) (w' := wx) (by simp [execOp, e1, go_sem]) ⟨_, rfl, hJ.pure 10 _ rfl (by simp [rjL])⟩
    · -- 11
      intro done val a wx hi hdeps hs hJ
      have d1 := hdeps ⟨10, .data⟩ (by simp) rfl
      have e1 := hs.newV 10 28 rfl rfl d1 (hJ.pur (10, _) (by simp [rjL]; rfl) d1)
      exact step_value (v := fieldP w.heap.size 2) (w' := wx) (by simp [execOp, e1, go_sem]) ⟨_, rfl, hJ.pure 11 _ rfl (by simp [rjL])⟩
    · -- 12
      intro done val a wx hi hdeps hs hJ
      have d0 := hdeps ⟨0, .data⟩ (by simp) rfl
      have d1 := hdeps ⟨11, .data⟩ (by simp) rfl
      have e1 := hs.newV 0 20 rfl rfl d0 (hJ.pur (0, _) (by simp [rjL]; rfl) d0)
      have e2 := hs.newV 11 29 rfl rfl d1 (hJ.pur (11, _) (by simp [rjL]; rfl) d1)
      obtain ⟨w', h1, h2⟩ := hJ.insert (P := Tryz.prog) Tryz.underlying124 Tryz.underlying9 hi d0 (k := sSender) (by simp [fourL]; rfl)
      dsimp only [mkS, sSender] at h1
      exact step_skip (w' := w') (by simp [execOp, e1, e2, Act.eval, h1, Result.andThen]) ⟨_, rfl, h2⟩
    · -- 13
      intro done val a wx hi hdeps hs hJ
      have e1 := hs.oldV 4 (by kernel_rfl) e4
      exact step_value (v := fieldP w.heap.size 0) (w' := wx) (by simp [execOp, e1, go_sem]) ⟨_, rfl, hJ.pure 13 _ rfl (by simp [rjL])⟩
    · -- 14
      intro done val a wx hi hdeps hs hJ
      have d1 := hdeps ⟨13, .data⟩ (by simp) rfl
      have e1 := hs.newV 13 30 rfl rfl d1 (hJ.pur (13, _) (by simp [rjL]; rfl) d1)
      exact step_value (v := fieldP w.heap.size 0) (w' := wx) (by simp [execOp, e1, go_sem]) ⟨_, rfl, hJ.pure 14 _ rfl (by simp [rjL])⟩
    · -- 15
      intro done val a wx hi hdeps hs hJ
      have d1 := hdeps ⟨14, .data⟩ (by simp) rfl
      have e1 := hs.newV 14 31 rfl rfl d1 (hJ.pur (14, _) (by simp [rjL]; rfl) d1)
      exact step_value (v := fieldP w.heap.size 3) (w' := wx) (by simp [execOp, e1, go_sem]) ⟨_, rfl, hJ.pure 15 _ rfl (by simp [rjL])⟩
    · -- 16
      intro done val a wx hi hdeps hs hJ
      have d0 := hdeps ⟨0, .data⟩ (by simp) rfl
      have d1 := hdeps ⟨15, .data⟩ (by simp) rfl
      have e1 := hs.newV 0 20 rfl rfl d0 (hJ.pur (0, _) (by simp [rjL]; rfl) d0)
      have e2 := hs.newV 15 32 rfl rfl d1 (hJ.pur (15, _) (by simp [rjL]; rfl) d1)
      obtain ⟨w', h1, h2⟩ := hJ.insert (P := Tryz.prog) Tryz.underlying124 Tryz.underlying9 hi d0 (k := sType) (by simp [fourL]; rfl)
      dsimp only [mkS, sType] at h1
      exact step_skip (w' := w') (by simp [execOp, e1, e2, Act.eval, h1, Result.andThen]) ⟨_, rfl, h2⟩
    · -- 17
      intro done val a wx hi hdeps hs hJ
      have d0 := hdeps ⟨0, .data⟩ (by simp) rfl
      have e1 := hs.newV 0 20 rfl rfl d0 (hJ.pur (0, _) (by simp [rjL]; rfl) d0)
      exact step_value (v := .map (some wE.heap.size)) (w' := wx) (by simp [execOp, e1, go_sem]) ⟨_, rfl, hJ.move17 hi ⟨d0, hdeps ⟨4, .data⟩ (by simp) rfl, hdeps ⟨8, .data⟩ (by simp) rfl, hdeps ⟨12, .data⟩ (by simp) rfl, hdeps ⟨16, .data⟩ (by simp) rfl⟩⟩
    · -- 18
      intro done val a wx hi hdeps hs hJ
      have d1 := hdeps ⟨17, .data⟩ (by simp) rfl
      have e1 := hs.newV 17 33 rfl rfl d1 (hJ.pur (17, _) (by simp [rjL]; rfl) d1)
      obtain ⟨it, w', h1, h2⟩ := hJ.range (P := Tryz.prog) Tryz.underlying124 hi d1
      exact step_value (v := fieldP it 0) (w' := w') (by simp [execOp, Act.eval, e1, h1, Result.andThen]) ⟨_, rfl, h2⟩
  · intro done val wR hdone hJ
    obtain ⟨it, v18, hit, hlt, hR⟩ := (hJ.rng (hdone 18 (by simp))).2
    have v0 := hJ.pur (0, _) (by simp [rjL]; rfl) (hdone 0 (by simp))
    have v1 := hJ.pur (1, _) (by simp [rjL]; rfl) (hdone 1 (by simp))
    have v2 := hJ.pur (2, _) (by simp [rjL]; rfl) (hdone 2 (by simp))
    have v3 := hJ.pur (3, _) (by simp [rjL]; rfl) (hdone 3 (by simp))
    have v5 := hJ.pur (5, _) (by simp [rjL]; rfl) (hdone 5 (by simp))
    have v6 := hJ.pur (6, _) (by simp [rjL]; rfl) (hdone 6 (by simp))
    have v7 := hJ.pur (7, _) (by simp [rjL]; rfl) (hdone 7 (by simp))
    have v9 := hJ.pur (9, _) (by simp [rjL]; rfl) (hdone 9 (by simp))
    have v10 := hJ.pur (10, _) (by simp [rjL]; rfl) (hdone 10 (by simp))
    have v11 := hJ.pur (11, _) (by simp [rjL]; rfl) (hdone 11 (by simp))
    have v13 := hJ.pur (13, _) (by simp [rjL]; rfl) (hdone 13 (by simp))
    have v14 := hJ.pur (14, _) (by simp [rjL]; rfl) (hdone 14 (by simp))
    have v15 := hJ.pur (15, _) (by simp [rjL]; rfl) (hdone 15 (by simp))
    have v17 := hJ.pur (17, _) (by simp [rjL]; rfl) (hdone 17 (by simp))
    dsimp only at v0 v1 v2 v3 v5 v6 v7 v9 v10 v11 v13 v14 v15 v17
    have ht := hJ.turns
    clear hJ hdone
    show Exit.then _ _ _ (putAll _ _ [val 0, val 1, val 2, val 3, val 4, val 5, val 6, val 7, val 8, val 9, val 10, val 11, val 12, val 13, val 14, val 15, val 16, val 17, val 18]) wR
    rw [v0, v1, v2, v3, v5, v6, v7, v9, v10, v11, v13, v14, v15, v17, v18]
    simp only [putAll, Act.put]
    clear v0 v1 v2 v3 v5 v6 v7 v9 v10 v11 v13 v14 v15 v17 v18
    go_simp
    have hqe : wE.heap[w.heap.size]? = some (.cells (evCells v [] q) 122 (0, 0)) := by rw [← hwE]; exact blk_new w _
    have hqe1 := ht.heap hqe (by simp)
    have HWE := Lib.hid hwE
    have hB : Below w.heap.size w wR := (by rw [← hwE] at ht; exact ((Below.refl _ w).alloc (Nat.le_refl _) _).trans (ht.below_of (by simp) (by simp)))
    have hmb : w.heap.size < wE.heap.size := by rw [← hwE]; simp
    have HB := Lib.hid hB
    have HR := Lib.hid hR
    have HQ := Lib.hid hqe1
    clear hwE hqe hqe1 hB hR ht
    go_wp2_with fail
    go_loopw [] (fun wr => ∃ done left, RangeAt wr it wE.heap.size (fourM w.heap.size) done left ∧ wr.heap[w.heap.size]? = some (.cells (evCells v done q) 122 (0, 0)) ∧ (∀ p ∈ done, isTextO (getJ v p.1) = true) ∧ Below w.heap.size w wr) (fun wr => rangeLeft wr it wE.heap.size)
    case atStart => exact ⟨[], _, HR.out, HQ.out, (fun p hp => by cases hp), HB.out⟩
    case round =>
      obtain ⟨done, left, hR, hq, hd, hb⟩ := hrel
      have HR := Lib.hid hR
      have HQ := Lib.hid hq
      have HD := Lib.hid hd
      have HB := Lib.hid hb
      have hst := range_step (P := Tryz.prog) 0 hR
      clear hR hq hd hb
      have hit0 : it ≠ w.heap.size := by omega
      rcases hst with ⟨rfl, hrun⟩ | ⟨k, pv, left', w', hperm, hrun, hR', hent, ht'⟩
      · have hfull := HR.out.perm
        have hq := HQ.out
        rw [evCells_full hfull] at hq
        have HF := Lib.hid (four_full hfull HD.out)
        have HQ := Lib.hid hq
        have HB := Lib.hid HB.out
        have HHR := Lib.hid (HH.out.below HB.out)
        have hok1 : OkO (some v) := fun x hx => by cases hx; exact HOK.out
        have hpv : PV r (ptrV q) (some v) := ⟨q, rfl, HV.out⟩
        obtain ⟨oc, hoc⟩ : ∃ oc, getO (some v) sContent = oc := ⟨_, rfl⟩
        have hgc := get_any r wr HHR.out hpv hok1 (mkS sContent)
        rw [list_mkS, hoc] at hgc
        have HGC := Lib.hid hgc
        have HOC := Lib.hid hoc
        have HOK1 := Lib.hid hok1
        have HPV := Lib.hid hpv
        clear hfull hq hok1 hpv hgc hoc HD HR
        go_wp2_with fail
        refine HGC.out.mono ?_
        rintro e w2 ⟨pc, rfl, hpc, hb2⟩
        have HQ2 := Lib.hid ((hb2.block _ (blk_lt HQ.out)).trans HQ.out)
        have HB2 := Lib.hid (below_trans HB.out hb2)
        have HH2 := Lib.hid (HHR.out.below hb2)
        obtain ⟨k, hk⟩ : ∃ k : Int, (kindO oc : Int) = k := ⟨_, rfl⟩
        have HK2 := Lib.hid (kind_any r w2 HH2.out hpc hk)
        have HKK := Lib.hid hk
        clear hb2 hpc hk
        by_cases hk5 : k = 5
        · have hk5' : ((k : Int) != 5) = false := by simp [hk5]
          have HC := Lib.hid (show kindO (getJ v sContent) = 5 by have h1 := HOC.out; have h2 := HKK.out; unfold getO at h1; simp at h1; rw [h1]; omega)
          clear hk5
          go_wp2_with fail
          refine HK2.out.mono ?_
          rintro e w3 ⟨rfl, rfl⟩
          obtain ⟨os, hos⟩ : ∃ os, getO (some v) sStateKey = os := ⟨_, rfl⟩
          have HOS := Lib.hid (show getJ v sStateKey = os from hos)
          clear hos HKK HK2 HQ HB HGC HK HWE HHR
          go_upto_region 13 with fail
          go_cut [57] (fun s57 wy => s57 = .bool os.isSome ∧ EvW0 v q w wy)
          case first =>
            have hgs := get_any r w2 HH2.out HPV.out HOK1.out (mkS sStateKey)
            rw [list_mkS] at hgs
            have HGS := Lib.hid hgs
            clear hgs
            go_wp2_with fail
            refine HGS.out.mono ?_
            rintro e w3 ⟨ps, rfl, hps, hb3⟩
            have HW3 := Lib.hid (show EvW0 v q w w3 from ⟨below_trans HB2.out hb3, (hb3.block _ (blk_lt HQ2.out)).trans HQ2.out⟩)
            have hcs := hps.none_iff
            clear hb3 hps
            rcases hcs with ⟨rfl, hn⟩ | ⟨qs, sv, rfl, hn, _⟩
            · have HN := Lib.hid (HOS.out.symm.trans hn)
              clear hn
              go_wp2_with fail
              go_meet
              exact ⟨by rw [HN.out]; rfl, HW3.out⟩
            · have HN := Lib.hid (HOS.out.symm.trans hn)
              clear hn
              go_wp2_with fail
              go_meet
              exact ⟨by rw [HN.out]; rfl, HW3.out⟩
          case rest =>
          obtain ⟨rfl, hw3⟩ := hcut
          have HW3 := Lib.hid hw3
          have HH3 := Lib.hid (HH.out.below hw3.1)
          clear hw3
          go_upto_if 57 with fail
          go_cut [] (fun wy => EvW1 v q w wy)
          case first =>
            cases os with
            | none =>
              go_wp2_with fail
              go_meet
              exact ⟨HW3.out.1, by rw [HOS.out]; simp, by rw [HW3.out.2]; simp [evObj, evOf, HOS.out, textO]⟩
            | some sv =>
              have HTX := Lib.hid (rtext_any r wc HH3.out HPV.out HOK1.out (mkS sStateKey) (o' := some sv) HOS.out)
              go_wp2_with fail
              refine HTX.out.mono ?_
              rintro e w4 ⟨rfl, hb4⟩
              have hq4 := (hb4.block _ (blk_lt HW3.out.2)).trans HW3.out.2
              have HQ4 := Lib.hid hq4
              have HB4 := Lib.hid (below_trans HW3.out.1 hb4)
              have c4 : w4.cell? ⟨w.heap.size, 4, none⟩ = some (.bool false) := blk_cell hq4 4
              have c5 : w4.cell? ⟨w.heap.size, 5, none⟩ = some (.string emptyS) := blk_cell hq4 5
              have z4 := blk_free hq4 4
              have z5 := blk_free hq4 5
              clear hb4 hq4
              cases hto : isTextO (some sv) with
              | false =>
                have HTO := Lib.hid hto
                clear hto
                go_wp2_with fail
                go_ret2
                exact ReadRet.no (by unfold readEvJ; rw [if_neg (by simp [H5.out]), if_neg (by simp [HF.out]), if_neg (by simp [HC.out]), if_pos ⟨by rw [HOS.out]; rfl, by rw [HOS.out]; exact HTO.out⟩]) HB4.out rfl
              | true =>
                have HTO := Lib.hid hto
                clear hto
                go_wp2_with fail
                go_meet
                exact ⟨(HB4.out.setCell (by simp) _).setCell (by simp) _, by rw [HOS.out]; simp [HTO.out], by rw [blk_set (blk_set HQ4.out 4 _) 5]; simp [evObj, evOf, HOS.out]⟩
          case rest =>
          have HW4 := Lib.hid hcut
          have HH4 := Lib.hid (HH.out.below hcut.1)
          clear hcut HW3 HH3
          go_upto_region 19 with fail
          obtain ⟨tE, htE⟩ : ∃ t : ByteArray, mkS (evOf v).type = t := ⟨_, rfl⟩
          have c3 : wc.cell? ⟨w.heap.size, 3, none⟩ = some (.string tE) := by rw [← htE]; exact blk_cell HW4.out.2.2 3
          have HTE := Lib.hid htE
          clear htE
          go_cut [81] (fun s81 wy => s81 = .bool (redOf v) ∧ EvW1 v q w wy)
          case first =>
            by_cases hty : tE.data.toList = sRedaction
            · have hty2 : tE = mkS sRedaction := str_eq hty
              have HTY := Lib.hid hty
              clear hty
              subst hty2
              obtain ⟨od, hod⟩ : ∃ od, getO (some v) sRedacts = od := ⟨_, rfl⟩
              have hgd := get_any r wc HH4.out HPV.out HOK1.out (mkS sRedacts)
              rw [list_mkS, hod] at hgd
              have HGD := Lib.hid hgd
              have HOD := Lib.hid (show getJ v sRedacts = od from hod)
              clear hgd hod
              unfold sRedaction at c3
              go_wp2_with fail
              refine HGD.out.mono ?_
              rintro e w5 ⟨pd, rfl, hpd, hb5⟩
              have HW5 := Lib.hid (HW4.out.step hb5)
              have hcd := hpd.none_iff
              clear hb5 hpd
              have hty3 : (textO (getJ v sType) == sRedaction) = true := by
                have := congrArg (fun s : ByteArray => s.data.toList) HTE.out
                simp [evOf] at this; simpa using this
              have HT3 := Lib.hid hty3
              clear hty3
              rcases hcd with ⟨rfl, hn⟩ | ⟨qd, dv, rfl, hn, _⟩
              · have HN := Lib.hid (HOD.out.trans hn)
                clear hn
                go_wp2_with fail
                go_meet
                exact ⟨by unfold redOf; rw [HT3.out, HN.out]; rfl, HW5.out⟩
              · have HN := Lib.hid (HOD.out.trans hn)
                clear hn
                go_wp2_with fail
                go_meet
                exact ⟨by unfold redOf; rw [HT3.out, HN.out]; rfl, HW5.out⟩
            · have hty2 : (tE.toList == sRedaction) = false := str_ne hty
              unfold sRedaction at hty2
              have HT3 : Hid ((textO (getJ v sType) == sRedaction) = false) := Lib.hid (by
                have := congrArg (fun s : ByteArray => s.data.toList) HTE.out
                simp [evOf] at this; rw [← this] at hty; simpa using hty)
              clear hty
              go_wp2_with fail
              go_meet
              exact ⟨by unfold redOf; rw [HT3.out]; rfl, HW4.out⟩
          case rest =>
          obtain ⟨rfl, hw5⟩ := hcut
          have HW5 := Lib.hid hw5
          have HH5 := Lib.hid (HH.out.below hw5.1)
          clear hw5 HW4 HH4 c3
          obtain ⟨rd, hrd⟩ : ∃ rd, redOf v = rd := ⟨_, rfl⟩
          rw [hrd]
          have HRD := Lib.hid hrd
          clear hrd
          go_upto_if 81 with fail
          go_cut [11] (fun s11 wy => s11 = .bool rd ∧ Below w.heap.size w wy ∧ ¬ (redOf v = true ∧ isTextO (getJ v sRedacts) = false) ∧ wy.heap[w.heap.size]? = some (evObjE (evOf v) (ptrV q)))
          case first =>
            cases rd with
            | false =>
              go_wp2_with fail
              go_meet
              exact ⟨rfl, HW5.out.1, by rw [HRD.out]; simp, by rw [HW5.out.2.2]; simp [evObjE, evOf, HRD.out]⟩
            | true =>
              obtain ⟨od, hod⟩ : ∃ od, getO (some v) sRedacts = od := ⟨_, rfl⟩
              have HTX := Lib.hid (rtext_any r wc HH5.out HPV.out HOK1.out (mkS sRedacts) (o' := od) hod)
              have HOD := Lib.hid (show getJ v sRedacts = od from hod)
              clear hod
              go_wp2_with fail
              refine HTX.out.mono ?_
              rintro e w6 ⟨rfl, hb6⟩
              have HW6 := Lib.hid (HW5.out.step hb6)
              have c6 : w6.cell? ⟨w.heap.size, 6, none⟩ = some (.string emptyS) := blk_cell HW6.out.2.2 6
              have z6 := blk_free HW6.out.2.2 6
              clear hb6
              cases hto : isTextO od with
              | false =>
                have HTO := Lib.hid hto
                clear hto
                go_wp2_with fail
                go_ret2
                exact ReadRet.no (by unfold readEvJ; rw [if_neg (by simp [H5.out]), if_neg (by simp [HF.out]), if_neg (by simp [HC.out]), if_neg HW5.out.2.1, if_pos ⟨HRD.out, by rw [HOD.out]; exact HTO.out⟩]) HW6.out.1 rfl
              | true =>
                have HTO := Lib.hid hto
                clear hto
                go_wp2_with fail
                go_meet
                exact ⟨rfl, HW6.out.1.setCell (by simp) _, by rw [HOD.out, HTO.out]; simp, by rw [blk_set HW6.out.2.2 6]; simp [evObj, evObjE, evOf, HRD.out, HOD.out]⟩
          case rest =>
          obtain ⟨rfl, hb7, hred, hq7⟩ := hcut
          have HB7 := Lib.hid hb7
          have HRED := Lib.hid hred
          have HG7 := Lib.hid (HG.out.below hb7)
          have HW51 := Lib.hid HW5.out.2.1
          obtain ⟨E, hE⟩ : ∃ E, evOf v = E := ⟨_, rfl⟩
          have hbad : evBad v = (!eventB E.id || !roomB E.room || !userB E.sender || E.type == [] || decide (60 < E.type.length) || decide (60 < E.key.length) || (rd && !eventB E.redacts)) := by
            unfold evBad; rw [hE, HRD.out]
          have hsz : (mkS E.id).size ≤ 140737488351232 ∧ (mkS E.room).size ≤ 140737488351232 ∧ (mkS E.sender).size ≤ 140737488351232 ∧ (mkS E.redacts).size ≤ 140737488351232 := by
            have hl : ∀ k, (textO (getJ v k)).length ≤ 1073741824 := fun k => textO_len (o := getO (some v) k) (getO_ok HOK1.out)
            rw [← hE]
            simp only [size_mkS, evOf]
            refine ⟨Nat.le_trans (hl _) (by omega), Nat.le_trans (hl _) (by omega), Nat.le_trans (hl _) (by omega), ?_⟩
            split
            · exact Nat.le_trans (hl _) (by omega)
            · simp
          rw [hE] at hq7
          have HQ7 := Lib.hid hq7
          have HBAD := Lib.hid hbad
          have HEV := Lib.hid hE
          clear hb7 hred hq7 hE hbad HW5 HH5
          go_upto_region 24 with fail
          go_cut [148] (fun s148 wy => s148 = .bool (evBad v) ∧ Below wc.heap.size wc wy)
          case first =>
            have HCELL := Lib.hid (show ∀ (wx : World), Below wc.heap.size wc wx → ∀ o, wx.cell? ⟨w.heap.size, o, none⟩ = (#[Value.string (mkS E.id), .string (mkS E.room), .string (mkS E.sender), .string (mkS E.type), .bool E.state, .string (mkS E.key), .string (mkS E.redacts), ptrV q] : Array Value)[o]? from
              fun wx hx o => blk_cell ((hx.block _ (blk_lt HQ7.out)).trans HQ7.out) o)
            have c0 : wc.cell? ⟨w.heap.size, 0, none⟩ = some (.string (mkS E.id)) := HCELL.out wc (Below.refl _ _) 0
            obtain ⟨b1, hb1⟩ : ∃ b, eventB E.id = b := ⟨_, rfl⟩
            have HB1 := Lib.hid hb1
            go_wp2_with fail
            refine (isEvent_any (mkS E.id) (b := b1) hb1 hsz.1 wc HG7.out).mono ?_
            rintro e w8 ⟨rfl, hb8⟩
            clear hb1
            have c1 : w8.cell? ⟨w.heap.size, 1, none⟩ = some (.string (mkS E.room)) := HCELL.out w8 hb8 1
            have HB8 := Lib.hid hb8
            have HG8 := Lib.hid (HG7.out.below hb8)
            clear hb8 c0
            cases b1 with
            | false =>
              go_wp2_with fail
              go_meet
              exact ⟨by rw [HBAD.out, HB1.out]; simp, HB8.out⟩
            | true =>
            obtain ⟨b2, hb2⟩ : ∃ b, roomB E.room = b := ⟨_, rfl⟩
            have HB2 := Lib.hid hb2
            go_wp2_with fail
            refine (isRoom_any (mkS E.room) (b := b2) hb2 hsz.2.1 w8 HG8.out).mono ?_
            rintro e w9 ⟨rfl, hb9⟩
            clear hb2
            have HB9 := Lib.hid (below_trans HB8.out hb9)
            have HG9 := Lib.hid (HG8.out.below hb9)
            have c2 : w9.cell? ⟨w.heap.size, 2, none⟩ = some (.string (mkS E.sender)) := HCELL.out w9 HB9.out 2
            clear hb9 c1
            cases b2 with
            | false =>
              go_wp2_with fail
              go_meet
              exact ⟨by rw [HBAD.out, HB1.out, HB2.out]; simp, HB9.out⟩
            | true =>
            obtain ⟨b3, hb3⟩ : ∃ b, userB E.sender = b := ⟨_, rfl⟩
            have HB3 := Lib.hid hb3
            go_wp2_with fail
            refine (isUser_is (mkS E.sender) (b := b3) hb3 hsz.2.2.1 w9 HG9.out).mono ?_
            rintro e wa ⟨rfl, hba⟩
            clear hb3
            have HBA := Lib.hid (below_trans HB9.out hba)
            have HGA := Lib.hid (HG9.out.below hba)
            obtain ⟨tE, htE⟩ : ∃ t : ByteArray, mkS E.type = t := ⟨_, rfl⟩
            obtain ⟨kE, hkE⟩ : ∃ t : ByteArray, mkS E.key = t := ⟨_, rfl⟩
            have c3 : wa.cell? ⟨w.heap.size, 3, none⟩ = some (.string tE) := by rw [← htE]; exact HCELL.out wa HBA.out 3
            have c5 : wa.cell? ⟨w.heap.size, 5, none⟩ = some (.string kE) := by rw [← hkE]; exact HCELL.out wa HBA.out 5
            have c6 : wa.cell? ⟨w.heap.size, 6, none⟩ = some (.string (mkS E.redacts)) := HCELL.out wa HBA.out 6
            have htl : E.type.length = tE.size := by rw [← htE, size_mkS]
            have hkl : E.key.length = kE.size := by rw [← hkE, size_mkS]
            have htn : E.type = [] → tE = ⟨#[]⟩ := fun h => by rw [← htE, h]
            have htn2 : E.type ≠ [] → tE.toList.isEmpty = false := fun h => by rw [← htE, Lib.toList_data]; simpa using h
            have HTL := Lib.hid htl
            have HKL := Lib.hid hkl
            clear hba c2 htE hkE
            cases b3 with
            | false =>
              clear htl hkl htn htn2
              go_wp2_with fail
              go_meet
              exact ⟨by rw [HBAD.out, HB1.out, HB2.out, HB3.out]; simp, HBA.out⟩
            | true =>
            by_cases ht0 : E.type = []
            · have hte := htn ht0
              subst hte
              have HT0 := Lib.hid ht0
              clear htl hkl htn htn2 ht0
              go_wp2_with fail
              go_meet
              exact ⟨by rw [HBAD.out, HB1.out, HB2.out, HB3.out, HT0.out]; simp, HBA.out⟩
            have hte := htn2 ht0
            have HT0 := Lib.hid (show (E.type == []) = false by simpa using ht0)
            clear htn htn2 ht0
            by_cases h60 : 60 < tE.size
            · have h60' : (60 : Int) < tE.size := by omega
              have h60d : decide ((60 : Int) < tE.size) = true := by simpa using h60'
              have H60 := Lib.hid (show decide (60 < E.type.length) = true by rw [HTL.out]; simpa using h60)
              clear htl hkl h60
              go_wp2_with fail
              go_meet
              exact ⟨by rw [HBAD.out, HB1.out, HB2.out, HB3.out, HT0.out, H60.out]; simp, HBA.out⟩
            have h60d : decide ((60 : Int) < tE.size) = false := by simp; omega
            have h60' : (tE.size : Int) ≤ 60 := by omega
            have H60 := Lib.hid (show decide (60 < E.type.length) = false by rw [HTL.out]; simpa using h60)
            clear htl h60
            by_cases hk60 : 60 < kE.size
            · have hk60' : (60 : Int) < kE.size := by omega
              have hk60d : decide ((60 : Int) < kE.size) = true := by simpa using hk60'
              have HK60 := Lib.hid (show decide (60 < E.key.length) = true by rw [HKL.out]; simpa using hk60)
              clear hkl hk60
              go_wp2_with fail
              go_meet
              exact ⟨by rw [HBAD.out, HB1.out, HB2.out, HB3.out, HT0.out, H60.out, HK60.out]; simp, HBA.out⟩
            have hk60d : decide ((60 : Int) < kE.size) = false := by simp; omega
            have hk60' : (kE.size : Int) ≤ 60 := by omega
            have HK60 := Lib.hid (show decide (60 < E.key.length) = false by rw [HKL.out]; simpa using hk60)
            clear hkl hk60
            cases rd with
            | false =>
              go_wp2_with fail
              go_meet
              exact ⟨by rw [HBAD.out, HB1.out, HB2.out, HB3.out, HT0.out, H60.out, HK60.out]; rfl, HBA.out⟩
            | true =>
              obtain ⟨b4, hb4⟩ : ∃ b, eventB E.redacts = b := ⟨_, rfl⟩
              have HB4 := Lib.hid hb4
              go_wp2_with fail
              refine (isEvent_any (mkS E.redacts) (b := b4) hb4 hsz.2.2.2 wa HGA.out).mono ?_
              rintro e wb ⟨rfl, hbb⟩
              have HBB := Lib.hid (below_trans HBA.out hbb)
              clear hb4 hbb
              cases b4
              · go_wp2_with fail
                go_meet
                exact ⟨by rw [HBAD.out, HB1.out, HB2.out, HB3.out, HT0.out, H60.out, HK60.out, HB4.out]; rfl, HBB.out⟩
              · go_wp2_with fail
                go_meet
                exact ⟨by rw [HBAD.out, HB1.out, HB2.out, HB3.out, HT0.out, H60.out, HK60.out, HB4.out]; rfl, HBB.out⟩
          case rest =>
            obtain ⟨rfl, hb8⟩ := hcut
            have HQ8 := Lib.hid ((hb8.block _ (blk_lt HQ7.out)).trans HQ7.out)
            have HB8 := Lib.hid (below_trans HB7.out hb8)
            have hsteps : readEvJ v = if evBad v = true then (92, none) else (0, some (evOf v)) := by
              unfold readEvJ; rw [if_neg (by simp [H5.out]), if_neg (by simp [HF.out]), if_neg (by simp [HC.out]), if_neg HW51.out, if_neg HRED.out]
            have HST := Lib.hid hsteps
            obtain ⟨bd, hbd⟩ : ∃ b, evBad v = b := ⟨_, rfl⟩
            rw [hbd]
            have HBD := Lib.hid hbd
            clear hb8 hsteps hbd HBAD
            cases bd with
            | true =>
              go_wp2_with fail
              go_ret2
              exact ReadRet.no (by rw [HST.out, if_pos HBD.out]) HB8.out rfl
            | false =>
              go_wp2_with fail
              go_ret2
              exact ⟨HB8.out, by rw [HST.out, if_neg (by simp [HBD.out]), HEV.out]; exact ⟨_, rfl, Nat.le_refl _, HQ8.out⟩⟩
        · have hk5' : ((k : Int) != 5) = true := by simpa using hk5
          have HC := Lib.hid (show kindO (getJ v sContent) ≠ 5 by have h1 := HOC.out; have h2 := HKK.out; unfold getO at h1; simp at h1; rw [h1]; omega)
          clear hk5
          go_wp2_with fail
          refine HK2.out.mono ?_
          rintro e w3 ⟨rfl, rfl⟩
          go_wp2_with fail
          go_ret2
          exact ReadRet.no (by unfold readEvJ; rw [if_neg (by simp [H5.out]), if_neg (by simp [HF.out]), if_pos HC.out]) HB2.out rfl
      · obtain ⟨i, hi4, rfl, rfl⟩ := four_mem (HR.out.perm.mem_iff.1 (List.mem_append_right _ (hperm.mem_iff.2 (.head _))))
        have hq1 := ht'.heap HQ.out (by simp; omega)
        have HQ1 := Lib.hid hq1
        have HR1 := Lib.hid hR'
        have HHR := HH.out.below (w' := wr) HB.out
        have HH1 := Lib.hid (HHR.turns ht' (by simp; exact HRF.out it (by omega)))
        have HB1 := Lib.hid ((HB.out).trans (ht'.below_of (by have := HB.out.size; omega) (by simp; omega)))
        obtain ⟨o', ho'⟩ : ∃ o', getO (some v) (fourKey i) = o' := ⟨_, rfl⟩
        have HT := Lib.hid (rtext_any r w' HH1.out (pv := ptrV q) (o := some v) ⟨q, rfl, HV.out⟩ (fun x hx => by cases hx; exact HOK.out) (mkS (fourKey i)) (o' := o') ho')
        have HO := Lib.hid ho'
        have HP := Lib.hid hperm
        have HT1 := Lib.hid ht'
        clear hq1 hR' HHR ho' hperm ht'
        generalize hk : mkS (fourKey i) = ks at *
        have HKS := Lib.hid hk
        clear hk
        go_wp2_with fail
        refine HT.out.mono ?_
        rintro e w2 ⟨rfl, hb2⟩
        have hq2 := (hb2.block _ (blk_lt HQ1.out)).trans HQ1.out
        obtain ⟨old, hold⟩ := evCells_old v done q hi4
        have c0 := blk_cell hq2 i
        rw [hold] at c0
        have z0 := blk_free hq2 i
        have HQ2 := Lib.hid hq2
        have HB2 := Lib.hid (below_trans HB1.out hb2)
        have HR2 := Lib.hid (HR1.out.turns (Turns.below (S := []) hb2) (by simp) (by simp))
        clear hb2 hq2 hold
        cases hto : isTextO o' with
        | false =>
          have HL := Lib.hid (four_lacks (v := v) hi4 (by have := HO.out; unfold getO at this; simp at this; rw [this]; exact hto))
          go_wp2_with fail
          go_ret2
          exact ReadRet.no (readEvJ_four H5.out HL.out) HB2.out rfl
        | true =>
          go_wp2_with fail
          have ho2 : getJ v (fourKey i) = o' := HO.out
          have HR3 := HR2.out.turns ((Turns.refl [w.heap.size] w2).setCell (p := ⟨w.heap.size, i, none⟩) (.inl (by simp)) (.string (mkS (textO o')))) (by simp; omega) (by simp; omega)
          refine ⟨⟨done ++ [(fourKey i, fieldP w.heap.size i)], left', HR3, ?_, ?_, HB2.out.setCell (by simp) _⟩, ?_⟩
          · rw [blk_set HQ2.out i, ← evCells_set hi4, ho2]
          · intro p hp
            rcases List.mem_append.1 hp with hp | hp
            · exact HD.out p hp
            · rw [List.mem_singleton.1 hp]; rw [ho2]; exact hto
          · rw [HR3.left_eq, HR.out.left_eq]
            have := HP.out.length_eq
            simp at this; omega

end Toc

namespace Toc
open Go Go.RowKit Go.Proofs

/-- What ReadEvent gives. -/
def ReadRetO (pv : Value) (o : Option JV) (w : World) (e : Ending) (w' : World) : Prop :=
  Below w.heap.size w w' ∧
  match readEv o with
  | (n, none) => e = .returned (.tuple #[.pointer none, .int .i64 n])
  | (n, some E) => ∃ qe, e = .returned (.tuple #[ptrV qe, .int .i64 n]) ∧ w.heap.size ≤ qe ∧ w'.heap[qe]? = some (evObjE E pv)

set_option maxRecDepth 100000 in
set_option maxHeartbeats 4000000 in
theorem readEvent_no (r : Ro) (w : World) (hh : Has r w) {pv : Value} {o : Option JV} (hp : PV r pv o) (h5 : kindO o ≠ 5) :
    Calls Tryz.prog 25 #[pv] w fun e w' => e = .returned (.tuple #[.pointer none, .int .i64 90]) ∧ w = w' := by
  obtain ⟨k, hk⟩ : ∃ k : Int, (kindO o : Int) = k := ⟨_, rfl⟩
  have hne : (k != 5) = true := by rw [bne_iff_ne]; omega
  have HK := Lib.hid (kind_any r w hh hp hk)
  clear h5 hk hh hp
  go_enter Tryz.func25, Tryz.ntmps25
  go_wp2_with fail
  refine HK.out.mono ?_
  rintro e w1 ⟨rfl, rfl⟩
  go_wp2_with fail
  go_ret2
  exact ⟨rfl, rfl⟩

theorem readEvent_o (r : Ro) (w : World) (hG : Glob w) (hh : Has r w) {pv : Value} {o : Option JV} (hp : PV r pv o) (hok : OkO o) :
    Calls Tryz.prog 25 #[pv] w fun e w' => ReadRetO pv o w e w' := by
  by_cases h5 : kindO o = 5
  · rcases hp.none_iff with ⟨rfl, rfl⟩ | ⟨q, v, rfl, rfl, hv⟩
    · cases h5
    · exact (readEvent_any r w hG hh hv (hok v rfl) h5).mono fun e w' h => h
  · refine (readEvent_no r w hh hp h5).mono ?_
    rintro e w' ⟨rfl, rfl⟩
    refine ⟨Below.refl _ _, ?_⟩
    have : readEv o = (90, none) := by
      unfold readEv
      cases o with
      | none => rfl
      | some v => exact if_pos h5
    rw [this]

end Toc
