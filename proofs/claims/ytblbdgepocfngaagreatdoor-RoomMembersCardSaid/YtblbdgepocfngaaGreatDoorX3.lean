/-
  Items: An object's members by their places: jsonval's Len, Item, Key.
  Numbers: Levels out of any value (room.numbers).
  Equal: maps.Equal of two maps of levels.
  LevelG: Room.level, of any content.
  ApplyG: Room.Apply of any event.
-/
import Derived.Test.YtblbdgepocfngaaGreatDoorWA
import Derived.Test.YtblbdgepocfngaaGreatDoorWK
import Derived.Test.YtblbdgepocfngaaGreatDoorWP
import Derived.Test.YtblbdgepocfngaaGreatDoorWD
import Derived.Test.YtblbdgepocfngaaGreatDoorX2
import Derived.Test.YtblbdgepocfngaaGreatDoorWL
namespace Toc
open Go Go.RowKit Go.Proofs

/-- What an object's members look like. -/
theorem obj_cells (r : Ro) {q : Nat} {l : List (Bytes × JV)} (hv : IsV r q (.obj l)) : ∃ (oa : Option Addr) (cap : Nat) (qs : List Nat), r q = some (vObj 5 false 0 emptyS nilS (.slice oa l.length cap)) ∧ l.length ≤ cap ∧ qs.length = l.length ∧
    ∀ i k x, l[i]? = some (k, x) → ∃ g off qi, oa = some ⟨g, off, none⟩ ∧ qs[i]? = some qi ∧ IsV r qi x ∧ ∀ w, Has r w → w.cell? ⟨g, off + i * 2, none⟩ = some (.string (mkS k)) ∧ w.cell? ⟨g, off + i * 2 + 1, none⟩ = some (ptrV qi) := by
  cases hv with
  | @obj _ l qs sv hq hrow hql hel =>
    obtain ⟨oa, cap, rfl, hcap, hrow2⟩ := row_form2 hrow
    refine ⟨oa, cap, qs, hq, hcap, hql, fun i k x hx => ?_⟩
    have hlt := (List.getElem?_eq_some_iff.1 hx).1
    obtain ⟨g, off, arr, T, fr, rfl, hg, harr⟩ := hrow2.resolve_left (by omega)
    obtain ⟨qi, hqi⟩ : ∃ x, qs[i]? = some x := ⟨_, List.getElem?_eq_getElem (by rw [hql]; exact hlt)⟩
    have hisv : IsV r qi x := by
      have h1 := hel i (by rw [hql]; exact hlt) hlt
      rw [List.getElem?_eq_getElem (by rw [hql]; exact hlt)] at hqi
      rw [List.getElem?_eq_getElem hlt] at hx
      rw [Option.some.inj hqi, Option.some.inj hx] at h1; exact h1
    obtain ⟨e1, e2⟩ := memC_get l qs i _ _ hx hqi
    refine ⟨g, off, qi, rfl, hqi, hisv, fun w hh => ⟨?_, ?_⟩⟩
    · obtain ⟨h1, h2⟩ := List.getElem?_eq_some_iff.1 e1
      rw [blk_cell (hh _ _ hg), harr _ h1, h2]
    · obtain ⟨h1, h2⟩ := List.getElem?_eq_some_iff.1 e2
      rw [blk_cell (hh _ _ hg), Nat.add_assoc, harr _ h1, h2]

set_option maxRecDepth 100000 in
set_option maxHeartbeats 2000000 in
theorem len_obj (r : Ro) (w : World) (hh : Has r w) {q : Nat} {l : List (Bytes × JV)} (hv : IsV r q (.obj l)) {n : Nat} (hn : l.length = n) (hle : n ≤ 1048576) :
    Calls Tryz.prog 215 #[ptrV q] w fun e w' => e = .returned (.int .i64 n) ∧ ∃ k, w' = w.drewN k := by
  obtain ⟨oa, cap, qs, hq, hcap, _, _⟩ := obj_cells r hv
  rw [hn] at hq hcap
  have c4 : w.cell? ⟨q, 4, none⟩ = some nilS := blk_cell (hh _ _ hq) 4
  have c5 : w.cell? ⟨q, 5, none⟩ = some (.slice oa n cap) := blk_cell (hh _ _ hq) 5
  have hwr : IntKind.i64.wrap (0 + (n : Int)) = n := by rw [Int.zero_add]; exact IntWalk.i64_in _ (by omega)
  have hwr2 : IntKind.i64.wrap (n : Int) = n := IntWalk.i64_in _ (by omega)
  clear hh hv hq hn
  go_enter Tryz.func215, Tryz.ntmps215
  go_wp2_with fail
  go_quiet (fail)
  go_wp2_with fail
  go_ret
  exact ⟨rfl, _, rfl⟩

set_option maxRecDepth 100000 in
set_option maxHeartbeats 2000000 in
theorem item_obj (r : Ro) (w : World) (hh : Has r w) {q : Nat} {l : List (Bytes × JV)} (hv : IsV r q (.obj l)) (hle : l.length ≤ 1048576) {i : Nat} {k : Bytes} {x : JV} (hx : l[i]? = some (k, x)) :
    Calls Tryz.prog 216 #[ptrV q, .int .i64 i] w fun e w' => (∃ qi, e = .returned (ptrV qi) ∧ IsV r qi x) ∧ ∃ k, w' = w.drewN k := by
  obtain ⟨oa, cap, qs, hq, hcap, _, hel⟩ := obj_cells r hv
  obtain ⟨g, off, qi, rfl, _, hisv, hc⟩ := hel i k x hx
  obtain ⟨n, hn⟩ : ∃ n, l.length = n := ⟨_, rfl⟩
  have HL := Lib.hid (len_obj r w hh hv hn (by omega))
  have hlt : i < n := by rw [← hn]; exact (List.getElem?_eq_some_iff.1 hx).1
  have hlti : (i : Int) < n := by omega
  have hge : ¬ ((n : Int) ≤ i) := by omega
  have h0i : ¬ ((i : Int) < 0) := by omega
  have h0i2 : (0 : Int) ≤ i := by omega
  rw [hn] at hq hcap
  have HC := Lib.hid (show ∀ m, (w.drewN m).cell? ⟨q, 0, none⟩ = some (.int .i64 5) ∧ (w.drewN m).cell? ⟨q, 5, none⟩ = some (.slice (some ⟨g, off, none⟩) n cap) ∧ (w.drewN m).cell? ⟨g, off + i * 2 + 1, none⟩ = some (ptrV qi) from
    fun m => ⟨blk_cell (hh _ _ hq) 0, blk_cell (hh _ _ hq) 5, (hc w hh).2⟩)
  have HI := Lib.hid hisv
  clear hh hv hq hn hel hisv hc hx hlt
  go_enter Tryz.func216, Tryz.ntmps216
  go_wp2_with fail
  refine HL.out.mono ?_
  rintro e w1 ⟨rfl, m, rfl⟩
  obtain ⟨c0, c5, c6⟩ := HC.out m
  go_wp2_with fail
  go_ret
  exact ⟨⟨qi, rfl, HI.out⟩, _, rfl⟩

set_option maxRecDepth 100000 in
set_option maxHeartbeats 2000000 in
theorem key_obj (r : Ro) (w : World) (hh : Has r w) {q : Nat} {l : List (Bytes × JV)} (hv : IsV r q (.obj l)) (hle : l.length ≤ 1048576) {i : Nat} {k : Bytes} {x : JV} (hx : l[i]? = some (k, x)) :
    Calls Tryz.prog 217 #[ptrV q, .int .i64 i] w fun e w' => e = .returned (.string (mkS k)) ∧ ∃ k, w' = w.drewN k := by
  obtain ⟨oa, cap, qs, hq, hcap, _, hel⟩ := obj_cells r hv
  obtain ⟨g, off, qi, rfl, _, hisv, hc⟩ := hel i k x hx
  obtain ⟨n, hn⟩ : ∃ n, l.length = n := ⟨_, rfl⟩
  obtain ⟨ks, hks⟩ : ∃ s, mkS k = s := ⟨_, rfl⟩
  have HL := Lib.hid (len_obj r w hh hv hn (by omega))
  have HK := Lib.hid (kind_any r w hh (pv := ptrV q) (o := some (.obj l)) ⟨q, rfl, hv⟩ (k := 5) rfl)
  have hlt : i < n := by rw [← hn]; exact (List.getElem?_eq_some_iff.1 hx).1
  have hlti : (i : Int) < n := by omega
  have hge : ¬ ((n : Int) ≤ i) := by omega
  have h0i : ¬ ((i : Int) < 0) := by omega
  have h0i2 : (0 : Int) ≤ i := by omega
  rw [hn] at hq hcap
  have HC := Lib.hid (show ∀ m, (w.drewN m).cell? ⟨q, 5, none⟩ = some (.slice (some ⟨g, off, none⟩) n cap) ∧ (w.drewN m).cell? ⟨g, off + i * 2, none⟩ = some (.string ks) from
    fun m => ⟨blk_cell (hh _ _ hq) 5, by rw [← hks]; exact (hc w hh).1⟩)
  rw [hks]
  clear hh hv hq hn hel hisv hc hx hlt hks
  go_enter Tryz.func217, Tryz.ntmps217
  go_wp2_with fail
  refine HK.out.mono ?_
  rintro e w1 ⟨rfl, rfl⟩
  go_wp2_with fail
  refine HL.out.mono ?_
  rintro e w2 ⟨rfl, m, rfl⟩
  obtain ⟨c5, c6⟩ := HC.out m
  go_wp2_with fail
  go_ret
  exact ⟨rfl, _, rfl⟩

end Toc

namespace Toc
open Go Go.RowKit Go.Proofs

/-- The members that are levels. -/
def numsOf (may : Bytes → Bool) (l : List (Bytes × JV)) : List (Bytes × Int) := l.filterMap fun p => if levelOk (some p.2) && may p.1 then some (p.1, numO (some p.2)) else none
def numbersO (may : Bytes → Bool) (o : Option JV) : List (Bytes × Int) := match o with | some (.obj l) => numsOf may l | _ => []

theorem numsOf_snoc (may : Bytes → Bool) (l : List (Bytes × JV)) (k : Bytes) (x : JV) : numsOf may (l ++ [(k, x)]) = if (levelOk (some x) && may k) = true then numsOf may l ++ [(k, numO (some x))] else numsOf may l := by
  unfold numsOf
  rw [List.filterMap_append]
  split
  · rename_i h; rw [List.filterMap_cons, if_pos h]; rfl
  · rename_i h; rw [List.filterMap_cons, if_neg h]; simp
theorem numsOf_rise {may : Bytes → Bool} {l : List (Bytes × JV)} (h : Rising l) : Rising (numsOf may l) := by
  rw [rising_iff] at h ⊢
  unfold numsOf
  rw [List.pairwise_filterMap]
  refine h.imp fun {x y} h a ha b hb => ?_
  split at ha
  · split at hb
    · cases ha; cases hb; exact h
    · cases hb
  · cases ha
theorem numsOf_mem {may : Bytes → Bool} {l : List (Bytes × JV)} {p : Bytes × Int} (h : p ∈ numsOf may l) : ∃ x, (p.1, x) ∈ l ∧ may p.1 = true ∧ -1000 ≤ p.2 ∧ p.2 ≤ 1000 := by
  unfold numsOf at h
  obtain ⟨q, hq, he⟩ := List.mem_filterMap.1 h
  split at he
  · rename_i hc
    cases he
    rw [Bool.and_eq_true] at hc
    obtain ⟨h1, h2⟩ := hc
    unfold levelOk at h1
    simp only [Bool.and_eq_true, decide_eq_true_eq] at h1
    exact ⟨q.2, hq, h2, h1.2.1, h1.2.2⟩
  · cases he
theorem numsOf_len (may : Bytes → Bool) (l : List (Bytes × JV)) : (numsOf may l).length ≤ l.length := List.length_filterMap_le _ _
theorem putK_snoc {α : Type} {l : List (Bytes × α)} {k : Bytes} {v : α} (h : Rising (l ++ [(k, v)])) : putK l k v = l ++ [(k, v)] := by
  have hl : Rising l := by rw [rising_iff] at h ⊢; exact (List.pairwise_append.1 h).1
  refine rising_eq (putK_rising hl k v) h ((putK_perm k v).trans ?_)
  have hf : (l.filter fun p => p.1 != k) = l := List.filter_eq_self.2 fun p hp => by
    rw [rising_iff] at h
    have := cb_lt_ne ((List.pairwise_append.1 h).2.2 p hp (k, v) (by simp))
    simpa using this
  rw [hf]
  exact (List.perm_append_singleton _ _).symm
theorem rising_take {α : Type} {l : List (Bytes × α)} (h : Rising l) (i : Nat) : Rising (l.take i) := by
  rw [rising_iff] at h ⊢
  exact h.sublist (List.take_sublist _ _)

/-- What a test of keys does. -/
def MayOk (f : FuncId) (may : Bytes → Bool) : Prop := (∀ (args : Array Value) (w : World), (callFunc f args).run Tryz.prog w = .ok (.enter f args) w) ∧ ∀ (k : Bytes) (w : World), k.length ≤ 1073741824 → Glob w → Calls Tryz.prog f #[.string (mkS k)] w fun e w' => e = .returned (.bool (may k)) ∧ Below w.heap.size w w'

set_option maxRecDepth 100000 in
set_option maxHeartbeats 4000000 in
theorem numbers_obj (r : Ro) (w : World) (hG : Glob w) (hh : Has r w) {q : Nat} {l : List (Bytes × JV)} (hv : IsV r q (.obj l)) (hok : JOk (.obj l)) {f : FuncId} {may : Bytes → Bool} (hmay : MayOk f may) :
    Calls Tryz.prog 151 #[ptrV q, .func (.func f) #[] #[]] w fun e w' => ∃ b, e = .returned (.map (some b)) ∧ w.heap.size ≤ b ∧ MapAt w' b (mapE encInt (numsOf may l)) ∧ Below w.heap.size w w' := by
  have hmm := @run_makeMap Tryz.prog
  have hcf := hmay.1
  obtain ⟨hl, hri, hkl, hvo⟩ : l.length ≤ 1048576 ∧ Rising l ∧ (∀ m ∈ l, m.1.length ≤ 1073741824) ∧ ∀ m ∈ l, JOk m.2 := by cases hok; exact ⟨‹_›, ‹_›, ‹_›, ‹_›⟩
  obtain ⟨n, hn⟩ : ∃ n, l.length = n := ⟨_, rfl⟩
  have hb0 : Below w.heap.size w (w.alloc (.map #[] 0)) := (Below.refl _ w).alloc (Nat.le_refl _) _
  have HK := Lib.hid (kind_any r (w.alloc (.map #[] 0)) (hh.below hb0) (pv := ptrV q) (o := some (.obj l)) ⟨q, rfl, hv⟩ (k := 5) rfl)
  have HL := Lib.hid (len_obj r (w.alloc (.map #[] 0)) (hh.below hb0) hv hn (by omega))
  have HH := Lib.hid hh
  have HV := Lib.hid hv
  have HG := Lib.hid hG
  have HN := Lib.hid hn
  have HRI := Lib.hid hri
  have HKL := Lib.hid hkl
  have HLE := Lib.hid hl
  have HM0 := Lib.hid (MapAt.new w)
  have HB0 := Lib.hid hb0
  have HMAY := Lib.hid hmay
  clear hG hh hv hok hmay hn hri hkl hvo hl hb0
  go_enter Tryz.func151, Tryz.ntmps151
  go_wp2_with fail
  refine HK.out.mono ?_
  rintro e w1 ⟨rfl, rfl⟩
  go_wp2_with fail
  refine HL.out.mono ?_
  rintro e w2 ⟨rfl, m2, rfl⟩
  go_wp2_with fail
  go_loopw [16] (fun s16 wr => ∃ i : Nat, s16 = .int .i64 i ∧ i ≤ n ∧ MapAt wr w.heap.size (mapE encInt (numsOf may (l.take i))) ∧ Below w.heap.size w wr) (fun s16 _ => match s16 with | .int _ k => n - k.toNat | _ => 0)
  case atStart => exact ⟨0, rfl, Nat.zero_le _, HM0.out.turns ((Turns.refl [] _).drewN _) (by simp), below_trans HB0.out (below_trans (Below.refl _ _) ⟨rfl, rfl, rfl, Nat.le_refl _, fun _ _ => rfl⟩)⟩
  case round =>
    obtain ⟨i, rfl, hi, hm, hb⟩ := hrel
    have HM := Lib.hid hm
    have HB := Lib.hid hb
    clear hm hb HM0
    have hn1 : n ≤ 1048576 := by have := HLE.out; have := HN.out; omega
    by_cases hlt : i < n
    · obtain ⟨kx, hx⟩ : ∃ x, l[i]? = some x := ⟨_, List.getElem?_eq_getElem (by rw [HN.out]; exact hlt)⟩
      obtain ⟨k, x⟩ := kx
      have hmem := List.mem_of_getElem? hx
      have HHR := Lib.hid (HH.out.below HB.out)
      have HIT := Lib.hid (fun (m : Nat) => item_obj r (wr.drewN m) (HHR.out.turns ((Turns.refl [] wr).drewN m) (by simp)) HV.out HLE.out hx)
      have HKY := Lib.hid (fun (m : Nat) => key_obj r (wr.drewN m) (HHR.out.turns ((Turns.refl [] wr).drewN m) (by simp)) HV.out HLE.out hx)
      have hkk := HKL.out _ hmem
      obtain ⟨b, hbk⟩ : ∃ b, levelOk (some x) = b := ⟨_, rfl⟩
      obtain ⟨nn, hnn⟩ : ∃ z, numO (some x) = z := ⟨_, rfl⟩
      obtain ⟨bm, hbm⟩ : ∃ b, may k = b := ⟨_, rfl⟩
      have htk : l.take (i + 1) = l.take i ++ [(k, x)] := by rw [List.take_add_one, hx]; rfl
      have HSN := Lib.hid (show numsOf may (l.take (i + 1)) = if (b && bm) = true then numsOf may (l.take i) ++ [(k, nn)] else numsOf may (l.take i) by rw [htk, numsOf_snoc, hbk, hbm, hnn])
      have HNU := Lib.hid (fun (m : Nat) (qi : Nat) (hq : IsV r qi x) => number_any r (wr.drewN m) (HHR.out.turns ((Turns.refl [] wr).drewN m) (by simp)) (pv := ptrV qi) (o := some x) ⟨qi, rfl, hq⟩ hnn hbk)
      have HMA := Lib.hid (show ∀ m, Calls Tryz.prog f #[.string (mkS k)] (wr.drewN m) fun e w' => e = .returned (.bool bm) ∧ Below wr.heap.size wr w' from fun m => by
        have h1 := HMAY.out.2 k (wr.drewN m) hkk (HG.out.below (below_trans HB.out ⟨rfl, rfl, rfl, Nat.le_refl _, fun _ _ => rfl⟩))
        rw [hbm] at h1
        refine h1.mono ?_
        rintro e w' ⟨he, hb⟩
        exact ⟨he, below_trans (show Below wr.heap.size wr (wr.drewN m) from ⟨rfl, rfl, rfl, Nat.le_refl _, fun _ _ => rfl⟩) hb⟩)
      obtain ⟨ks, hks⟩ : ∃ s, mkS k = s := ⟨_, rfl⟩
      have HKS := Lib.hid hks
      have HX := Lib.hid hx
      rw [hks] at HKY HMA
      clear hmem hx hbk hnn hbm htk hkk hks
      go_wp2_with fail
      refine (HIT.out 0).mono ?_
      rintro e w3 ⟨⟨qi, rfl, hqi⟩, m3, rfl⟩
      have HNU3 := Lib.hid (HNU.out m3 qi hqi)
      clear hqi
      go_wp2_with fail
      refine HNU3.out.mono ?_
      rintro e w3 ⟨rfl, rfl⟩
      cases b with
      | false =>
        go_wp2_with fail
        go_roundw
        case rel => exact ⟨i + 1, by simp, hlt, by rw [HSN.out, if_neg (by simp)]; exact HM.out.turns ((Turns.refl [] _).drewN _) (by simp), below_trans HB.out ⟨rfl, rfl, rfl, Nat.le_refl _, fun _ _ => rfl⟩⟩
        case measure => simp; omega
      | true =>
        go_wp2_with fail
        refine (HKY.out m3).mono ?_
        rintro e w4 ⟨rfl, m4, rfl⟩
        go_wp2_with fail
        refine (HMA.out (m3 + m4)).mono ?_
        rintro e w5 ⟨rfl, hb5⟩
        have HB5 := Lib.hid hb5
        clear hb5
        cases bm with
        | false =>
          go_wp2_with fail
          go_roundw
          case rel => exact ⟨i + 1, by simp, hlt, by rw [HSN.out, if_neg (by simp)]; exact HM.out.turns (Turns.below (S := []) HB5.out) (by simp), below_trans HB.out HB5.out⟩
          case measure => simp; omega
        | true =>
          have HKY5 := Lib.hid (key_obj r w5 (HHR.out.below HB5.out) HV.out HLE.out HX.out)
          rw [HKS.out] at HKY5
          go_wp2_with fail
          refine HKY5.out.mono ?_
          rintro e w6 ⟨rfl, m6, rfl⟩
          have hm6 := (HM.out.turns (Turns.below (S := []) HB5.out) (by simp)).turns ((Turns.refl [] _).drewN m6) (by simp)
          obtain ⟨w7, hput, hm7, ht7⟩ := run_put (P := Tryz.prog) Tryz.underlying59 Tryz.underlying9 hm6 k (encInt nn)
          rw [HKS.out] at hput
          unfold encInt at hput
          have HM7 := Lib.hid (show MapAt w7 w.heap.size (mapE encInt (numsOf may (l.take (i + 1)))) by
            rw [HSN.out, if_pos (by rfl)]
            rw [mapE_put, putK_snoc (by
              have := numsOf_rise (may := may) (rising_take HRI.out (i + 1))
              rw [HSN.out, if_pos (by rfl)] at this
              exact this)] at hm7
            exact hm7)
          have HB7 := Lib.hid (show Below w.heap.size w w7 from ((Turns.below (S := []) (below_trans (below_trans HB.out HB5.out) (⟨rfl, rfl, rfl, Nat.le_refl _, fun _ _ => rfl⟩ : Below w5.heap.size w5 (w5.drewN m6)))).extend ht7 (by simp)).toBelow (by simp))
          clear hm6 hm7 ht7
          go_wp2_with fail
          go_roundw
          case rel => exact ⟨i + 1, by simp, hlt, HM7.out, HB7.out⟩
          case measure => simp; omega
    · have hie : i = n := by omega
      subst hie
      have HF := Lib.hid (show l.take i = l from List.take_of_length_le (by rw [HN.out]; exact Nat.le_refl _))
      go_wp2_with fail
      go_ret
      exact ⟨_, rfl, Nat.le_refl _, by have := HM.out; rw [HF.out] at this; exact this, HB.out⟩

theorem numbers_any (r : Ro) (w : World) (hG : Glob w) (hh : Has r w) {pv : Value} {o : Option JV} (hp : PV r pv o) (hok : OkO o) {f : FuncId} {may : Bytes → Bool} (hmay : MayOk f may) :
    Calls Tryz.prog 151 #[pv, .func (.func f) #[] #[]] w fun e w' => ∃ b, e = .returned (.map (some b)) ∧ w.heap.size ≤ b ∧ MapAt w' b (mapE encInt (numbersO may o)) ∧ Below w.heap.size w w' := by
  by_cases h5 : kindO o = 5
  · cases o with
    | none => cases h5
    | some v =>
      cases v with
      | obj l => obtain ⟨q, rfl, hv⟩ := hp; exact numbers_obj r w hG hh hv (hok _ rfl) hmay
      | _ => cases h5
  · have : numbersO may o = [] := by
      unfold numbersO
      split
      · exact absurd rfl h5
      · rfl
    rw [this]
    exact numbers_none r w hh hp h5 _

theorem may_user : MayOk 10 userB := by
  refine ⟨fun args w => ?_, fun k w hk hG => ?_⟩
  · simp [callFunc, go_sem, Tryz.func10, Tryz.f10]
  · exact isUser_is (mkS k) (by rw [list_mkS]) (by rw [size_mkS]; omega) w hG
set_option maxRecDepth 100000 in
theorem may_all : MayOk 152 (fun _ => true) := by
  refine ⟨fun args w => ?_, fun k w hk hG => ?_⟩
  · simp [callFunc, go_sem, Tryz.func152, Tryz.f152]
  · go_enter Tryz.func152, Tryz.ntmps152
    go_wp2_with fail
    go_ret
    exact ⟨rfl, Below.refl _ _⟩

end Toc

namespace Toc
open Go Go.RowKit Go.Proofs

theorem perm_len {α : Type} : ∀ (a b : List α), a.Nodup → (∀ x ∈ a, x ∈ b) → b.length ≤ a.length → a.Perm b
  | [], b, _, _, hl => by
    have : b = [] := List.eq_nil_of_length_eq_zero (by simpa using hl)
    rw [this]
  | x :: a, b, hn, hs, hl => by
    obtain ⟨s, t, rfl⟩ := List.append_of_mem (hs x (.head _))
    rw [List.nodup_cons] at hn
    refine ((perm_len a (s ++ t) hn.2 (fun y hy => ?_) (by simp at hl ⊢; omega)).cons x).trans List.perm_middle.symm
    have h1 := hs y (.tail _ hy)
    rw [List.mem_append, List.mem_cons] at h1
    rw [List.mem_append]
    rcases h1 with h1 | h1 | h1
    · exact .inl h1
    · subst h1; exact absurd hy hn.1
    · exact .inr h1
theorem rise_nodup {α : Type} {l : List (Bytes × α)} (h : Rising l) : l.Nodup := ((rising_iff l).1 h).imp fun {x y} h (e : x = y) => cb_lt_ne h (by rw [e])
/-- Lists of which one holds the other's entries. -/
theorem same_of_sub {l l' : List (Bytes × Int)} (h : Rising l) (h' : Rising l') (hl : l.length = l'.length) (hs : ∀ p ∈ l, p ∈ l') : l = l' :=
  rising_eq h h' (perm_len _ _ (rise_nodup h) hs (by omega))

set_option maxRecDepth 100000 in
set_option maxHeartbeats 4000000 in
theorem equal_any (w : World) {b b' : Nat} {l l' : List (Bytes × Int)} (hm : MapAt w b (mapE encInt l)) (hm' : MapAt w b' (mapE encInt l')) {v : Bool} (hv : decide (l = l') = v) :
    Calls Tryz.prog 153 #[.map (some b), .map (some b')] w fun e w' => e = .returned (.bool v) ∧ Below w.heap.size w w' := by
  have hri : Rising l := by
    have := hm.rise
    rw [rising_iff] at this ⊢
    unfold mapE at this
    rw [List.pairwise_map] at this
    exact this
  have hri' : Rising l' := by
    have := hm'.rise
    rw [rising_iff] at this ⊢
    unfold mapE at this
    rw [List.pairwise_map] at this
    exact this
  obtain ⟨n, hn⟩ : ∃ n, l.length = n := ⟨_, rfl⟩
  obtain ⟨n', hn'⟩ : ∃ n, l'.length = n := ⟨_, rfl⟩
  have hln := run_len_map (P := Tryz.prog) Tryz.underlying59 hm
  have hln' := run_len_map (P := Tryz.prog) Tryz.underlying59 hm'
  simp only [mapE, List.length_map] at hln hln'
  rw [hn] at hln
  rw [hn'] at hln'
  obtain ⟨o, hro, hRA⟩ := run_range_new (P := Tryz.prog) Tryz.underlying59 hm
  have HRA := Lib.hid hRA
  have HRI := Lib.hid hri
  have HRI' := Lib.hid hri'
  have HN := Lib.hid (And.intro hn hn')
  have HV := Lib.hid hv
  have HB0 := Lib.hid ((Below.refl w.heap.size w).alloc (Nat.le_refl _) o)
  have HM' := Lib.hid (hm'.turns ((Turns.refl [] w).alloc o) (by simp))
  have hbl : b < w.heap.size := hm.lt
  have hbl' : b' < w.heap.size := hm'.lt
  clear hm hm' hRA hri hri' hn hn' hv
  by_cases hnn : n = n'
  · subst hnn
    go_enter Tryz.func153, Tryz.ntmps153
    go_wp2_with fail
    go_loopw [] (fun wr => ∃ done left, RangeAt wr w.heap.size b (mapE encInt l) done left ∧ MapAt wr b' (mapE encInt l') ∧ (∀ p ∈ done, p ∈ mapE encInt l') ∧ Below w.heap.size w wr) (fun wr => rangeLeft wr w.heap.size b)
    case atStart => exact ⟨[], _, HRA.out, HM'.out, (fun p hp => by cases hp), HB0.out⟩
    case round =>
      obtain ⟨done, left, hR, hM, hd, hb⟩ := hrel
      have HR1 := Lib.hid hR
      have HM := Lib.hid hM
      have HD := Lib.hid hd
      have HB := Lib.hid hb
      have hst := range_step (P := Tryz.prog) 0 hR
      clear hR hM hd hb
      rcases hst with ⟨rfl, hrun⟩ | ⟨k, pv, left', w', hperm, hrun, hR', hent, ht'⟩
      · have hp := HR1.out.perm
        rw [List.append_nil] at hp
        have HE := Lib.hid (show v = true by
          rw [← HV.out]
          refine decide_eq_true (same_of_sub HRI.out HRI'.out (by rw [HN.out.1, HN.out.2]) fun p hpl => ?_)
          have h1 : (p.1, encInt p.2) ∈ done := hp.mem_iff.2 (List.mem_map.2 ⟨p, hpl, rfl⟩)
          obtain ⟨x, hx, he⟩ := List.mem_map.1 (HD.out _ h1)
          obtain ⟨e1, e2⟩ := Prod.mk.inj he
          have e3 := encInt_inj _ _ e2
          obtain ⟨x1, x2⟩ := x
          obtain ⟨p1, p2⟩ := p
          dsimp only at e1 e3
          rw [← e1, ← e3]; exact hx)
        clear hp
        go_wp2_with fail
        go_ret
        exact ⟨by rw [HE.out]; rfl, HB.out⟩
      · have hm : (k, pv) ∈ mapE encInt l := HR1.out.perm.mem_iff.1 (List.mem_append_right _ (hperm.mem_iff.2 (.head _)))
        obtain ⟨⟨k2, z⟩, hkm, he⟩ := List.mem_map.1 hm
        cases he
        have HKM := Lib.hid hkm
        have HP := Lib.hid hperm
        have hM1 := HM.out.turns ht' (by simp; omega)
        have hlk := run_look_ok (P := Tryz.prog) Tryz.underlying59 Tryz.underlying9 zeroInt hM1 k2
        rw [mapE_get] at hlk
        have HM1 := Lib.hid hM1
        have HR2 := Lib.hid hR'
        have HB1 := Lib.hid (((Turns.below (S := []) HB.out).extend ht' (by simp)).toBelow (by simp))
        have HG := Lib.hid (show ∀ x, getK l' k2 = some x ↔ (k2, x) ∈ l' from fun x => getK_iff (rising_keys HRI'.out))
        have HG1 := Lib.hid (show getK l k2 = some z from (getK_iff (rising_keys HRI.out)).2 hkm)
        clear hkm hm hperm ht' hR' hM1
        unfold encInt at hrun hent
        cases hg : getK l' k2 with
        | none =>
          rw [hg] at hlk
          dsimp only [Option.map, Option.getD, Option.isSome] at hlk
          have HF := Lib.hid (show v = false by
            rw [← HV.out]
            refine decide_eq_false fun e => ?_
            have := HG1.out
            rw [e, hg] at this; cases this)
          clear hg
          go_wp2_with fail
          go_ret
          exact ⟨by rw [HF.out]; rfl, HB1.out⟩
        | some x =>
          rw [hg] at hlk
          dsimp only [Option.map, Option.getD, Option.isSome, encInt] at hlk
          by_cases hzx : z = x
          · subst hzx
            have HIN := Lib.hid ((HG.out z).1 hg)
            clear hg
            go_wp2_with fail
            refine ⟨⟨done ++ [(k2, encInt z)], left', HR2.out, HM1.out, fun p hp => ?_, HB1.out⟩, ?_⟩
            · rcases List.mem_append.1 hp with hp | hp
              · exact HD.out p hp
              · rw [List.mem_singleton.1 hp]
                exact List.mem_map.2 ⟨(k2, z), HIN.out, rfl⟩
            rw [HR2.out.left_eq, HR1.out.left_eq]
            have := HP.out.length_eq
            simp at this; omega
          · have hzx' : ((z : Int) != x) = true := by simpa using hzx
            have HF := Lib.hid (show v = false by
              rw [← HV.out]
              refine decide_eq_false fun e => ?_
              have := HG1.out
              rw [e, hg] at this
              exact hzx (Option.some.inj this).symm)
            clear hg hzx
            go_wp2_with fail
            go_ret
            exact ⟨by rw [HF.out]; rfl, HB1.out⟩
  · have hne : ((n : Int) != (n' : Int)) = true := by simp; omega
    have HF := Lib.hid (show v = false by
      rw [← HV.out]
      refine decide_eq_false fun e => hnn ?_
      rw [← HN.out.1, ← HN.out.2, e])
    clear hnn
    go_enter Tryz.func153, Tryz.ntmps153
    go_wp2_with fail
    go_ret
    exact ⟨by rw [HF.out]; rfl, Below.refl _ _⟩

end Toc

namespace Toc
open Go Go.RowKit Go.Proofs

def levelG (R : RoomSt) (o : Option JV) : RoomSt := { R with leveled := true, other := otherOf o, levels := numbersO userB (getO o sUsers), needs := numbersO (fun _ => true) (getO o sNotifications) }
def changedL (R : RoomSt) (o : Option JV) : Bool := !R.leveled || (otherOf o != R.other || (!decide (numbersO userB (getO o sUsers) = R.levels) || !decide (numbersO (fun _ => true) (getO o sNotifications) = R.needs)))

set_option maxRecDepth 100000 in
set_option maxHeartbeats 4000000 in
theorem level_all (r : Ro) (w : World) (hG : Glob w) (hh : Has r w) {pc : Value} {oc : Option JV} (hp : PV r pc oc) (hok : OkO oc) {rb kb lb nb : Nat} {R : RoomSt} (hR : RoomAt w rb kb lb nb R) {ch : Bool} (hch : changedL R oc = ch) :
    Calls Tryz.prog 71 #[ptrV rb, pc] w fun e w' => ∃ lb' nb', e = .returned (.bool ch) ∧ w.heap.size ≤ lb' ∧ w.heap.size ≤ nb' ∧ RoomAt w' rb kb lb' nb' (levelG R oc) ∧ Turns [rb] w w' := by
  obtain ⟨n, hn⟩ : ∃ n, numO (getO oc sUsersDefault) = n := ⟨_, rfl⟩
  obtain ⟨b, hb⟩ : ∃ b, levelOk (getO oc sUsersDefault) = b := ⟨_, rfl⟩
  have HOT := Lib.hid (show otherOf oc = if b then n else 0 by unfold otherOf; rw [hn, hb])
  have HN := Lib.hid hn
  have HBO := Lib.hid hb
  have HG1 := Lib.hid (get_any r w hh hp hok (mkS sUsersDefault))
  rw [list_mkS] at HG1
  have HG := Lib.hid hG
  have HH := Lib.hid hh
  have HP := Lib.hid hp
  have HOK := Lib.hid hok
  have HR := Lib.hid hR
  have HCH0 := Lib.hid hch
  clear hn hb hh hp hok hR hG hch
  go_enter Tryz.func71, Tryz.ntmps71
  go_wp2_with fail
  refine HG1.out.mono ?_
  rintro e w1 ⟨p1, rfl, hp1, hb1⟩
  have HB1 := Lib.hid hb1
  have HN1 := Lib.hid (number_any r w1 (HH.out.below hb1) hp1 HN.out HBO.out)
  clear hb1 hp1
  go_wp2_with fail
  refine HN1.out.mono ?_
  rintro e w1 ⟨rfl, rfl⟩
  have HG2 := Lib.hid (get_any r w1 (HH.out.below HB1.out) HP.out HOK.out (mkS sUsers))
  rw [list_mkS] at HG2
  cases b
  case false =>
    obtain ⟨ot, hot⟩ : ∃ z, otherOf oc = z := ⟨_, rfl⟩
    have HO := Lib.hid hot
    rw [hot] at HOT
    have hov := HOT.out
    simp only [Bool.false_eq_true, if_false] at hov
    subst hov
    clear hot HOT
    go_wp2_with fail
    refine HG2.out.mono ?_
    rintro e w2 ⟨p2, rfl, hp2, hb2⟩
    have HB2 := Lib.hid (below_trans HB1.out hb2)
    have HN2 := Lib.hid (numbers_any r w2 (HG.out.below HB2.out) (HH.out.below HB2.out) hp2 (getO_ok HOK.out) may_user)
    clear hb2 hp2
    go_wp2_with fail
    refine HN2.out.mono ?_
    rintro e w3 ⟨lb2, rfl, hl2, hm2, hb3⟩
    have HB3 := Lib.hid (below_trans HB2.out hb3)
    have HL2 := Lib.hid (Nat.le_trans HB2.out.size hl2)
    have HM2 := Lib.hid hm2
    have HG3 := Lib.hid (get_any r w3 (HH.out.below (below_trans HB2.out hb3)) HP.out HOK.out (mkS sNotifications))
    rw [list_mkS] at HG3
    clear hb3 hl2 hm2
    go_wp2_with fail
    refine HG3.out.mono ?_
    rintro e w4 ⟨p4, rfl, hp4, hb4⟩
    have HB4 := Lib.hid (below_trans HB3.out hb4)
    have HM4 := Lib.hid (HM2.out.turns (Turns.below (S := []) hb4) (by simp))
    have HN4 := Lib.hid (numbers_any r w4 (HG.out.below HB4.out) (HH.out.below HB4.out) hp4 (getO_ok HOK.out) may_all)
    clear hb4 hp4
    go_wp2_with fail
    refine HN4.out.mono ?_
    rintro e w5 ⟨nb2, rfl, hn2, hm5, hb5⟩
    have HB5 := Lib.hid (below_trans HB4.out hb5)
    have HL5 := Lib.hid (Nat.le_trans HB4.out.size hn2)
    have HNE := Lib.hid (show lb2 ≠ nb2 by have := HM4.out.lt; omega)
    have HM5 := Lib.hid (HM4.out.turns (Turns.below (S := []) hb5) (by simp))
    have HM6 := Lib.hid hm5
    have hR5 := HR.out.below HB5.out
    have HR5 := Lib.hid hR5
    obtain ⟨v1, hv1⟩ : ∃ v, decide (numbersO userB (getO oc sUsers) = R.levels) = v := ⟨_, rfl⟩
    obtain ⟨v2, hv2⟩ : ∃ v, decide (numbersO (fun _ => true) (getO oc sNotifications) = R.needs) = v := ⟨_, rfl⟩
    have HCH := Lib.hid (show ch = (!R.leveled || (otherOf oc != R.other || (!v1 || !v2))) by rw [← HCH0.out]; unfold changedL; rw [hv1, hv2])
    rw [HO.out] at HCH
    have HE1 := Lib.hid (equal_any w5 HM5.out hR5.levels hv1)
    have HE2 := Lib.hid (fun wx (hb : Below w5.heap.size w5 wx) => equal_any wx (HM6.out.turns (Turns.below (S := []) hb) (by simp)) (hR5.below hb).needs hv2)
    have c3 : w5.cell? ⟨rb, 3, none⟩ = some (.bool R.leveled) := blk_cell hR5.blk 3
    have c4 : w5.cell? ⟨rb, 4, none⟩ = some (.int .i64 R.other) := blk_cell hR5.blk 4
    have c5 : w5.cell? ⟨rb, 5, none⟩ = some (.map (some lb)) := blk_cell hR5.blk 5
    have HC6 := Lib.hid (show ∀ wx, Below w5.heap.size w5 wx → wx.cell? ⟨rb, 6, none⟩ = some (.map (some nb)) from fun wx hb => blk_cell (hR5.below hb).blk 6)
    clear hn2 hm5 hb5 hR5 hv1 hv2
    go_upto_region 6 with fail
    go_cut [9] (fun s9 wy => s9 = .bool ch ∧ Below w5.heap.size w5 wy)
    case first =>
      cases hle : R.leveled with
      | false =>
        rw [hle] at c3 HCH
        have hc := HCH.out
        simp only [Bool.not_false, Bool.true_or] at hc
        subst hc
        clear hle
        go_wp2_with fail
        go_meet
        exact ⟨rfl, Below.refl _ _⟩
      | true =>
        rw [hle] at c3 HCH
        clear hle
        by_cases ho : (0 : Int) = R.other
        · have ho' : ((0 : Int) != R.other) = false := by simpa using ho
          have HO' := Lib.hid ho'
          clear ho
          go_wp2_with fail
          refine HE1.out.mono ?_
          rintro e w6 ⟨rfl, hb6⟩
          have HB6 := Lib.hid hb6
          have c6 := HC6.out w6 hb6
          clear hb6
          cases v1 with
          | false =>
            have hc := HCH.out
            rw [HO'.out] at hc
            simp only [Bool.not_true, Bool.not_false, Bool.false_or, Bool.true_or] at hc
            subst hc
            go_wp2_with fail
            go_meet
            exact ⟨rfl, HB6.out⟩
          | true =>
            have HX := Lib.hid (HE2.out w6 HB6.out)
            have hc := HCH.out
            rw [HO'.out] at hc
            simp only [Bool.not_true, Bool.false_or] at hc
            go_wp2_with fail
            refine HX.out.mono ?_
            rintro e w7 ⟨rfl, hb7⟩
            have HB7 := Lib.hid (below_trans HB6.out hb7)
            clear hb7
            subst hc
            go_wp2_with fail
            go_meet
            exact ⟨rfl, HB7.out⟩
        · have ho' : ((0 : Int) != R.other) = true := by simpa using ho
          have hc := HCH.out
          rw [ho'] at hc
          simp only [Bool.not_true, Bool.false_or, Bool.true_or] at hc
          subst hc
          clear ho
          go_wp2_with fail
          go_meet
          exact ⟨rfl, Below.refl _ _⟩
    case rest =>
    obtain ⟨rfl, hbc⟩ := hcut
    have HBC := Lib.hid hbc
    have hRc := HR5.out.below hbc
    have HRC := Lib.hid hRc
    have HM5 := Lib.hid (HM5.out.turns (Turns.below (S := []) hbc) (by simp))
    have HM6 := Lib.hid (HM6.out.turns (Turns.below (S := []) hbc) (by simp))
    have f3 := blk_free hRc.blk
    have s3 := hRc.blk
    have e3 : wc.cell? ⟨rb, 3, none⟩ = some (.bool R.leveled) := blk_cell hRc.blk 3
    have e4 : wc.cell? ⟨rb, 4, none⟩ = some (.int .i64 R.other) := blk_cell hRc.blk 4
    have e5 : wc.cell? ⟨rb, 5, none⟩ = some (.map (some lb)) := blk_cell hRc.blk 5
    have e6 : wc.cell? ⟨rb, 6, none⟩ = some (.map (some nb)) := blk_cell hRc.blk 6
    clear c3 c4 c5 hbc hRc
    unfold roomObj at s3
    go_wp2_with fail
    go_ret
    have hne := HRC.out.map_ne
    have hT : ∀ {x y z u : Value}, Turns [rb] wc ((((wc.setCell ⟨rb, 3, none⟩ x).setCell ⟨rb, 4, none⟩ y).setCell ⟨rb, 5, none⟩ z).setCell ⟨rb, 6, none⟩ u) := fun {x y z u} =>
      ((((Turns.refl [rb] wc).setCell (.inl (by simp)) x).setCell (.inl (by simp)) y).setCell (.inl (by simp)) z).setCell (.inl (by simp)) u
    have hlb : w.heap.size ≤ lb2 := HL2.out
    have hlt : rb < w.heap.size := blk_lt HR.out.blk
    have hkl : kb < w.heap.size := HR.out.known.lt
    have hnb : w.heap.size ≤ nb2 := HL5.out
    refine ⟨lb2, nb2, rfl, hlb, hnb, ⟨?_, HRC.out.known.turns hT (by simp; exact hne.1.symm), HM5.out.turns hT (by simp; omega), HM6.out.turns hT (by simp; omega), by omega, by omega, HNE.out⟩, (Turns.below (S := [rb]) (below_trans HB5.out HBC.out)).trans hT⟩
    rw [blk_set (blk_set (blk_set (blk_set HRC.out.blk 3 _) 4 _) 5 _)]
    unfold levelG
    rw [HO.out]
    rfl
  case true =>
    obtain ⟨ot, hot⟩ : ∃ z, otherOf oc = z := ⟨_, rfl⟩
    have HO := Lib.hid hot
    rw [hot] at HOT
    have hov := HOT.out
    simp only [if_true] at hov
    subst hov
    clear hot HOT
    go_wp2_with fail
    refine HG2.out.mono ?_
    rintro e w2 ⟨p2, rfl, hp2, hb2⟩
    have HB2 := Lib.hid (below_trans HB1.out hb2)
    have HN2 := Lib.hid (numbers_any r w2 (HG.out.below HB2.out) (HH.out.below HB2.out) hp2 (getO_ok HOK.out) may_user)
    clear hb2 hp2
    go_wp2_with fail
    refine HN2.out.mono ?_
    rintro e w3 ⟨lb2, rfl, hl2, hm2, hb3⟩
    have HB3 := Lib.hid (below_trans HB2.out hb3)
    have HL2 := Lib.hid (Nat.le_trans HB2.out.size hl2)
    have HM2 := Lib.hid hm2
    have HG3 := Lib.hid (get_any r w3 (HH.out.below (below_trans HB2.out hb3)) HP.out HOK.out (mkS sNotifications))
    rw [list_mkS] at HG3
    clear hb3 hl2 hm2
    go_wp2_with fail
    refine HG3.out.mono ?_
    rintro e w4 ⟨p4, rfl, hp4, hb4⟩
    have HB4 := Lib.hid (below_trans HB3.out hb4)
    have HM4 := Lib.hid (HM2.out.turns (Turns.below (S := []) hb4) (by simp))
    have HN4 := Lib.hid (numbers_any r w4 (HG.out.below HB4.out) (HH.out.below HB4.out) hp4 (getO_ok HOK.out) may_all)
    clear hb4 hp4
    go_wp2_with fail
    refine HN4.out.mono ?_
    rintro e w5 ⟨nb2, rfl, hn2, hm5, hb5⟩
    have HB5 := Lib.hid (below_trans HB4.out hb5)
    have HL5 := Lib.hid (Nat.le_trans HB4.out.size hn2)
    have HNE := Lib.hid (show lb2 ≠ nb2 by have := HM4.out.lt; omega)
    have HM5 := Lib.hid (HM4.out.turns (Turns.below (S := []) hb5) (by simp))
    have HM6 := Lib.hid hm5
    have hR5 := HR.out.below HB5.out
    have HR5 := Lib.hid hR5
    obtain ⟨v1, hv1⟩ : ∃ v, decide (numbersO userB (getO oc sUsers) = R.levels) = v := ⟨_, rfl⟩
    obtain ⟨v2, hv2⟩ : ∃ v, decide (numbersO (fun _ => true) (getO oc sNotifications) = R.needs) = v := ⟨_, rfl⟩
    have HCH := Lib.hid (show ch = (!R.leveled || (otherOf oc != R.other || (!v1 || !v2))) by rw [← HCH0.out]; unfold changedL; rw [hv1, hv2])
    rw [HO.out] at HCH
    have HE1 := Lib.hid (equal_any w5 HM5.out hR5.levels hv1)
    have HE2 := Lib.hid (fun wx (hb : Below w5.heap.size w5 wx) => equal_any wx (HM6.out.turns (Turns.below (S := []) hb) (by simp)) (hR5.below hb).needs hv2)
    have c3 : w5.cell? ⟨rb, 3, none⟩ = some (.bool R.leveled) := blk_cell hR5.blk 3
    have c4 : w5.cell? ⟨rb, 4, none⟩ = some (.int .i64 R.other) := blk_cell hR5.blk 4
    have c5 : w5.cell? ⟨rb, 5, none⟩ = some (.map (some lb)) := blk_cell hR5.blk 5
    have HC6 := Lib.hid (show ∀ wx, Below w5.heap.size w5 wx → wx.cell? ⟨rb, 6, none⟩ = some (.map (some nb)) from fun wx hb => blk_cell (hR5.below hb).blk 6)
    clear hn2 hm5 hb5 hR5 hv1 hv2
    go_upto_region 6 with fail
    go_cut [9] (fun s9 wy => s9 = .bool ch ∧ Below w5.heap.size w5 wy)
    case first =>
      cases hle : R.leveled with
      | false =>
        rw [hle] at c3 HCH
        have hc := HCH.out
        simp only [Bool.not_false, Bool.true_or] at hc
        subst hc
        clear hle
        go_wp2_with fail
        go_meet
        exact ⟨rfl, Below.refl _ _⟩
      | true =>
        rw [hle] at c3 HCH
        clear hle
        by_cases ho : ot = R.other
        · have ho' : ((ot : Int) != R.other) = false := by simpa using ho
          have HO' := Lib.hid ho'
          clear ho
          go_wp2_with fail
          refine HE1.out.mono ?_
          rintro e w6 ⟨rfl, hb6⟩
          have HB6 := Lib.hid hb6
          have c6 := HC6.out w6 hb6
          clear hb6
          cases v1 with
          | false =>
            have hc := HCH.out
            rw [HO'.out] at hc
            simp only [Bool.not_true, Bool.not_false, Bool.false_or, Bool.true_or] at hc
            subst hc
            go_wp2_with fail
            go_meet
            exact ⟨rfl, HB6.out⟩
          | true =>
            have HX := Lib.hid (HE2.out w6 HB6.out)
            have hc := HCH.out
            rw [HO'.out] at hc
            simp only [Bool.not_true, Bool.false_or] at hc
            go_wp2_with fail
            refine HX.out.mono ?_
            rintro e w7 ⟨rfl, hb7⟩
            have HB7 := Lib.hid (below_trans HB6.out hb7)
            clear hb7
            subst hc
            go_wp2_with fail
            go_meet
            exact ⟨rfl, HB7.out⟩
        · have ho' : ((ot : Int) != R.other) = true := by simpa using ho
          have hc := HCH.out
          rw [ho'] at hc
          simp only [Bool.not_true, Bool.false_or, Bool.true_or] at hc
          subst hc
          clear ho
          go_wp2_with fail
          go_meet
          exact ⟨rfl, Below.refl _ _⟩
    case rest =>
    obtain ⟨rfl, hbc⟩ := hcut
    have HBC := Lib.hid hbc
    have hRc := HR5.out.below hbc
    have HRC := Lib.hid hRc
    have HM5 := Lib.hid (HM5.out.turns (Turns.below (S := []) hbc) (by simp))
    have HM6 := Lib.hid (HM6.out.turns (Turns.below (S := []) hbc) (by simp))
    have f3 := blk_free hRc.blk
    have s3 := hRc.blk
    have e3 : wc.cell? ⟨rb, 3, none⟩ = some (.bool R.leveled) := blk_cell hRc.blk 3
    have e4 : wc.cell? ⟨rb, 4, none⟩ = some (.int .i64 R.other) := blk_cell hRc.blk 4
    have e5 : wc.cell? ⟨rb, 5, none⟩ = some (.map (some lb)) := blk_cell hRc.blk 5
    have e6 : wc.cell? ⟨rb, 6, none⟩ = some (.map (some nb)) := blk_cell hRc.blk 6
    clear c3 c4 c5 hbc hRc
    unfold roomObj at s3
    go_wp2_with fail
    go_ret
    have hne := HRC.out.map_ne
    have hT : ∀ {x y z u : Value}, Turns [rb] wc ((((wc.setCell ⟨rb, 3, none⟩ x).setCell ⟨rb, 4, none⟩ y).setCell ⟨rb, 5, none⟩ z).setCell ⟨rb, 6, none⟩ u) := fun {x y z u} =>
      ((((Turns.refl [rb] wc).setCell (.inl (by simp)) x).setCell (.inl (by simp)) y).setCell (.inl (by simp)) z).setCell (.inl (by simp)) u
    have hlb : w.heap.size ≤ lb2 := HL2.out
    have hlt : rb < w.heap.size := blk_lt HR.out.blk
    have hkl : kb < w.heap.size := HR.out.known.lt
    have hnb : w.heap.size ≤ nb2 := HL5.out
    refine ⟨lb2, nb2, rfl, hlb, hnb, ⟨?_, HRC.out.known.turns hT (by simp; exact hne.1.symm), HM5.out.turns hT (by simp; omega), HM6.out.turns hT (by simp; omega), by omega, by omega, HNE.out⟩, (Turns.below (S := [rb]) (below_trans HB5.out HBC.out)).trans hT⟩
    rw [blk_set (blk_set (blk_set (blk_set HRC.out.blk 3 _) 4 _) 5 _)]
    unfold levelG
    rw [HO.out]
    rfl

end Toc

namespace Toc
open Go Go.RowKit Go.Proofs

def applyL (R : RoomSt) (E : Ev) : RoomSt := levelG R (contentO E)
set_option maxRecDepth 100000 in
set_option maxHeartbeats 4000000 in
theorem apply_power (r : Ro) (w : World) (hG : Glob w) (hh : Has r w) {qe : Nat} {E : Ev} (he : EvV r qe E) (hok : EvOk E) {rb kb lb nb : Nat} {R : RoomSt} (hR : RoomAt w rb kb lb nb R) (hmay : mayR R E = 0)
    (hst : E.state = true) (hkey : E.key = []) (hty : E.type = sPower) {ch : Bool} (hch : changedL R (contentO E) = ch) :
    Calls Tryz.prog 27 #[ptrV rb, ptrV qe] w fun e w' => ∃ lb' nb', e = .returned (.tuple #[.bool ch, .int .i64 0]) ∧ w.heap.size ≤ lb' ∧ w.heap.size ≤ nb' ∧ RoomAt w' rb kb lb' nb' (applyL R E) ∧ Turns [rb] w w' := by
  have hmem : memberB E = false := by unfold memberB; rw [hty]; rw [Bool.and_eq_false_iff, Bool.and_eq_false_iff]; exact .inl (.inr (by decide))
  obtain ⟨bq, hea, hev⟩ := he
  have HMY := Lib.hid (may_any r w hG hh hea hok hR)
  rw [hmay] at HMY
  have HE := Lib.hid hea
  have HV := Lib.hid hev
  have HOK := Lib.hid hok
  have HH := Lib.hid hh
  have HR := Lib.hid hR
  have HG := Lib.hid hG
  have HMEM := Lib.hid hmem
  have hpv : PV r (ptrV bq) (some E.body) := ⟨bq, rfl, hev⟩
  have hok1 : OkO (some E.body) := fun x hx => by cases hx; exact hok.2.2.2.2.2.2
  have HPV := Lib.hid hpv
  have HOK1 := Lib.hid hok1
  have HST := Lib.hid hst
  have HKEY := Lib.hid hkey
  have HTY := Lib.hid hty
  have HCH := Lib.hid hch
  clear hea hev hok hh hR hG hmem hmay hpv hok1 hst hkey hty hch
  go_enter Tryz.func27, Tryz.ntmps27
  go_wp2_with fail
  refine HMY.out.mono ?_
  rintro e w1 ⟨rfl, hb1⟩
  have HB1 := Lib.hid hb1
  have d7 : w1.cell? ⟨qe, 7, none⟩ = some (ptrV bq) := blk_cell ((HH.out.below hb1) _ _ HE.out) 7
  obtain ⟨oc, hoc⟩ : ∃ oc, getO (some E.body) sContent = oc := ⟨_, rfl⟩
  have hgc := get_any r w1 (HH.out.below hb1) HPV.out HOK1.out (mkS sContent)
  rw [list_mkS, hoc] at hgc
  have HGC := Lib.hid hgc
  have HOC := Lib.hid (show contentO E = oc from hoc)
  have HOKC := Lib.hid (show OkO oc by rw [← hoc]; exact getO_ok HOK1.out)
  clear hb1 hoc hgc
  go_wp2_with fail
  refine HGC.out.mono ?_
  rintro e w2 ⟨pc, rfl, hpc, hb2⟩
  have HB2 := Lib.hid (below_trans HB1.out hb2)
  have HPC := Lib.hid hpc
  have HME := Lib.hid (membership_any r w2 (HG.out.below HB2.out) (HH.out.below HB2.out) HE.out HOK.out HMEM.out)
  clear hb2 hpc d7
  go_wp2_with fail
  refine HME.out.mono ?_
  rintro e w3 ⟨rfl, hb3⟩
  have HB3 := Lib.hid (below_trans HB2.out hb3)
  have hR3 := HR.out.below HB3.out
  have HR3 := Lib.hid hR3
  have HH3 := Lib.hid (HH.out.below HB3.out)
  have d2 : w3.cell? ⟨qe, 2, none⟩ = some (.string (mkS E.sender)) := blk_cell (HH3.out _ _ HE.out) 2
  have d3 : w3.cell? ⟨qe, 3, none⟩ = some (.string (mkS E.type)) := blk_cell (HH3.out _ _ HE.out) 3
  have d4 : w3.cell? ⟨qe, 4, none⟩ = some (.bool E.state) := blk_cell (HH3.out _ _ HE.out) 4
  have d5 : w3.cell? ⟨qe, 5, none⟩ = some (.string (mkS E.key)) := blk_cell (HH3.out _ _ HE.out) 5
  have c2 : w3.cell? ⟨rb, 2, none⟩ = some (.string (mkS R.creator)) := blk_cell hR3.blk 2
  have f2 := blk_free hR3.blk
  rw [HTY.out] at d3
  rw [HST.out] at d4
  rw [HKEY.out] at d5
  unfold sPower at d3
  unfold mkS at d3 d5
  have HLV := Lib.hid (level_all r w3 (HG.out.below HB3.out) HH3.out (HPC.out) HOKC.out hR3 (ch := ch) (by rw [← HOC.out]; exact HCH.out))
  clear hb3 hR3
  go_wp2_with fail
  refine HLV.out.mono ?_
  rintro e w4 ⟨lb', nb', rfl, hl1, hl2, hR4, hT4⟩
  go_wp2_with fail
  go_ret2
  unfold applyL
  rw [HOC.out]
  exact ⟨lb', nb', rfl, Nat.le_trans HB3.out.size hl1, Nat.le_trans HB3.out.size hl2, hR4, (Turns.below (S := [rb]) HB3.out).trans hT4⟩

set_option maxRecDepth 100000 in
set_option maxHeartbeats 4000000 in
theorem apply_plain (r : Ro) (w : World) (hG : Glob w) (hh : Has r w) {qe : Nat} {E : Ev} (he : EvV r qe E) (hok : EvOk E) {rb kb lb nb : Nat} {R : RoomSt} (hR : RoomAt w rb kb lb nb R) (hmay : mayR R E = 0) (hst : E.state = false) :
    Calls Tryz.prog 27 #[ptrV rb, ptrV qe] w fun e w' => e = .returned (.tuple #[.bool false, .int .i64 0]) ∧ Below w.heap.size w w' := by
  have hmem : memberB E = false := by unfold memberB; rw [hst]; rfl
  obtain ⟨bq, hea, hev⟩ := he
  have HMY := Lib.hid (may_any r w hG hh hea hok hR)
  rw [hmay] at HMY
  have HE := Lib.hid hea
  have HV := Lib.hid hev
  have HOK := Lib.hid hok
  have HH := Lib.hid hh
  have HR := Lib.hid hR
  have HG := Lib.hid hG
  have HMEM := Lib.hid hmem
  have hpv : PV r (ptrV bq) (some E.body) := ⟨bq, rfl, hev⟩
  have hok1 : OkO (some E.body) := fun x hx => by cases hx; exact hok.2.2.2.2.2.2
  have HPV := Lib.hid hpv
  have HOK1 := Lib.hid hok1
  have HST := Lib.hid hst
  clear hea hev hok hh hR hG hmem hmay hpv hok1 hst
  go_enter Tryz.func27, Tryz.ntmps27
  go_wp2_with fail
  refine HMY.out.mono ?_
  rintro e w1 ⟨rfl, hb1⟩
  have HB1 := Lib.hid hb1
  have d7 : w1.cell? ⟨qe, 7, none⟩ = some (ptrV bq) := blk_cell ((HH.out.below hb1) _ _ HE.out) 7
  obtain ⟨oc, hoc⟩ : ∃ oc, getO (some E.body) sContent = oc := ⟨_, rfl⟩
  have hgc := get_any r w1 (HH.out.below hb1) HPV.out HOK1.out (mkS sContent)
  rw [list_mkS, hoc] at hgc
  have HGC := Lib.hid hgc
  have HOC := Lib.hid (show contentO E = oc from hoc)
  have HOKC := Lib.hid (show OkO oc by rw [← hoc]; exact getO_ok HOK1.out)
  clear hb1 hoc hgc
  go_wp2_with fail
  refine HGC.out.mono ?_
  rintro e w2 ⟨pc, rfl, hpc, hb2⟩
  have HB2 := Lib.hid (below_trans HB1.out hb2)
  have HPC := Lib.hid hpc
  have HME := Lib.hid (membership_any r w2 (HG.out.below HB2.out) (HH.out.below HB2.out) HE.out HOK.out HMEM.out)
  clear hb2 hpc d7
  go_wp2_with fail
  refine HME.out.mono ?_
  rintro e w3 ⟨rfl, hb3⟩
  have HB3 := Lib.hid (below_trans HB2.out hb3)
  have hR3 := HR.out.below HB3.out
  have HR3 := Lib.hid hR3
  have HH3 := Lib.hid (HH.out.below HB3.out)
  have d2 : w3.cell? ⟨qe, 2, none⟩ = some (.string (mkS E.sender)) := blk_cell (HH3.out _ _ HE.out) 2
  have d3 : w3.cell? ⟨qe, 3, none⟩ = some (.string (mkS E.type)) := blk_cell (HH3.out _ _ HE.out) 3
  have d4 : w3.cell? ⟨qe, 4, none⟩ = some (.bool E.state) := blk_cell (HH3.out _ _ HE.out) 4
  have d5 : w3.cell? ⟨qe, 5, none⟩ = some (.string (mkS E.key)) := blk_cell (HH3.out _ _ HE.out) 5
  have c2 : w3.cell? ⟨rb, 2, none⟩ = some (.string (mkS R.creator)) := blk_cell hR3.blk 2
  have f2 := blk_free hR3.blk
  rw [HST.out] at d4
  clear hb3 hR3
  go_wp2_with fail
  go_ret2
  exact ⟨rfl, HB3.out⟩

set_option maxRecDepth 100000 in
set_option maxHeartbeats 4000000 in
theorem apply_keyed (r : Ro) (w : World) (hG : Glob w) (hh : Has r w) {qe : Nat} {E : Ev} (he : EvV r qe E) (hok : EvOk E) {rb kb lb nb : Nat} {R : RoomSt} (hR : RoomAt w rb kb lb nb R) (hmay : mayR R E = 0) (hmem : memberB E = false) (hst : E.state = true) (hkey : E.key ≠ []) :
    Calls Tryz.prog 27 #[ptrV rb, ptrV qe] w fun e w' => e = .returned (.tuple #[.bool false, .int .i64 0]) ∧ Below w.heap.size w w' := by
  obtain ⟨bq, hea, hev⟩ := he
  have HMY := Lib.hid (may_any r w hG hh hea hok hR)
  rw [hmay] at HMY
  have HE := Lib.hid hea
  have HV := Lib.hid hev
  have HOK := Lib.hid hok
  have HH := Lib.hid hh
  have HR := Lib.hid hR
  have HG := Lib.hid hG
  have HMEM := Lib.hid hmem
  have hpv : PV r (ptrV bq) (some E.body) := ⟨bq, rfl, hev⟩
  have hok1 : OkO (some E.body) := fun x hx => by cases hx; exact hok.2.2.2.2.2.2
  have HPV := Lib.hid hpv
  have HOK1 := Lib.hid hok1
  have HST := Lib.hid hst
  have HKEY := Lib.hid (show (mkS E.key).toList.isEmpty = false by rw [Lib.toList_data]; simpa using hkey)
  clear hea hev hok hh hR hG hmem hmay hpv hok1 hst hkey
  go_enter Tryz.func27, Tryz.ntmps27
  go_wp2_with fail
  refine HMY.out.mono ?_
  rintro e w1 ⟨rfl, hb1⟩
  have HB1 := Lib.hid hb1
  have d7 : w1.cell? ⟨qe, 7, none⟩ = some (ptrV bq) := blk_cell ((HH.out.below hb1) _ _ HE.out) 7
  obtain ⟨oc, hoc⟩ : ∃ oc, getO (some E.body) sContent = oc := ⟨_, rfl⟩
  have hgc := get_any r w1 (HH.out.below hb1) HPV.out HOK1.out (mkS sContent)
  rw [list_mkS, hoc] at hgc
  have HGC := Lib.hid hgc
  have HOC := Lib.hid (show contentO E = oc from hoc)
  have HOKC := Lib.hid (show OkO oc by rw [← hoc]; exact getO_ok HOK1.out)
  clear hb1 hoc hgc
  go_wp2_with fail
  refine HGC.out.mono ?_
  rintro e w2 ⟨pc, rfl, hpc, hb2⟩
  have HB2 := Lib.hid (below_trans HB1.out hb2)
  have HPC := Lib.hid hpc
  have HME := Lib.hid (membership_any r w2 (HG.out.below HB2.out) (HH.out.below HB2.out) HE.out HOK.out HMEM.out)
  clear hb2 hpc d7
  go_wp2_with fail
  refine HME.out.mono ?_
  rintro e w3 ⟨rfl, hb3⟩
  have HB3 := Lib.hid (below_trans HB2.out hb3)
  have hR3 := HR.out.below HB3.out
  have HR3 := Lib.hid hR3
  have HH3 := Lib.hid (HH.out.below HB3.out)
  have d2 : w3.cell? ⟨qe, 2, none⟩ = some (.string (mkS E.sender)) := blk_cell (HH3.out _ _ HE.out) 2
  have d3 : w3.cell? ⟨qe, 3, none⟩ = some (.string (mkS E.type)) := blk_cell (HH3.out _ _ HE.out) 3
  have d4 : w3.cell? ⟨qe, 4, none⟩ = some (.bool E.state) := blk_cell (HH3.out _ _ HE.out) 4
  have d5 : w3.cell? ⟨qe, 5, none⟩ = some (.string (mkS E.key)) := blk_cell (HH3.out _ _ HE.out) 5
  have c2 : w3.cell? ⟨rb, 2, none⟩ = some (.string (mkS R.creator)) := blk_cell hR3.blk 2
  have f2 := blk_free hR3.blk
  rw [HST.out] at d4
  have hkn := HKEY.out
  generalize mkS E.key = ks at d5 hkn
  clear hb3 hR3
  go_wp2_with fail
  go_ret2
  exact ⟨rfl, HB3.out⟩

set_option maxRecDepth 100000 in
set_option maxHeartbeats 4000000 in
theorem apply_other (r : Ro) (w : World) (hG : Glob w) (hh : Has r w) {qe : Nat} {E : Ev} (he : EvV r qe E) (hok : EvOk E) {rb kb lb nb : Nat} {R : RoomSt} (hR : RoomAt w rb kb lb nb R) (hmay : mayR R E = 0) (hst : E.state = true) (hkey : E.key = []) (hty1 : E.type = sCreate → R.creator ≠ []) (hty2 : E.type ≠ sPower) (hmem : memberB E = false) :
    Calls Tryz.prog 27 #[ptrV rb, ptrV qe] w fun e w' => e = .returned (.tuple #[.bool false, .int .i64 0]) ∧ Below w.heap.size w w' := by
  obtain ⟨bq, hea, hev⟩ := he
  have HMY := Lib.hid (may_any r w hG hh hea hok hR)
  rw [hmay] at HMY
  have HE := Lib.hid hea
  have HV := Lib.hid hev
  have HOK := Lib.hid hok
  have HH := Lib.hid hh
  have HR := Lib.hid hR
  have HG := Lib.hid hG
  have HMEM := Lib.hid hmem
  have hpv : PV r (ptrV bq) (some E.body) := ⟨bq, rfl, hev⟩
  have hok1 : OkO (some E.body) := fun x hx => by cases hx; exact hok.2.2.2.2.2.2
  have HPV := Lib.hid hpv
  have HOK1 := Lib.hid hok1
  have HST := Lib.hid hst
  have HKEY := Lib.hid hkey
  have HT1 := Lib.hid hty1
  have HT2 := Lib.hid (show ((mkS E.type).toList == sPower) = false from str_ne (by rw [list_mkS]; exact hty2))
  clear hea hev hok hh hR hG hmem hmay hpv hok1 hst hkey hty1 hty2
  go_enter Tryz.func27, Tryz.ntmps27
  go_wp2_with fail
  refine HMY.out.mono ?_
  rintro e w1 ⟨rfl, hb1⟩
  have HB1 := Lib.hid hb1
  have d7 : w1.cell? ⟨qe, 7, none⟩ = some (ptrV bq) := blk_cell ((HH.out.below hb1) _ _ HE.out) 7
  obtain ⟨oc, hoc⟩ : ∃ oc, getO (some E.body) sContent = oc := ⟨_, rfl⟩
  have hgc := get_any r w1 (HH.out.below hb1) HPV.out HOK1.out (mkS sContent)
  rw [list_mkS, hoc] at hgc
  have HGC := Lib.hid hgc
  have HOC := Lib.hid (show contentO E = oc from hoc)
  have HOKC := Lib.hid (show OkO oc by rw [← hoc]; exact getO_ok HOK1.out)
  clear hb1 hoc hgc
  go_wp2_with fail
  refine HGC.out.mono ?_
  rintro e w2 ⟨pc, rfl, hpc, hb2⟩
  have HB2 := Lib.hid (below_trans HB1.out hb2)
  have HPC := Lib.hid hpc
  have HME := Lib.hid (membership_any r w2 (HG.out.below HB2.out) (HH.out.below HB2.out) HE.out HOK.out HMEM.out)
  clear hb2 hpc d7
  go_wp2_with fail
  refine HME.out.mono ?_
  rintro e w3 ⟨rfl, hb3⟩
  have HB3 := Lib.hid (below_trans HB2.out hb3)
  have hR3 := HR.out.below HB3.out
  have HR3 := Lib.hid hR3
  have HH3 := Lib.hid (HH.out.below HB3.out)
  have d2 : w3.cell? ⟨qe, 2, none⟩ = some (.string (mkS E.sender)) := blk_cell (HH3.out _ _ HE.out) 2
  have d3 : w3.cell? ⟨qe, 3, none⟩ = some (.string (mkS E.type)) := blk_cell (HH3.out _ _ HE.out) 3
  have d4 : w3.cell? ⟨qe, 4, none⟩ = some (.bool E.state) := blk_cell (HH3.out _ _ HE.out) 4
  have d5 : w3.cell? ⟨qe, 5, none⟩ = some (.string (mkS E.key)) := blk_cell (HH3.out _ _ HE.out) 5
  have c2 : w3.cell? ⟨rb, 2, none⟩ = some (.string (mkS R.creator)) := blk_cell hR3.blk 2
  have f2 := blk_free hR3.blk
  rw [HST.out] at d4
  rw [HKEY.out] at d5
  unfold mkS at d5
  have ht2 := HT2.out
  unfold sPower at ht2
  by_cases hc : E.type = sCreate
  · have hcr := HT1.out hc
    rw [hc] at d3 ht2
    have hce : (mkS R.creator).toList.isEmpty = false := by rw [Lib.toList_data]; simpa using hcr
    generalize mkS R.creator = cs at c2 hce
    unfold sCreate at d3 ht2
    unfold mkS at d3
    clear hb3 hR3 hcr hc ht2
    go_wp2_with fail
    go_ret2
    exact ⟨rfl, HB3.out⟩
  · have ht1 : ((mkS E.type).toList == sCreate) = false := str_ne (by rw [list_mkS]; exact hc)
    unfold sCreate at ht1
    generalize mkS E.type = ts at d3 ht1 ht2
    clear hb3 hR3 hc
    go_wp2_with fail
    go_ret2
    exact ⟨rfl, HB3.out⟩

set_option maxRecDepth 100000 in
set_option maxHeartbeats 4000000 in
theorem apply_refused (r : Ro) (w : World) (hG : Glob w) (hh : Has r w) {qe : Nat} {E : Ev} (he : EvV r qe E) (hok : EvOk E) {rb kb lb nb : Nat} {R : RoomSt} (hR : RoomAt w rb kb lb nb R) {n : Int} (hmay : mayR R E = n) (hn : n ≠ 0) :
    Calls Tryz.prog 27 #[ptrV rb, ptrV qe] w fun e w' => e = .returned (.tuple #[.bool false, .int .i64 n]) ∧ Below w.heap.size w w' := by
  obtain ⟨bq, hea, hev⟩ := he
  have HMY := Lib.hid (may_any r w hG hh hea hok hR)
  rw [hmay] at HMY
  have hn' : (n != 0) = true := by simpa using hn
  clear hea hev hok hh hR hG hmay hn
  go_enter Tryz.func27, Tryz.ntmps27
  go_wp2_with fail
  refine HMY.out.mono ?_
  rintro e w1 ⟨rfl, hb1⟩
  have HB1 := Lib.hid hb1
  clear hb1
  go_wp2_with fail
  go_ret2
  exact ⟨rfl, HB1.out⟩

end Toc
