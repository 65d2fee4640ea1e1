/-
  OfMap: jsonval.OfMap: an object of a map of values whose keys are ASCII (under way).
  OfMap2: What OfMap makes is the object of the map's values; a map's literal, entry by entry.
  MapV: A map of values under way, whose values' places are known; an event read out of a value that is one.
-/
import Derived.Test.YtblbdgepocfngaaGreatDoorWK
import Derived.Test.YtblbdgepocfngaaGreatDoorWL
import Derived.Deep.RegionHeld3
import Derived.Deep.RegionLaw
import Derived.Deep.AppendLies
import Derived.Laws.Externs
import Derived.Test.YtblbdgepocfngaaGreatDoorW8
import Derived.Test.YtblbdgepocfngaaGreatDoorWC
namespace Toc
open Go Go.RowKit Go.Proofs

def vMap (l : List (Bytes × Nat)) : List (Bytes × Value) := l.map fun p => (p.1, ptrV p.2)

theorem vMap_keys (l : List (Bytes × Nat)) : ((vMap l).map fun p => (Value.string (mkS p.1))) = l.map fun p => .string (mkS p.1) := by
  simp [vMap]

/-- Where a round of the first loop stands: i keys have gone over. -/
theorem putK_last {α : Type} {l : List (Bytes × α)} (hr : Rising l) {i : Nat} {p : Bytes × α} (hi : l[i]? = some p) : putK (l.take i) p.1 p.2 = l.take (i + 1) := by
  have hl : (l.take (i + 1)) = l.take i ++ [p] := by
    rw [List.take_add_one, hi]; rfl
  rw [hl]
  have hlt : ∀ x ∈ l.take i, Lib.compareBytes x.1 p.1 = -1 := by
    intro x hx
    obtain ⟨j, hj, rfl⟩ := List.mem_iff_getElem.1 hx
    have hj' : j < i ∧ j < l.length := by rw [List.length_take] at hj; omega
    exact hr j i _ _ (by rw [List.getElem_take]; exact List.getElem?_eq_getElem hj'.2) hi hj'.1
  unfold putK
  rw [List.filter_eq_self.2 (fun x hx => by rw [hlt x hx]; rfl), List.filter_eq_nil_iff.2 (fun x hx => by rw [hlt x hx]; decide)]

theorem vMap_rising {l : List (Bytes × Nat)} (h : Rising (vMap l)) : Rising l := by
  rw [rising_iff] at h ⊢
  unfold vMap at h
  rw [List.pairwise_map] at h
  exact h

/-- The keys' row can be read: none, or its cells. -/
def KeysAt (w : World) (lo hi : Nat) (oa : Option Addr) (n : Nat) (ks : List Bytes) : Prop :=
  n = 0 ∨ ∃ (g : Nat) (cur : Array Value), oa = some ⟨g, 0, none⟩ ∧ lo ≤ g ∧ g < hi ∧ w.heap[g]? = some (.cells cur 9 (0, 0)) ∧ ∀ (i : Nat) (k : Bytes), ks[i]? = some k → cur[i]? = some (Value.string (mkS k))
theorem KeysAt.turns {w w' : World} {lo hi : Nat} {oa : Option Addr} {n : Nat} {ks : List Bytes} {S : List Nat} (h : KeysAt w lo hi oa n ks) (ht : Turns S w w') (hS : ∀ b ∈ S, b < lo ∨ hi ≤ b) : KeysAt w' lo hi oa n ks := by
  rcases h with h | ⟨g, cur, h1, h2, h3, h4, h5⟩
  · exact .inl h
  · exact .inr ⟨g, cur, h1, h2, h3, ht.heap h4 (fun hm => by have := hS g hm; omega), h5⟩
theorem KeysAt.cell {w : World} {lo hi : Nat} {oa : Option Addr} {n : Nat} {ks : List Bytes} (h : KeysAt w lo hi oa n ks) {i : Nat} (hi' : i < n) {k : Bytes} (hk : ks[i]? = some k) :
    ∃ g, oa = some ⟨g, 0, none⟩ ∧ lo ≤ g ∧ w.cell? ⟨g, i, none⟩ = some (.string (mkS k)) := by
  rcases h with h | ⟨g, cur, h1, h2, _, h3, h4⟩
  · omega
  · exact ⟨g, h1, h2, (blk_cell h3 i).trans (h4 i k hk)⟩
theorem keys_row {w : World} {base n : Nat} {v : Value} {ks : List Bytes} (h : w.ownsRow base 9 1 v n (ks.map fun k => Value.string (mkS k))) :
    ∃ (oa : Option Addr) (cap : Nat), v = .slice oa n cap ∧ n ≤ cap ∧ KeysAt w base w.heap.size oa n ks := by
  have h0 := h.1
  rw [List.length_map, Nat.mul_one] at h0
  rcases h.2 with ⟨h1, h2⟩ | ⟨g, cap, cur, h1, h2, h3, h4, _, _, h7⟩
  · subst h2
    exact ⟨none, 0, h1, Nat.le_refl _, .inl rfl⟩
  · refine ⟨_, cap, h1, h4, .inr ⟨g, cur, rfl, h2, blk_lt h3, h3, fun i k hi => ?_⟩⟩
    have hlt : i < n := by rw [← h0]; exact (List.getElem?_eq_some_iff.1 hi).1
    have e : (cur.toList.take (n * 1))[i]? = some (.string (mkS k)) := by rw [h7, List.getElem?_map, hi]; rfl
    rw [List.getElem?_take_of_lt (by omega), Array.getElem?_toList] at e
    exact e

/-- The cells of the members. -/
def memP (l : List (Bytes × Nat)) : List Value := l.flatMap fun p => [.string (mkS p.1), ptrV p.2]
theorem memP_take {l : List (Bytes × Nat)} {i : Nat} {p : Bytes × Nat} (hi : l[i]? = some p) : memP (l.take (i + 1)) = memP (l.take i) ++ [.string (mkS p.1), ptrV p.2] := by
  rw [List.take_add_one, hi]
  simp [memP]

theorem after_grow {w1 w2 : World} {x : Obj} {q base : Nat} {sv : Value} {e : TypeId} {s n : Nat} {xs : List Value} (hq : w1.heap[q]? = some x) (hb : q < base) (hown : w1.ownsRow base e s sv n xs) (hgr : w1.grownBy w2 sv.ownBlock) : w2.heap[q]? = some x :=
  (hgr.block q (blk_lt hq) (fun e => by have := (hown.lt q e.symm).1; omega)).trans hq

/-- Where a round of the second loop stands. -/
structure MemAt (w : World) (mb q lo base : Nat) (oa : Option Addr) (n : Nat) (l : List (Bytes × Nat)) (sv : Value) (i : Nat) (wr : World) : Prop where
  map : MapAt wr mb (vMap l)
  keys : KeysAt wr lo base oa n (l.map (·.1))
  below : Below w.heap.size w wr
  blk : wr.heap[q]? = some (vObj 5 false 0 emptyS nilS sv)
  own : wr.ownsRow base 119 2 sv i (memP (l.take i))
  size : base ≤ wr.heap.size

/-- What one member more leaves. -/
theorem MemAt.next {w wr w2 : World} {mb q lo base : Nat} {oa : Option Addr} {n : Nat} {l : List (Bytes × Nat)} {sv : Value} {i : Nat} (h : MemAt w mb q lo base oa n l sv i wr) (hm : mb < q) (hw : w.heap.size ≤ mb) (hq : q < lo) (hlb : lo ≤ base) {p : Bytes × Nat} (hp : l[i]? = some p) {ob : Obj}
    {g cap : Nat} (hown : w2.ownsRow base 119 2 (.slice (some ⟨g, 0, none⟩) (i + 1) cap) (i + 1) (memP (l.take i) ++ [.string (mkS p.1), ptrV p.2])) (hgr : (wr.drew.alloc ob).grownBy w2 sv.ownBlock) :
    MemAt w mb q lo base oa n l (.slice (some ⟨g, 0, none⟩) (i + 1) cap) (i + 1) (w2.setCell ⟨q, 5, none⟩ (.slice (some ⟨g, 0, none⟩) (i + 1) cap)) := by
  have hlt := h.own.lt
  have hT : Turns (q :: sv.ownBlock.toList) wr (w2.setCell ⟨q, 5, none⟩ (.slice (some ⟨g, 0, none⟩) (i + 1) cap)) :=
    ((((Turns.refl (q :: sv.ownBlock.toList) wr).drew).alloc ob).grown hgr (fun k hk => .inl (by simp [hk]))).setCell (.inl (by simp)) _
  have hS : ∀ b ∈ q :: sv.ownBlock.toList, b = q ∨ base ≤ b := by
    intro b hb
    rcases List.mem_cons.1 hb with rfl | hb
    · exact .inl rfl
    · exact .inr (hlt b (by simpa using hb)).1
  refine ⟨h.map.turns hT (fun hm' => by have := hS _ hm'; omega), h.keys.turns hT (fun b hb => by have := hS b hb; omega), ?_, ?_, ?_, ?_⟩
  · exact ((Turns.below (S := []) h.below).extend hT (fun b hb => .inr (by have := hS b hb; omega))).toBelow (by simp)
  · have h2 : w2.heap[q]? = some (vObj 5 false 0 emptyS nilS sv) := by
      refine (hgr.block q ?_ (fun e => by have := (hlt q e.symm).1; omega)).trans (blk_old (w := wr.drew) h.blk ob)
      have := blk_lt h.blk
      show q < (wr.drew.alloc ob).heap.size
      simp; omega
    have := blk_set (v := .slice (some ⟨g, 0, none⟩) (i + 1) cap) h2 5
    simpa [vObj] using this
  · rw [memP_take hp]
    exact own_set hown (p := ⟨q, 5, none⟩) (by show q < base; omega) _
  · have := h.size; have := hT.size; omega

set_option maxRecDepth 100000 in
set_option maxHeartbeats 4000000 in
theorem ofMap_any (w : World) {b : Nat} {l : List (Bytes × Nat)} (hm : MapAt w b (vMap l)) (hl : l.length ≤ 1000) (hk : ∀ p ∈ l, KeyB p.1) :
    Calls Tryz.prog 22 #[.map (some b)] w fun e w' => ∃ q sv base, e = .returned (ptrV q) ∧ w.heap.size ≤ q ∧ q < base ∧ w'.heap[q]? = some (vObj 5 false 0 emptyS nilS sv) ∧ w'.ownsRow base 119 2 sv l.length (memP l) ∧ Below w.heap.size w w' := by
  obtain ⟨n, hn⟩ : ∃ n, l.length = n := ⟨_, rfl⟩
  obtain ⟨i0, hi5, hzz0, hzz1, hzz2⟩ := info_parts (show (Tryz.prog.info? 119).map (fun i => (i.zero, i.size, i.bytes)) = some (some (.agg #[.string ⟨#[]⟩, .pointer none]), 2, 24) by kernel_rfl)
  have hmm := @run_makeMap Tryz.prog
  have HM := Lib.hid hm
  have HLN := Lib.hid hl
  have HK := Lib.hid hk
  have HNN := Lib.hid hn
  have HR := Lib.hid (vMap_rising hm.rise)
  have hn1000 : n ≤ 1000 := by omega
  clear hm hl hk
  go_enter Tryz.func22, Tryz.ntmps22
  go_wp2_with fail
  refine (keys_call b _).mono ?_
  rintro e w1 ⟨rfl, rfl⟩
  have hT1 : Turns [] w ((w.alloc (.map #[] 0)).alloc (.cells #[.map (some b)] 39)) := ((Turns.refl [] w).alloc _).alloc _
  have HM1 := Lib.hid (HM.out.turns hT1 (by simp))
  have HN1 := Lib.hid (((MapAt.new w).turns ((Turns.refl [] _).alloc (.cells #[.map (some b)] 39)) (by simp)))
  have HB1 := Lib.hid (((Below.refl w.heap.size w).alloc (Nat.le_refl _) (.map #[] 0)).alloc (by simp) (.cells #[.map (some b)] 39))
  have HC1 := Lib.hid (sorted_call (w := (w.alloc (.map #[] 0)).alloc (.cells #[.map (some b)] 39)) (b := b) (bx := w.heap.size + 1) (l := vMap l) (by have h := blk_cell (blk_new (w.alloc (.map #[] 0)) (.cells #[.map (some b)] 39)) 0; rw [show (w.alloc (.map #[] 0)).heap.size = w.heap.size + 1 by simp] at h; exact h) HM1.out (by have := HLN.out; unfold vMap; rw [List.length_map]; omega) (by
    intro p hp
    obtain ⟨x, hx, rfl⟩ := List.mem_map.1 hp
    have := (HK.out x hx).1
    show x.1.length ≤ maxLen
    unfold maxLen; omega))
  clear hT1
  go_wp2_with fail
  refine HC1.out.mono ?_
  rintro e w2 ⟨v, rfl, hrow, hb2⟩
  have hkr := keys_row (ks := (vMap l).map (·.1)) (by rw [List.map_map]; exact hrow)
  rw [show (vMap l).length = n by simp [vMap, hn], show (vMap l).map (·.1) = l.map (·.1) by simp [vMap]] at hkr
  obtain ⟨oa, cap, rfl, hcap, hka⟩ := hkr
  rw [show (((w.alloc (.map #[] 0)).alloc (.cells #[.map (some b)] 39)).heap.size) = w.heap.size + 2 by simp] at hka
  have HB2 := Lib.hid (HB1.out.trans (hb2.mono (by rw [show ((w.alloc (.map #[] 0)).alloc (.cells #[.map (some b)] 39)).heap.size = w.heap.size + 1 + 1 by simp]; omega)))
  have HM2 := Lib.hid (HM1.out.turns (Turns.below (S := []) hb2) (by simp))
  have HN2 := Lib.hid (HN1.out.turns (Turns.below (S := []) hb2) (by simp))
  have hz2 : w.heap.size + 2 ≤ w2.heap.size := by have := hb2.size; simpa using this
  have HKA := Lib.hid hka
  clear hrow hb2 HC1 HM1 HN1 HB1 hka
  obtain ⟨hi2, hhi2⟩ : ∃ x, w2.heap.size = x := ⟨_, rfl⟩
  rw [hhi2] at HKA hz2
  have HHI := Lib.hid hhi2
  clear hhi2
  go_wp2_with fail
  go_loopw [14] (fun s14 wr => ∃ i : Nat, s14 = .int .i64 i ∧ i ≤ n ∧ MapAt wr w.heap.size (vMap (l.take i)) ∧ KeysAt wr (w.heap.size + 2) hi2 oa n (l.map (·.1)) ∧ Below w.heap.size w wr ∧ hi2 ≤ wr.heap.size) (fun s14 _ => match s14 with | .int _ k => n - k.toNat | _ => 0)
  case atStart => exact ⟨0, rfl, Nat.zero_le _, HN2.out, HKA.out, HB2.out, by rw [HHI.out]; exact Nat.le_refl _⟩
  case round =>
    obtain ⟨i, rfl, hi, hM, hka, hB, hz⟩ := hrel
    by_cases hin : i < n
    · obtain ⟨p, hp⟩ : ∃ p, l[i]? = some p := ⟨_, List.getElem?_eq_getElem (by have := HNN.out; omega)⟩
      obtain ⟨k, q⟩ := p
      obtain ⟨g, rfl, hgl, hcell⟩ := hka.cell hin (k := k) (by rw [List.getElem?_map, hp]; rfl)
      obtain ⟨sk, hsk⟩ : ∃ s, mkS k = s := ⟨_, rfl⟩
      rw [hsk] at hcell
      have HP := Lib.hid hp
      have HSK := Lib.hid hsk
      have HMR := Lib.hid hM
      have HKR := Lib.hid hka
      have HBR := Lib.hid hB
      clear hp hsk hM hka hB HKA
      have hlkk := (HK.out (k, q) (List.mem_of_getElem? HP.out))
      have HRT := Lib.hid (fun wx => right_fine sk wx (by rw [← HSK.out, size_mkS]; have := hlkk.1; dsimp only at this; omega) (by rw [← HSK.out, list_mkS]; exact hlkk.2))
      have HLK : Hid (∀ wx, Below w.heap.size w wx → (Instr.lookup 39 (.map (some b)) (.string sk) false).run Tryz.prog wx = .ok (ptrV q) wx) := Lib.hid (fun wx hb => by
        have h := run_look (P := Tryz.prog) Tryz.underlying39 Tryz.underlying9 (z := .pointer none) (fun w => by kernel_rfl) (HM.out.turns (Turns.below (S := []) hb) (by simp)) k
        rw [HSK.out] at h
        rw [show getK (vMap l) k = some (ptrV q) from getK_of_mem (rising_keys (HM.out.rise)) (List.mem_map.2 ⟨(k, q), List.mem_of_getElem? HP.out, rfl⟩)] at h
        exact h)
      clear hlkk
      go_wp2_with fail
      have s0 := HLK.out wr.drew HBR.out.drew
      go_region_held3 (fun x => (Instr.lookup 39 (.map (some b)) (.string sk) false).run Tryz.prog x = .ok (ptrV q) x)
        (first | (with_reducible exact s0) | (with_reducible exact s1) | (with_reducible exact s2))
        (first
          | (go_at_call 64
             refine (HRT.out wr.drew).mono ?_
             rintro e w3 ⟨rfl, hb3⟩
             have HB3 := Lib.hid ((HBR.out.drew).trans (hb3.mono (by have := HBR.out.size; exact this)))
             have s1 := HLK.out w3 HB3.out
             obtain ⟨wC, hrun, hmC, htC⟩ := run_put (P := Tryz.prog) Tryz.underlying39 Tryz.underlying9 (HMR.out.turns (((Turns.refl [] wr).drew).trans (Turns.below (S := []) hb3)) (by simp)) k (ptrV q)
             rw [HSK.out] at hrun
             have HK3 := Lib.hid (HKR.out.turns (((Turns.refl [] wr).drew).trans (Turns.below (S := []) hb3)) (by simp))
             have HZ3 := Lib.hid (show wr.heap.size ≤ w3.heap.size from hb3.size)
             have HMC := Lib.hid hmC
             have HTC := Lib.hid htC
             have HBC := Lib.hid (((Turns.below (S := []) HB3.out).extend htC (by simp)).toBelow (by simp))
             have s2 := HLK.out wC HBC.out
             clear hb3 hmC htC)
          | (go_at_call 63
             refine (known_some q _).mono ?_
             rintro e w4 ⟨rfl, rfl⟩))
      all_goals
        have hput : MapAt wC w.heap.size (vMap (l.take (i + 1))) := by
          have h := HMC.out
          rw [show putK (vMap (l.take i)) k (ptrV q) = vMap (putK (l.take i) k q) from putK_map ptrV _ _ _, putK_last HR.out HP.out] at h
          exact h
        have HPU := Lib.hid hput
        have hKC := HK3.out.turns HTC.out (by simp)
        have HKC := Lib.hid hKC
        have hzC : hi2 ≤ wC.heap.size := by have h1 := HTC.out.size; have h2 := HZ3.out; omega
        clear hput hKC
        go_wp2_with fail
        go_roundw
        case rel => exact ⟨i + 1, by simp, hin, HPU.out, HKC.out, HBC.out, hzC⟩
        case measure => simp; omega
    · have hie : i = n := by omega
      subst hie
      rw [List.take_of_length_le (by rw [HNN.out]; exact Nat.le_refl _)] at hM
      have HML := Lib.hid hM
      have HBR := Lib.hid hB
      clear hM hB hka HKA
      go_wp2_with fail
      refine (keys_call w.heap.size _).mono ?_
      rintro e w3 ⟨rfl, rfl⟩
      have hTV : Turns [] wr ((wr.alloc (vObj 5 false 0 emptyS nilS nilS)).alloc (.cells #[.map (some w.heap.size)] 39)) := ((Turns.refl [] wr).alloc _).alloc _
      have HTV := Lib.hid hTV
      have HMV := Lib.hid (HML.out.turns hTV (by simp))
      have HC2 := Lib.hid (sorted_call (w := (wr.alloc (vObj 5 false 0 emptyS nilS nilS)).alloc (.cells #[.map (some w.heap.size)] 39)) (b := w.heap.size) (bx := wr.heap.size + 1) (l := vMap l) (by have h := blk_cell (blk_new (wr.alloc (vObj 5 false 0 emptyS nilS nilS)) (.cells #[.map (some w.heap.size)] 39)) 0; rw [show (wr.alloc (vObj 5 false 0 emptyS nilS nilS)).heap.size = wr.heap.size + 1 by simp] at h; exact h) HMV.out (by have := HLN.out; unfold vMap; rw [List.length_map]; omega) (by
        intro p hp
        obtain ⟨x, hx, rfl⟩ := List.mem_map.1 hp
        have := (HK.out x hx).1
        show x.1.length ≤ maxLen
        unfold maxLen; omega))
      have HVO := Lib.hid (blk_old (blk_new wr (vObj 5 false 0 emptyS nilS nilS)) (.cells #[.map (some w.heap.size)] 39))
      clear hTV
      go_wp2_with fail
      refine HC2.out.mono ?_
      rintro e w4 ⟨v2, rfl, hrow2, hb4⟩
      have hkr := keys_row (ks := (vMap l).map (·.1)) (by rw [List.map_map]; exact hrow2)
      rw [show (vMap l).length = i by simp [vMap, hn], show (vMap l).map (·.1) = l.map (·.1) by simp [vMap]] at hkr
      obtain ⟨oa2, cap2, rfl, hcap2, hka2⟩ := hkr
      rw [show (((wr.alloc (vObj 5 false 0 emptyS nilS nilS)).alloc (.cells #[.map (some w.heap.size)] 39)).heap.size) = wr.heap.size + 2 by simp] at hka2
      have hT4 : Turns [] wr w4 := HTV.out.trans (Turns.below hb4)
      have hlo : wr.heap.size + 2 ≤ w4.heap.size := by have := hb4.size; simpa using this
      have hwr : w.heap.size < wr.heap.size := HML.out.lt
      have hM4 : MemAt w w.heap.size wr.heap.size (wr.heap.size + 2) w4.heap.size oa2 i l nilS 0 w4 :=
        ⟨HML.out.turns hT4 (by simp), hka2, ((Turns.below (S := []) HBR.out).trans (hT4.mono (by simp))).toBelow (by simp), (Turns.below (S := []) hb4).heap HVO.out (by simp), ⟨rfl, .inl ⟨rfl, rfl⟩⟩, Nat.le_refl _⟩
      have HM4 := Lib.hid hM4
      clear hrow2 hb4 hka2 hT4 HC2 HVO HTV HMV hM4
      obtain ⟨base, hbase⟩ : ∃ x, w4.heap.size = x := ⟨_, rfl⟩
      rw [hbase] at HM4 hlo
      obtain ⟨q0, hq0⟩ : ∃ x, wr.heap.size = x := ⟨_, rfl⟩
      rw [hq0] at HM4 hlo hwr
      go_wp2_with fail
      go_loopw [32] (fun s32 wx => ∃ (j : Nat) (sv : Value), s32 = .int .i64 j ∧ j ≤ i ∧ MemAt w w.heap.size wr.heap.size (wr.heap.size + 2) base oa2 i l sv j wx) (fun s32 _ => match s32 with | .int _ k => i - k.toNat | _ => 0)
      case atStart => exact ⟨0, nilS, rfl, Nat.zero_le _, by rw [hq0]; exact HM4.out⟩
      case round =>
        rw [hq0] at hrel
        obtain ⟨j, sv, rfl, hj, hMA⟩ := hrel
        by_cases hji : j < i
        · obtain ⟨p, hp⟩ : ∃ p, l[j]? = some p := ⟨_, List.getElem?_eq_getElem (by have := HNN.out; omega)⟩
          obtain ⟨k, qv⟩ := p
          obtain ⟨g, rfl, hgl, hcell⟩ := hMA.keys.cell hji (k := k) (by rw [List.getElem?_map, hp]; rfl)
          obtain ⟨sk, hsk⟩ : ∃ s, mkS k = s := ⟨_, rfl⟩
          rw [hsk] at hcell
          have s0 := run_look (P := Tryz.prog) Tryz.underlying39 Tryz.underlying9 (z := .pointer none) (fun w => by kernel_rfl) (hMA.map.turns ((Turns.refl [] wr).drew) (by simp)) k
          rw [hsk, show getK (vMap l) k = some (ptrV qv) from getK_of_mem (rising_keys hMA.map.rise) (List.mem_map.2 ⟨(k, qv), List.mem_of_getElem? hp, rfl⟩)] at s0
          have hq := hMA.blk
          unfold vObj at hq
          have c5 := blk_cell hq 5
          have c5a := fun o => cell_alloc c5 o
          have HMA := Lib.hid hMA
          have HP := Lib.hid hp
          have HSK := Lib.hid hsk
          have HQ := Lib.hid hMA.blk
          have HOW := Lib.hid hMA.own
          clear hMA hp hsk hq HM4
          go_wp2_with fail
          go_region_law (first
            | (refine step_append_lies _ rfl (.tmp 40) (.tmp 46) 115 rfl base 119 i0 (.agg #[.string ⟨#[]⟩, .pointer none]) 2 24 Tryz.underlying115 hi5 hzz0 hzz1 hzz2 rfl (by decide) sv j (memP (l.take j)) (by simp [Act.eval]) (HOW.out.alloc _) ⟨wr.heap.size, 0, none⟩ 1 1 [.string sk, ptrV qv] (by simp [Act.eval]) rfl (World.news_of_block (blk_new wr _)) (by simp [Value.oneCell']) (by decide) (by unfold maxLen; omega) (by omega) (by have := HMA.out.size; simp; omega) _ rfl ?_
               intro g2 cap2 w5 hown2 hgr hat hlt
               have hq5 := Lib.hid ((hgr.block q0 (by have := blk_lt HQ.out; simp; omega) (fun e => by have := (HOW.out.lt q0 e.symm).1; omega)).trans (blk_old (w := wr.drew) HQ.out _))
               have f2 := blk_free hq5.out 5
               have k2 : w5.cell? ⟨q0, 5, none⟩ = some sv := blk_cell hq5.out 5))
          all_goals
            rw [← HSK.out] at hown2
            have hnx := HMA.out.next (by omega) (Nat.le_refl _) (by omega) (by omega) HP.out hown2 hgr
            have HNX := Lib.hid hnx
            clear hnx hown2 hgr k2 hq5 c5 c5a f2
            go_wp2_with fail
            go_roundw
            case rel => exact ⟨j + 1, _, by simp, hji, by rw [hq0]; exact HNX.out⟩
            case measure => simp; omega
        · have hje : j = i := by omega
          subst hje
          have HMA := Lib.hid hMA
          clear hMA
          go_wp2_with fail
          go_ret
          have hM := HMA.out
          have ho := hM.own
          rw [List.take_of_length_le (by have := HNN.out; omega)] at ho
          exact ⟨q0, sv, base, rfl, by omega, by omega, hM.blk, by rw [HNN.out]; exact ho, hM.below⟩

end Toc

namespace Toc
open Go Go.RowKit Go.Proofs

theorem memP_memC : ∀ (l : List (Bytes × Nat)) (vs : List JV), l.length = vs.length → memP l = memC ((l.map (·.1)).zip vs) (l.map (·.2))
  | [], [], _ => rfl
  | p :: l, v :: vs, h => by
    have := memP_memC l vs (by simpa using h)
    simp only [memP, List.flatMap_cons, List.map_cons, List.zip_cons_cons, memC] at this ⊢
    rw [this]; rfl
  | [], _ :: _, h => by simp at h
  | _ :: _, [], h => by simp at h

/-- The object whose members' values lie at these places. -/
structure ObjOf (r : Ro) (l : List (Bytes × Nat)) (ms : List (Bytes × JV)) : Prop where
  keys : l.map (·.1) = ms.map (·.1)
  vals : ∀ (i : Nat) (p : Bytes × Nat) (m : Bytes × JV), l[i]? = some p → ms[i]? = some m → IsV r p.2 m.2

theorem ObjOf.mono {r r' : Ro} (hr : r.le r') {l : List (Bytes × Nat)} {ms : List (Bytes × JV)} (h : ObjOf r l ms) : ObjOf r' l ms := ⟨h.keys, fun i p m h1 h2 => (h.vals i p m h1 h2).mono hr⟩
theorem ObjOf.len {r : Ro} {l : List (Bytes × Nat)} {ms : List (Bytes × JV)} (h : ObjOf r l ms) : l.length = ms.length := by
  have := congrArg List.length h.keys
  simpa using this

theorem objOf_isV {r r2 R : Ro} {q : Nat} {sv : Value} {l : List (Bytes × Nat)} {ms : List (Bytes × JV)} (h : ObjOf r l ms) (e1 : R q = some (vObj 5 false 0 emptyS nilS sv)) (g3 : RowR r2 sv l.length (memP l)) (e2 : r.le R) (e3 : r2.le R) : IsV R q (.obj ms) := by
  have hl := h.len
  have hz : (l.map (·.1)).zip (ms.map (·.2)) = ms := by
    rw [h.keys]
    apply List.ext_getElem
    · simp
    · intro i h1 h2; simp
  refine .obj (qs := l.map (·.2)) e1 ?_ (by simp [hl]) (fun i h1 h2 => ?_)
  · have := g3.mono e3
    rw [memP_memC l (ms.map (·.2)) (by simp [hl]), hz, hl] at this
    exact this
  · have hi : i < l.length := by simpa using h1
    have := (h.vals i _ _ (List.getElem?_eq_getElem hi) (List.getElem?_eq_getElem h2)).mono e2
    simpa using this

/-- OfMap of a map whose values are known: a new value, in new blocks; the old ones stand. -/
theorem ofMap_obj (r : Ro) (w : World) (hh : Has r w) {b : Nat} {l : List (Bytes × Nat)} {ms : List (Bytes × JV)} (hm : MapAt w b (vMap l)) (ho : ObjOf r l ms) (hl : l.length ≤ 1000) (hk : ∀ p ∈ l, KeyB p.1) :
    Calls Tryz.prog 22 #[.map (some b)] w fun e w' => ∃ q R, e = .returned (ptrV q) ∧ w.heap.size ≤ q ∧ Has R w' ∧ IsV R q (.obj ms) ∧ r.le R ∧ (∀ k, r k = none → k < w.heap.size → R k = none) ∧ Below w.heap.size w w' := by
  refine (ofMap_any w hm hl hk).mono ?_
  rintro e w' ⟨q, sv, base, rfl, hq, hqb, hblk, hown, hb⟩
  obtain ⟨r2, g1, g2, g3⟩ := row_of_own hown
  have h1 := Has.one hblk
  have h2 := hh.below hb
  have h3 := h1.or (h2.or g2)
  refine ⟨q, _, rfl, hq, h3, ?_, Ro.le_trans (Ro.le_left r r2) (Ro.le_right h1 (h2.or g2)), fun k hk hkl => ?_, hb⟩
  · exact objOf_isV ho (Ro.le_left _ _ _ _ (Ro.one_self _ _)) g3 (Ro.le_trans (Ro.le_left r r2) (Ro.le_right h1 (h2.or g2))) (Ro.le_trans (Ro.le_right h2 g2) (Ro.le_right h1 (h2.or g2)))
  · have e1 : Ro.one q (vObj 5 false 0 emptyS nilS sv) k = none := if_neg (by omega)
    have e2 : r2 k = none := Ro.from_ne g1 (by omega)
    unfold Ro.or; rw [e1, hk, e2]; rfl

end Toc

namespace Toc
open Go Go.RowKit Go.Proofs

/-- A map of values: each stands at its place. -/
structure MapV (w : World) (r : Ro) (mb : Nat) (L : List (Bytes × (Nat × JV))) : Prop where
  has : Has r w
  map : MapAt w mb (L.map fun p => (p.1, ptrV p.2.1))
  off : r mb = none
  vals : ∀ p ∈ L, IsV r p.2.1 p.2.2

theorem has_none {r : Ro} {w : World} (h : Has r w) {b : Nat} (hb : w.heap.size ≤ b) : r b = none := by
  cases hr : r b with
  | none => rfl
  | some o => have := blk_lt (h b o hr); omega

theorem MapV.new {w : World} {r : Ro} (h : Has r w) : MapV (w.alloc (.map #[] 0)) r w.heap.size [] :=
  ⟨h.alloc _, MapAt.new w, has_none h (Nat.le_refl _), fun _ h => by simp at h⟩
theorem MapV.grow {w w' : World} {r r' : Ro} {mb : Nat} {L : List (Bytes × (Nat × JV))} (h : MapV w r mb L) (hb : Below w.heap.size w w') (h' : Has r' w') (hr : r.le r') (hn : r' mb = none) : MapV w' r' mb L :=
  ⟨h', h.map.turns (Turns.below (S := []) hb) (by simp), hn, fun p hp => (h.vals p hp).mono hr⟩
theorem MapV.below {w w' : World} {r : Ro} {mb : Nat} {L : List (Bytes × (Nat × JV))} (h : MapV w r mb L) (hb : Below w.heap.size w w') : MapV w' r mb L :=
  h.grow hb (h.has.below hb) (Ro.le_refl r) h.off
theorem MapV.turns {w w' : World} {S : List Nat} {r : Ro} {mb : Nat} {L : List (Bytes × (Nat × JV))} (h : MapV w r mb L) (ht : Turns S w w') (hn : mb ∉ S) (hr : ∀ b ∈ S, r b = none) : MapV w' r mb L :=
  ⟨h.has.turns ht hr, h.map.turns ht hn, h.off, h.vals⟩

theorem mapV_putmap (L : List (Bytes × (Nat × JV))) (k : Bytes) (q : Nat) (v : JV) : putK (L.map fun p => (p.1, ptrV p.2.1)) k (ptrV q) = (putK L k (q, v)).map fun p => (p.1, ptrV p.2.1) :=
  putK_map (fun x : Nat × JV => ptrV x.1) L k (q, v)
theorem mem_putK {α : Type} {l : List (Bytes × α)} {k : Bytes} {v : α} {x : Bytes × α} (h : x ∈ putK l k v) : x = (k, v) ∨ x ∈ l := by
  unfold putK at h
  rcases List.mem_append.1 h with h | h
  · exact .inr (List.mem_filter.1 h).1
  · rcases List.mem_cons.1 h with h | h
    · exact .inl h
    · exact .inr (List.mem_filter.1 h).1

theorem MapV.put {w : World} {r : Ro} {mb : Nat} {L : List (Bytes × (Nat × JV))} (h : MapV w r mb L) (k : Bytes) {q : Nat} {v : JV} (hv : IsV r q v) :
    ∃ w', (Instr.mapUpdate 39 (.map (some mb)) (.string (mkS k)) (ptrV q)).run Tryz.prog w = .ok () w' ∧ MapV w' r mb (putK L k (q, v)) ∧ Turns [mb] w w' := by
  obtain ⟨w', h1, h2, h3⟩ := run_put (P := Tryz.prog) Tryz.underlying39 Tryz.underlying9 h.map k (ptrV q)
  refine ⟨w', h1, ⟨h.has.turns h3 (by simpa using h.off), ?_, h.off, fun p hp => ?_⟩, h3⟩
  · rw [mapV_putmap L k q v] at h2; exact h2
  · rcases mem_putK hp with rfl | hp
    · exact hv
    · exact h.vals p hp

/-- Few keys, short, ASCII. -/
def KOk {α : Type} (L : List (Bytes × α)) (n : Nat) : Prop := L.length ≤ n ∧ ∀ p ∈ L, KeyB p.1
theorem KOk.nil {α : Type} : KOk ([] : List (Bytes × α)) 0 := ⟨by simp, fun _ h => by simp at h⟩
theorem KOk.put {α : Type} {L : List (Bytes × α)} {n : Nat} (h : KOk L n) {k : Bytes} (v : α) (h1 : k.length ≤ 1000) (h2 : asciiB k = true) : KOk (putK L k v) (n + 1) :=
  ⟨by have := length_putK (l := L) k v; have := h.1; omega, fun p hp => by
    rcases mem_putK hp with rfl | hp
    · exact key_ascii h1 h2
    · exact h.2 p hp⟩
theorem EvV.mono {r r' : Ro} {qe : Nat} {E : Ev} (h : EvV r qe E) (hr : r.le r') : EvV r' qe E := by
  obtain ⟨bq, h1, h2⟩ := h
  exact ⟨bq, hr _ _ h1, h2.mono hr⟩

/-- What a value's maker leaves. -/
def MadeV (r : Ro) (v : JV) (w : World) (e : Ending) (w' : World) : Prop :=
  ∃ q R, e = .returned (ptrV q) ∧ w.heap.size ≤ q ∧ Has R w' ∧ IsV R q v ∧ r.le R ∧ (∀ k, r k = none → k < w.heap.size → R k = none) ∧ Below w.heap.size w w'

theorem MapV.ofMap {w : World} {r : Ro} {mb : Nat} {L : List (Bytes × (Nat × JV))} (h : MapV w r mb L) (hl : L.length ≤ 1000) (hk : ∀ p ∈ L, KeyB p.1) :
    Calls Tryz.prog 22 #[.map (some mb)] w fun e w' => MadeV r (.obj (L.map fun p => (p.1, p.2.2))) w e w' := by
  refine ofMap_obj r w h.has (l := L.map fun p => (p.1, p.2.1)) ?_ ⟨by simp, fun i p m h1 h2 => ?_⟩ (by simpa using hl) (fun p hp => ?_)
  · have := h.map
    unfold vMap
    rw [List.map_map]
    exact this
  · rw [List.getElem?_map] at h1 h2
    cases hx : L[i]? with
    | none => rw [hx] at h1; cases h1
    | some x =>
      rw [hx] at h1 h2
      cases h1; cases h2
      exact h.vals x (List.mem_of_getElem? hx)
  · obtain ⟨x, hx, rfl⟩ := List.mem_map.1 hp
    exact hk x hx

theorem made_of_new {r : Ro} {w w' : World} {q : Nat} {o : Obj} {v : JV} (hh : Has r w) (hq : w.heap.size ≤ q) (hb : Below w.heap.size w w') (ho : w'.heap[q]? = some o) (hv : ∀ R : Ro, R q = some o → IsV R q v) :
    MadeV r v w (.returned (ptrV q)) w' := by
  have h1 := Has.one ho
  have h2 := hh.below hb
  refine ⟨q, _, rfl, hq, h1.or h2, hv _ (Ro.le_left _ _ _ _ (Ro.one_self _ _)), Ro.le_right h1 h2, fun k hk hkl => ?_, hb⟩
  unfold Ro.or
  rw [hk, show Ro.one q o k = none from if_neg (by omega)]; rfl

theorem ofText_F {r : Ro} {w : World} (hh : Has r w) (k : Bytes) {s : ByteArray} (hs : mkS k = s) (hl : k.length ≤ 35184372088832) (ha : FineB k) :
    Calls Tryz.prog 23 #[.string s] w fun e w' => MadeV r (.text k) w e w' := by
  subst hs
  refine (ofText_fine (mkS k) (by rw [size_mkS]; exact hl) (by rw [list_mkS]; exact ha) w).mono ?_
  rintro e w' ⟨q, rfl, hq, ho, hb⟩
  exact made_of_new hh hq hb ho (fun R h => .text h)
theorem ofText_V {r : Ro} {w : World} (hh : Has r w) (k : Bytes) {s : ByteArray} (hs : mkS k = s) (hl : k.length ≤ 35184372088832) (ha : asciiB k = true) :
    Calls Tryz.prog 23 #[.string s] w fun e w' => MadeV r (.text k) w e w' := ofText_F hh k hs hl (fine_ascii ha)
theorem ofInt_V {r : Ro} {w : World} (hh : Has r w) (n : Int) (h1 : -9007199254740991 ≤ n) (h2 : n ≤ 9007199254740991) :
    Calls Tryz.prog 24 #[.int .i64 n] w fun e w' => MadeV r (.int n) w e w' := by
  refine (ofInt_any n h1 h2 w).mono ?_
  rintro e w' ⟨rfl, rfl⟩
  exact made_of_new hh (Nat.le_refl _) ((Below.refl _ _).alloc (Nat.le_refl _) _) (blk_new w _) (fun R h => .int h)

theorem ev_ok {v : JV} {E : Ev} (hok : JOk v) (h : readEv (some v) = (0, some E)) : EvOk E := by
  unfold readEv readEvJ at h
  dsimp only at h
  repeat' split at h
  all_goals first | (cases h; done) | skip
  obtain rfl := Option.some.inj (Prod.mk.inj h).2
  have hg : ∀ k, (textO (getJ v k)).length ≤ 1073741824 := fun k => textO_len (o := getJ v k) (fun x hx => getJ_ok hok hx)
  refine ⟨hg _, hg _, hg _, hg _, hg _, ?_, hok⟩
  show (if redOf v then textO (getJ v sRedacts) else []).length ≤ _
  split
  · exact hg _
  · simp

/-- ReadEvent of a value that is an event. -/
theorem event_of (r : Ro) (w : World) (hG : Glob w) (hh : Has r w) {q : Nat} {v : JV} (hv : IsV r q v) (hok : JOk v) {E : Ev} (hE : readEv (some v) = (0, some E)) :
    Calls Tryz.prog 25 #[ptrV q] w fun e w' => ∃ qe R, e = .returned (.tuple #[ptrV qe, .int .i64 0]) ∧ w.heap.size ≤ qe ∧ Has R w' ∧ EvV R qe E ∧ r.le R ∧ (∀ k, r k = none → k < w.heap.size → R k = none) ∧ Below w.heap.size w w' := by
  have hb : E.body = v := by
    unfold readEv readEvJ at hE
    dsimp only at hE
    repeat' split at hE
    all_goals first | (cases hE; done) | skip
    obtain rfl := Option.some.inj (Prod.mk.inj hE).2
    rfl
  refine (readEvent_o r w hG hh (pv := ptrV q) (o := some v) ⟨q, rfl, hv⟩ (fun x hx => by cases hx; exact hok)).mono ?_
  rintro e w' ⟨hb7, hre⟩
  rw [hE] at hre
  obtain ⟨qe, rfl, hqe, hev⟩ := hre
  have h1 := Has.one hev
  have h2 := hh.below hb7
  refine ⟨qe, _, rfl, hqe, h1.or h2, ⟨q, Ro.le_left _ _ _ _ (Ro.one_self _ _), by rw [hb]; exact hv.mono (Ro.le_right h1 h2)⟩, Ro.le_right h1 h2, fun k hk hkl => ?_, hb7⟩
  unfold Ro.or
  rw [hk, show Ro.one qe (evObjE E (ptrV q)) k = none from if_neg (by omega)]; rfl

end Toc
