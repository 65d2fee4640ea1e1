/-
  Room5: The walk of Joined.
  Room6: The walks of maps.Clone, Facts.
  Shown: The walk of what all statements of the layer begin with.
  ParseO: Parse of a string's bytes, as it is called.
-/
import Derived.Test.YtblbdgepocfngaaGreatDoorWE
import Derived.Test.YtblbdgepocfngaaGreatDoorShelf2
import Derived.Maps.AppendAt
import Derived.Sort.OwnSorted
import Derived.Deep.RegionHeld3
import Derived.Laws.Externs
import Derived.Lib.ConvBytes
namespace Toc
open Go Go.RowKit Go.Proofs

def joinedL (R : RoomSt) : List Bytes := (R.known.filter fun p => p.2.1 == 1).map (·.1)
def jn (p : Bytes × Value) : Bool := match p.2 with | .agg cs => (match (cs[0]? : Option Value) with | some (Value.int _ n) => n == 1 | _ => false) | _ => false
def joinedOf (l : List (Bytes × Value)) : List Bytes := (l.filter jn).map (·.1)
theorem jn_enc (k : Bytes) (m : Nat × Bytes) : jn (k, encMem m) = (m.1 == 1) := by
  unfold jn encMem
  simp
  rw [Bool.eq_iff_iff]; simp; omega
theorem joinedOf_enc (l : List (Bytes × (Nat × Bytes))) : joinedOf (mapE encMem l) = (l.filter fun p => p.2.1 == 1).map (·.1) := by
  unfold joinedOf mapE
  rw [List.filter_map, List.map_map]
  congr 1
  refine List.filter_congr fun p _ => ?_
  exact jn_enc p.1 p.2
theorem joinedOf_perm {l l' : List (Bytes × Value)} (h : l.Perm l') : (joinedOf l).Perm (joinedOf l') := (h.filter _).map _
theorem joinedOf_snoc (l : List (Bytes × Value)) (k : Bytes) (m : Nat × Bytes) : joinedOf (l ++ [(k, encMem m)]) = if m.1 = 1 then joinedOf l ++ [k] else joinedOf l := by
  unfold joinedOf
  rw [List.filter_append, List.map_append]
  by_cases h : m.1 = 1
  · rw [if_pos h]; simp [jn_enc, h]
  · rw [if_neg h]; simp [jn_enc, h]
theorem joinedOf_len (l : List (Bytes × Value)) : (joinedOf l).length ≤ l.length := by
  unfold joinedOf; rw [List.length_map]; exact List.length_filter_le _ _
theorem joinedL_rise {R : RoomSt} (h : Rising R.known) : (joinedL R).Pairwise fun x y => Lib.compareBytes x y = -1 := by
  unfold joinedL
  rw [List.pairwise_map]
  exact ((rising_iff _).1 h).filter _

/-- A slice of texts of one's own. -/
def OwnTexts (w : World) (base : Nat) (sv : Value) (l : List Bytes) : Prop := w.ownsRow base 9 1 sv l.length (l.map encStr)

theorem OwnTexts.turnsOff {w w' : World} {base : Nat} {sv : Value} {l : List Bytes} {S : List Nat} (h : OwnTexts w base sv l) (ht : Turns S w w') (hS : ∀ b ∈ S, b < base) : OwnTexts w' base sv l := by
  refine ⟨h.1, ?_⟩
  rcases h.2 with hn | ⟨g, cap, cur, hv, hb, hg, rest⟩
  · exact .inl hn
  · exact .inr ⟨g, cap, cur, hv, hb, ht.heap hg (fun hm => by have := hS g hm; omega), rest⟩

theorem OwnTexts.lower {w : World} {base base' : Nat} {sv : Value} {l : List Bytes} (h : OwnTexts w base sv l) (hb : base' ≤ base) : OwnTexts w base' sv l := by
  refine ⟨h.1, ?_⟩
  rcases h.2 with hn | ⟨g, cap, cur, hv, hb', hg, rest⟩
  · exact .inl hn
  · exact .inr ⟨g, cap, cur, hv, Nat.le_trans hb hb', hg, rest⟩

theorem RangeAt.grown {w w' : World} {r b : Nat} {l done left : List (Bytes × Value)} {row : Option Nat} (h : RangeAt w r b l done left) (hg : w.grownBy w' row) (hr : some r ≠ row) (hb : some b ≠ row) : RangeAt w' r b l done left := by
  obtain ⟨es, clock, seen, c0, h1, h2, h3, h4⟩ := h
  exact ⟨es, clock, seen, c0, (hg.block r (blk_lt h1) hr).trans h1, h2, (hg.block b (blk_lt h3) hb).trans h3, h4⟩

set_option maxRecDepth 100000 in
set_option maxHeartbeats 4000000 in
theorem joined_any (w : World) {rb kb lb nb : Nat} {R : RoomSt} (hR : RoomAt w rb kb lb nb R) (hlen : R.known.length ≤ 60) :
    Calls Tryz.prog 33 #[ptrV rb] w fun e w' => ∃ sv, e = .returned sv ∧ OwnTexts w' w.heap.size sv (joinedL R) ∧ Below w.heap.size w w' := by
  obtain ⟨i0, hi5, hz0, hz1, hz2⟩ := info_parts (show (Tryz.prog.info? 9).map (fun i => (i.zero, i.size, i.bytes)) = some (some (.string ⟨#[]⟩), 1, 16) by kernel_rfl)
  have c1 : w.cell? ⟨rb, 1, none⟩ = some (.map (some kb)) := blk_cell hR.blk 1
  obtain ⟨o, hro, hRA⟩ := run_range_new (P := Tryz.prog) Tryz.underlying96 hR.known
  have HR := Lib.hid hR
  have HRA := Lib.hid hRA
  have hkb : kb < w.heap.size := hR.known.lt
  have HB0 := Lib.hid ((Below.refl w.heap.size w).alloc (Nat.le_refl _) o)
  clear hR hRA
  go_enter Tryz.func33, Tryz.ntmps33
  go_wp2_with fail
  trace_state
  go_loopw [3] (fun s3 wr => ∃ done left, RangeAt wr w.heap.size kb (mapE encMem R.known) done left ∧ OwnTexts wr (w.heap.size + 1) s3 (joinedOf done) ∧ Below w.heap.size w wr ∧ w.heap.size + 1 ≤ wr.heap.size) (fun _ wr => rangeLeft wr w.heap.size kb)
  case atStart => exact ⟨[], _, HRA.out, ⟨rfl, .inl ⟨rfl, rfl⟩⟩, HB0.out, by simp⟩
  case round =>
    obtain ⟨done, left, hR, hown, hb, hz⟩ := hrel
    have HR1 := Lib.hid hR
    have HO := Lib.hid hown
    have HB := Lib.hid hb
    have hst := range_step (P := Tryz.prog) 0 hR
    clear hR hown hb
    rcases hst with ⟨rfl, hrun⟩ | ⟨k, pv, left', w', hperm, hrun, hR', hent, ht'⟩
    · have hp := HR1.out.perm
      rw [List.append_nil] at hp
      have hjp := joinedOf_perm hp
      rw [joinedOf_enc] at hjp
      have HS := Lib.hid (show ((joinedOf done).mergeSort fun x y => decide (x ≤ y)) = joinedL R from sorted_is hjp (joinedL_rise HR.out.rise.1))
      have HLEN := Lib.hid (Nat.le_trans (joinedOf_len done) (by rw [hp.length_eq]; simpa [mapE] using hlen) : (joinedOf done).length ≤ 60)
      clear hp hjp
      obtain ⟨l, hl⟩ : ∃ l, joinedOf done = l := ⟨_, rfl⟩
      rw [hl] at HS HLEN HO
      clear hl
      rcases HO.out.2 with ⟨hv, h0⟩ | ⟨g, cap, cur, hv, hbase, hbk, h1, h2, h3, h4⟩
      · have hl0 : l = [] := List.eq_nil_of_length_eq_zero h0
        have HSN := Lib.hid (Tryz.slices_Sort_string_none none 0 wr)
        subst hv
        have HS0 := Lib.hid (show joinedL R = [] by have := HS.out; rw [hl0, List.mergeSort_nil] at this; exact this.symm)
        clear h0 hl0
        go_wp2_with fail
        refine HSN.out.mono ?_
        rintro e w3 ⟨rfl, rfl⟩
        go_wp2_with fail
        go_ret
        exact ⟨_, rfl, by rw [HS0.out]; exact ⟨rfl, .inl ⟨rfl, rfl⟩⟩, HB.out⟩
      · have hH : Go.Sort.Holds encStr wr g 0 l.toArray := holds_of_block hbk (by simpa using h4)
        have HST := Lib.hid (Tryz.slices_Sort_string g 0 cap l wr hH (blk_lt hbk) (by have := HLEN.out; omega))
        have HG := Lib.hid (fun (n : Nat) (os : Array Obj) (ts : List Bytes) (hl : ts.length = l.length) => ownsRow_sorted (w := wr) (n := n) (os := os) hl hbase hbk h1 h2 h3)
        have HGB := Lib.hid hbase
        subst hv
        clear hH hbk h1 h2 h3 h4 hbase
        go_wp2_with fail
        refine HST.out.mono ?_
        rintro e w3 ⟨rfl, n, os, rfl⟩
        rw [HS.out]
        have HO3 := Lib.hid (HG.out n os (joinedL R) (by rw [← HS.out]; exact List.length_mergeSort _))
        have HT3 := Lib.hid (grownBy_sorted (w := wr) (g := g) (n := n) (os := os) (joinedL R).toArray)
        have HLL := Lib.hid (show (joinedL R).length = l.length by rw [← HS.out]; exact List.length_mergeSort _)
        generalize (Go.Sort.grow (Go.Sort.putRow encStr (Go.Sort.ahead wr n) g 0 (joinedL R).toArray) os) = w4 at *
        go_wp2_with fail
        go_ret
        refine ⟨_, rfl, ?_, ?_⟩
        · have := OwnTexts.lower (l := joinedL R) (by unfold OwnTexts; rw [HLL.out]; exact HO3.out) (show w.heap.size ≤ w.heap.size + 1 by omega)
          unfold OwnTexts at this ⊢; rw [HLL.out] at this ⊢; exact this
        · exact ((Turns.below (S := []) HB.out).grown HT3.out (fun k hk => by cases hk; exact .inr (by have := HGB.out; omega))).toBelow (by simp)
    · have hm : (k, pv) ∈ mapE encMem R.known := HR1.out.perm.mem_iff.1 (List.mem_append_right _ (hperm.mem_iff.2 (.head _)))
      obtain ⟨⟨k2, m⟩, hkm, he⟩ := List.mem_map.1 hm
      cases he
      unfold encMem at hrun hent
      have HM := Lib.hid (show (k2, encMem m) ∈ mapE encMem R.known from hm)
      have HP := Lib.hid hperm
      have HO1 := Lib.hid (((HO.out.turnsOff ht' (by simp)).turnsOff ((Turns.refl [] w').alloc (.cells #[.int .i64 m.1, .string (mkS m.2)] 130)) (by simp)))
      have hzw : w.heap.size + 1 ≤ w'.heap.size := Nat.le_trans hz ht'.size
      have HB1 := Lib.hid (((HB.out).trans (ht'.below_of (by omega) (by simp))).alloc (by omega) (.cells #[.int .i64 m.1, .string (mkS m.2)] 130))
      have HR2 := Lib.hid (hR'.turns ((Turns.refl [] w').alloc (.cells #[.int .i64 m.1, .string (mkS m.2)] 130)) (by simp) (by simp))
      have hlen1 : (joinedOf done).length ≤ 60 := by
        have h1 := joinedOf_len done
        have h2 := HR1.out.perm.length_eq
        simp [mapE] at h2; omega
      have HSN := Lib.hid (joinedOf_snoc done k2 m)
      clear hkm hm hperm ht' hR' hz
      by_cases h1 : m.1 = 1
      · have h1' : ((m.1 : Int) == 1) = true := by rw [h1]; rfl
        have HS1 := Lib.hid (HSN.out.trans (if_pos h1))
        have HNB := Lib.hid (show ((w'.alloc (.cells #[.int .i64 m.1, .string (mkS m.2)] 130)).alloc (.cells #[.string (mkS k2)] 9)).heap[w'.heap.size + 1]? = some (.cells #[.string (mkS k2)] 9 (0, 0)) by
          have := blk_new (w'.alloc (.cells #[.int .i64 m.1, .string (mkS m.2)] 130)) (.cells #[.string (mkS k2)] 9)
          simpa using this)
        clear h1
        go_wp2_with (at_builtin; refine wpList_append_own_at _ rfl _ _ 57 rfl (w.heap.size + 1) 9 i0 (.string ⟨#[]⟩) 1 16 Tryz.underlying57 hi5 hz0 hz1 hz2 rfl (by decide) _ _ _ rfl (World.ownsRow.alloc HO1.out _) ⟨w'.heap.size + 1, 0, none⟩ 1 1 [.string (mkS k2)] rfl rfl (World.news_of_block HNB.out) (by simp [Value.oneCell']) (by unfold maxLen; omega) (by omega) (by simp; omega) ?_)
        intro v' w2 hown2 hgr _ hloc
        have hne : some w.heap.size ≠ (u3 : Value).ownBlock ∧ some kb ≠ (u3 : Value).ownBlock := ⟨fun e => by have := (World.ownsRow.lt HO1.out _ e.symm).1; omega, fun e => by have := (World.ownsRow.lt HO1.out _ e.symm).1; omega⟩
        have HR3 := Lib.hid ((HR2.out.turns ((Turns.refl [] _).alloc (.cells #[.string (mkS k2)] 9)) (by simp) (by simp)).grown hgr hne.1 hne.2)
        have HB3 := Lib.hid (((Turns.below (S := []) (HB1.out.alloc (by simp; omega) (.cells #[.string (mkS k2)] 9))).grown hgr (fun g hg => .inr (by have := (World.ownsRow.lt HO1.out g hg).1; omega))).toBelow (by simp))
        have HO3 := Lib.hid (show OwnTexts w2 (w.heap.size + 1) v' (joinedOf (done ++ [(k2, encMem m)])) by
          rw [HS1.out]; unfold OwnTexts; rw [List.length_append, List.map_append]; exact hown2)
        have hz2 : w.heap.size + 1 ≤ w2.heap.size := by have := hgr.size; simp at this; omega
        clear hown2 hgr hloc hne
        go_wp2_with fail
        refine ⟨⟨done ++ [(k2, encMem m)], left', HR3.out, HO3.out, HB3.out, hz2⟩, ?_⟩
        rw [HR3.out.left_eq, HR1.out.left_eq]
        have := HP.out.length_eq
        simp at this; omega
      · have h1' : ((m.1 : Int) == 1) = false := by rw [beq_eq_false_iff_ne]; omega
        have HS1 := Lib.hid (HSN.out.trans (if_neg h1))
        clear h1
        go_wp2_with fail
        refine ⟨⟨done ++ [(k2, encMem m)], left', HR2.out, by rw [HS1.out]; exact HO1.out, HB1.out, by simp; omega⟩, ?_⟩
        rw [HR2.out.left_eq, HR1.out.left_eq]
        have := HP.out.length_eq
        simp at this; omega

end Toc

namespace Toc
open Go Go.RowKit Go.Proofs

theorem run_clone {w : World} {b : Nat} {l : List (Bytes × Value)} (h : MapAt w b l) :
    ∃ w', (callFunc 168 #[.iface 59 (.map (some b))]).run Tryz.prog w = .ok (.value (.iface 59 (.map (some w.heap.size)))) w' ∧ MapAt w' w.heap.size l ∧ Below w.heap.size w w' := by
  obtain ⟨es, clock, hb, hm⟩ := h
  refine ⟨w.alloc (.map es clock), ?_, ⟨es, clock, blk_new w _, hm⟩, (Below.refl _ _).alloc (Nat.le_refl _) _⟩
  rw [run_callFunc_extern (e := Extern.MapsClone.clone) Tryz.func168 (by kernel_rfl) (by kernel_rfl) (by kernel_rfl) (by kernel_rfl)]
  have hc : ∃ (m : String), Extern.MapsClone.clone #[.iface 59 (.map (some b))] = (getObj b >>= fun o => match o with | .map es c => (newObj (.map es c) >>= fun r => pure (.iface 59 (.map (some r)))) | _ => stuck m) := ⟨_, rfl⟩
  obtain ⟨m, hc⟩ := hc
  rw [hc]
  simp [MapKept.run_getObj_map hb, Result.andThen]

theorem assert_map (v : Value) (w : World) : (Instr.typeAssert (.iface 59 v) 20 59 false).run Tryz.prog w = .ok v w := by kernel_rfl

theorem eq_map_nil (b : Nat) (w : World) : (binOp .eql 59 (.map (some b)) (.map none)).run Tryz.prog w = .ok (.bool false) w := by kernel_rfl

set_option maxRecDepth 100000 in
set_option maxHeartbeats 4000000 in
theorem clone_any (w : World) {b : Nat} {l : List (Bytes × Value)} (h : MapAt w b l) :
    Calls Tryz.prog 81 #[.map (some b)] w fun e w' => e = .returned (.map (some w.heap.size)) ∧ MapAt w' w.heap.size l ∧ Below w.heap.size w w' := by
  obtain ⟨w', h1, h2, h3⟩ := run_clone h
  have h4 := assert_map
  have h5 := eq_map_nil
  have H2 := Lib.hid h2
  have H3 := Lib.hid h3
  clear h2 h3 h
  go_enter Tryz.func81, Tryz.ntmps81
  go_wp2_with fail
  go_ret
  exact ⟨rfl, H2.out, H3.out⟩

/-- What rules may ask. -/
def FactsRet (R : RoomSt) (E : Ev) (pb : Value) (u : Bytes) (w : World) (e : Ending) (w' : World) : Prop :=
  ∃ b, e = .returned (.agg #[pb, .int .i64 (joinedL R).length, .string (mkS (memD (getK R.known u)).2), .int .i64 (levelR R E.sender), .map (some b)]) ∧ MapAt w' b (mapE encInt R.needs) ∧ w.heap.size ≤ b ∧ Below w.heap.size w w'

theorem joined_len (w : World) {rb kb lb nb : Nat} {R : RoomSt} (hR : RoomAt w rb kb lb nb R) (hlen : R.known.length ≤ 60) :
    Calls Tryz.prog 33 #[ptrV rb] w fun e w' => ∃ a c, e = .returned (.slice a (joinedL R).length c) ∧ Below w.heap.size w w' := by
  refine (joined_any w hR hlen).mono ?_
  rintro e w' ⟨sv, rfl, ho, hb⟩
  rcases ho.2 with ⟨h1, h0⟩ | ⟨g, cap, cur, h1, _⟩
  · exact ⟨none, 0, by rw [h1, h0], hb⟩
  · exact ⟨_, cap, by rw [h1], hb⟩

set_option maxRecDepth 100000 in
set_option maxHeartbeats 4000000 in
theorem facts_any (r : Ro) (w : World) (hh : Has r w) {qe : Nat} {E : Ev} {bq : Nat} (he : EvAt r qe E (ptrV bq)) {rb kb lb nb : Nat} {R : RoomSt} (hR : RoomAt w rb kb lb nb R) (hlen : R.known.length ≤ 60) (u : Bytes) {s : ByteArray} (hs : mkS u = s) :
    Calls Tryz.prog 35 #[ptrV rb, ptrV qe, .string s] w fun e w' => FactsRet R E (ptrV bq) u w e w' := by
  have hB0 := (Below.refl w.heap.size w).alloc (Nat.le_refl _) (.cells #[.pointer none, .int .i64 0, .string ⟨#[]⟩, .int .i64 0, .map none] 61)
  have hq := blk_new w (.cells #[.pointer none, .int .i64 0, .string ⟨#[]⟩, .int .i64 0, .map none] 61)
  have hRA := hR.below hB0
  have hHA := hh.below hB0
  obtain ⟨m, hm⟩ : ∃ m, memD (getK R.known u) = m := ⟨_, rfl⟩
  obtain ⟨n, hn⟩ : ∃ n, levelR R E.sender = n := ⟨_, rfl⟩
  obtain ⟨j, hj⟩ : ∃ j, (joinedL R).length = j := ⟨_, rfl⟩
  obtain ⟨se, hse⟩ : ∃ x, mkS E.sender = x := ⟨_, rfl⟩
  have hS : ∀ x, Has r x → RoomAt x rb kb lb nb R → x.cell? ⟨rb, 1, none⟩ = some (.map (some kb)) ∧ x.cell? ⟨rb, 6, none⟩ = some (.map (some nb)) ∧ x.cell? ⟨qe, 2, none⟩ = some (.string se) ∧ x.cell? ⟨qe, 7, none⟩ = some (ptrV bq) ∧
      (Instr.lookup 96 (.map (some kb)) (.string s) false).run Tryz.prog x = .ok (.agg #[.int .i64 m.1, .string (mkS m.2)]) x := fun x h1 h2 => by
    have hl := run_look (P := Tryz.prog) Tryz.underlying96 Tryz.underlying9 zeroMember h2.known u
    rw [(memD_val R u).1, hm, hs] at hl
    exact ⟨blk_cell h2.blk 1, blk_cell h2.blk 6, by rw [← hse]; exact blk_cell (h1 _ _ he) 2, blk_cell (h1 _ _ he) 7, hl⟩
  have hst : ∀ x, Has r x → RoomAt x rb kb lb nb R → ∀ v : Nat × Value, Has r (x.setCell ⟨w.heap.size, v.1, none⟩ v.2) ∧ RoomAt (x.setCell ⟨w.heap.size, v.1, none⟩ v.2) rb kb lb nb R := fun x h1 h2 v => by
    have l1 := blk_lt hR.blk
    have l2 := hR.known.lt
    have l3 := hR.levels.lt
    have l4 := hR.needs.lt
    exact ⟨h1.setCell (by cases hrb : r w.heap.size with | none => rfl | some o => exact absurd (blk_lt (hh _ o hrb)) (by omega)) _, h2.turns ((Turns.refl [w.heap.size] x).setCell (.inl (by simp)) _) (by simp; omega) (by simp; omega) (by simp; omega) (by simp; omega)⟩
  have HS := Lib.hid hS
  have HST := Lib.hid hst
  have hfd := field_display
  have HM := Lib.hid hm
  have HN := Lib.hid hn
  have HSE := Lib.hid hse
  have HJ := Lib.hid hj
  clear hS hst hm hn hse he hR hh hs hj
  go_enter Tryz.func35, Tryz.ntmps35
  go_wp2_with fail
  generalize hwA : w.alloc (.cells #[.pointer none, .int .i64 0, .string ⟨#[]⟩, .int .i64 0, .map none] 61) = wA at *
  have HW : Hid (wA.heap.size = w.heap.size + 1) := Lib.hid (by rw [← hwA]; simp)
  clear hwA
  have hRD := hRA.turns ((Turns.refl [] wA).drew) (by simp) (by simp) (by simp) (by simp)
  have hHD := hHA.turns ((Turns.refl [] wA).drew) (by simp)
  have s0 := HS.out wA.drew hHD hRD
  have HRD := Lib.hid hRD
  have HHD := Lib.hid hHD
  have HB0 := Lib.hid hB0
  have HQD := Lib.hid (show wA.drew.heap[w.heap.size]? = some (.cells #[.pointer none, .int .i64 0, .string ⟨#[]⟩, .int .i64 0, .map none] 61 (0, 0)) from hq)
  clear hRD hHD hRA hHA hB0 hq
  go_region_held3 (fun x => x.cell? ⟨rb, 1, none⟩ = some (.map (some kb)) ∧ x.cell? ⟨rb, 6, none⟩ = some (.map (some nb)) ∧ x.cell? ⟨qe, 2, none⟩ = some (.string se) ∧ x.cell? ⟨qe, 7, none⟩ = some (ptrV bq) ∧
      (Instr.lookup 96 (.map (some kb)) (.string s) false).run Tryz.prog x = .ok (.agg #[.int .i64 m.1, .string (mkS m.2)]) x)
    (first | (with_reducible exact s0) | (with_reducible exact s1) | (with_reducible exact s3) | exact S5.out _ _ _ _ _)
    (first
      | (go_at_call 33
         refine (joined_len wA.drew HRD.out hlen).mono ?_
         rintro e w1 ⟨sa, sc, rfl, hb1⟩
         rw [HJ.out]
         have HR1 := Lib.hid (HRD.out.below hb1)
         have HH1 := Lib.hid (HHD.out.below hb1)
         have s1 := HS.out w1 HH1.out HR1.out
         have HB1 := Lib.hid hb1
         have HQ1 := Lib.hid ((hb1.block _ (blk_lt HQD.out)).trans HQD.out)
         clear hb1)
      | (go_at_call 26
         refine (level_any w1 HR1.out E.sender HSE.out HN.out).mono ?_
         rintro e w2 ⟨rfl, rfl⟩)
      | (go_at_call 81
         refine (clone_any w1 HR1.out.needs).mono ?_
         rintro e w3 ⟨rfl, hm3, hb3⟩
         have HM3 := Lib.hid hm3
         have HR3 := Lib.hid (HR1.out.below hb3)
         have HH3 := Lib.hid (HH1.out.below hb3)
         have s3 := HS.out w3 HH3.out HR3.out
         have S5 := Lib.hid (fun v0 v1 v2 v3 v4 => by
           have t0 := HST.out w3 HH3.out HR3.out (0, v0)
           have t1 := HST.out _ t0.1 t0.2 (1, v1)
           have t2 := HST.out _ t1.1 t1.2 (2, v2)
           have t3 := HST.out _ t2.1 t2.2 (3, v3)
           have t4 := HST.out _ t3.1 t3.2 (4, v4)
           exact HS.out _ t4.1 t4.2)
         have HB3 := Lib.hid hb3
         have HQ3 := Lib.hid ((hb3.block _ (blk_lt HQ1.out)).trans HQ1.out)
         have d0 : w3.cell? ⟨w.heap.size, 0, none⟩ = some (.pointer none) := blk_cell HQ3.out 0
         have d1 : w3.cell? ⟨w.heap.size, 1, none⟩ = some (.int .i64 0) := blk_cell HQ3.out 1
         have d2 : w3.cell? ⟨w.heap.size, 2, none⟩ = some (.string ⟨#[]⟩) := blk_cell HQ3.out 2
         have d3 : w3.cell? ⟨w.heap.size, 3, none⟩ = some (.int .i64 0) := blk_cell HQ3.out 3
         have d4 : w3.cell? ⟨w.heap.size, 4, none⟩ = some (.map none) := blk_cell HQ3.out 4
         have z0 := blk_free HQ3.out 0
         have z1 := blk_free HQ3.out 1
         have z2 := blk_free HQ3.out 2
         have z3 := blk_free HQ3.out 3
         have z4 := blk_free HQ3.out 4
         clear hm3 hb3))
  all_goals
    have hf := blk_set (blk_set (blk_set (blk_set (blk_set HQ3.out 0 (ptrV bq)) 1 (.int .i64 j)) 2 (.string (mkS m.2))) 3 (.int .i64 n)) 4 (.map (some w1.heap.size))
    have g0 := blk_cell hf 0
    have g1 := blk_cell hf 1
    have g2 := blk_cell hf 2
    have g3 := blk_cell hf 3
    have g4 := blk_cell hf 4
    have hsz1 : w.heap.size < w1.heap.size := blk_lt HQ1.out
    have hbl : Below w.heap.size w w3 := below_trans (below_trans HB0.out.drew HB1.out) HB3.out
    have hT : Turns [w.heap.size] w3 (((((w3.setCell ⟨w.heap.size, 0, none⟩ (ptrV bq)).setCell ⟨w.heap.size, 1, none⟩ (.int .i64 j)).setCell ⟨w.heap.size, 2, none⟩ (.string (mkS m.2))).setCell ⟨w.heap.size, 3, none⟩ (.int .i64 n)).setCell ⟨w.heap.size, 4, none⟩ (.map (some w1.heap.size))) :=
      (((((Turns.refl [w.heap.size] w3).setCell (.inl (by simp)) _).setCell (.inl (by simp)) _).setCell (.inl (by simp)) _).setCell (.inl (by simp)) _).setCell (.inl (by simp)) _
    have HF1 := Lib.hid (HM3.out.turns hT (by simp; omega))
    have HF2 := Lib.hid (((Turns.below (S := []) hbl).extend hT (by simp)).toBelow (by simp))
    clear s0 s1 s3 S5 hf hT hbl
    go_wp2_with fail
    refine bodyPost_ret (v := .agg #[ptrV bq, .int .i64 j, .string (mkS m.2), .int .i64 n, .map (some w1.heap.size)]) (by simp [results, Tryz.results35, go_sem, g0, g1, g2, g3, g4]) rfl ⟨_, ?_, HF1.out, by omega, HF2.out⟩
    rw [HJ.out, HM.out, HN.out]

end Toc

namespace Toc
open Go Go.RowKit Go.Proofs

set_option maxRecDepth 100000 in
set_option maxHeartbeats 4000000 in
theorem lawJoins_any (id user how more : ByteArray) (w : World) (h : id.size + user.size + how.size + more.size ≤ 1048576) :
    Calls Tryz.prog 49 #[.string id, .string user, .string how, .string more] w fun e w' => e = .returned (.string (mkS (joinsT id.data.toList user.data.toList how.data.toList more.data.toList))) ∧ w = w' := by
  go_enter Tryz.func49, Tryz.ntmps49
  go_wp2_with fail
  go_ret
  refine ⟨ret_str (str_eq ?_), rfl⟩
  simp [joinsT, jA, jB, jC, jD, jE, ByteArray.data_append]

theorem conv_bytes (w : World) (s : ByteArray) : (convert 9 34 (.string s)).run Tryz.prog w = .ok (.slice (some ⟨w.heap.size, 0, none⟩) s.data.toList.length (grownCap w s.size 0 5)) (Lib.bytesWorld w 5 s) := by
  rw [← Lib.size_eq]
  exact Lib.run_convert_string_bytes w 9 34 5 s Tryz.underlying9 Tryz.underlying34 Tryz.underlying5
theorem bytes_below (w : World) (s : ByteArray) : Below w.heap.size w (Lib.bytesWorld w 5 s) :=
  ⟨rfl, rfl, rfl, by rw [Lib.bytesWorld_size]; omega, fun k hk => Lib.bytesWorld_at_old w _ s k hk⟩
theorem bytes_at (w : World) (s : ByteArray) : BytesAt (Lib.bytesWorld w 5 s) w.heap.size 0 s.data.toList := by
  refine ⟨_, _, _, Lib.bytesWorld_at_new w _ s, fun k hk => ?_⟩
  have h := Lib.bytesWorld_cell w 5 s k (by rw [Lib.size_eq]; exact hk)
  rw [Nat.zero_add]
  rw [blk_cell (Lib.bytesWorld_at_new w _ s)] at h
  rw [h]
  have hk' : k < s.data.size := by simpa using hk
  congr 2
  simp only [List.getD, Array.getElem?_toList, Array.getElem?_eq_getElem hk', Option.getD_some, Array.getElem_toList]

set_option maxRecDepth 100000 in
set_option maxHeartbeats 4000000 in
theorem shown_any (w : World) (hG : Glob w) : Calls Tryz.prog 9 #[] w fun e w' => e = .returned (.bool true) ∧ Below w.heap.size w w' := by
  have HG := Lib.hid hG
  clear hG
  have hcv := conv_bytes
  go_enter Tryz.func9, Tryz.ntmps9
  go_wp2_with fail
  refine (isUser_is _ (b := true) (by kernel_rfl) (by decide) w HG.out).mono ?_
  rintro e w1 ⟨rfl, hb1⟩
  have HB1 := Lib.hid hb1
  clear hb1
  go_wp2_with fail
  refine (isUser_is _ (b := false) (by kernel_rfl) (by decide) w1 (HG.out.below HB1.out)).mono ?_
  rintro e w2 ⟨rfl, hb2⟩
  have HB2 := Lib.hid (below_trans HB1.out hb2)
  clear hb2
  go_wp2_with fail
  refine (isRoom_any _ (b := true) (by kernel_rfl) (by decide) w2 (HG.out.below HB2.out)).mono ?_
  rintro e w3 ⟨rfl, hb3⟩
  have HB3 := Lib.hid (below_trans HB2.out hb3)
  clear hb3
  go_wp2_with fail
  refine (new_ok w3 (HG.out.below HB3.out) _ (by decide) (by kernel_rfl)).mono ?_
  rintro e w4 ⟨rb, kb, lb, nb, rfl, hR, hb4, l1, l2, l3, l4⟩
  have HR4 := Lib.hid hR
  have HB4 := Lib.hid (below_trans HB3.out hb4)
  have hz := HB3.out.size
  obtain ⟨sd, hsd⟩ : ∃ s, mkS docT = s := ⟨_, rfl⟩
  have hj := lawJoins_any (mkS sD1) (mkS sBhome) (mkS sJoin) (mkS sMoreBea) w4 (by decide)
  rw [show mkS (joinsT (mkS sD1).data.toList (mkS sBhome).data.toList (mkS sJoin).data.toList (mkS sMoreBea).data.toList) = sd from hsd] at hj
  have HJ := Lib.hid hj
  have HSD := Lib.hid (show sd.data.toList = docT by rw [← hsd])
  clear hR hb4 hj hsd
  go_wp2_with fail
  refine HJ.out.mono ?_
  rintro e w5 ⟨rfl, rfl⟩
  have hbB := bytes_below w4 sd
  have HPA := Lib.hid (parse_any (Lib.bytesWorld w4 5 sd) ((HG.out.below HB4.out).below hbB) sd.data.toList w4.heap.size 0 (grownCap w4 sd.size 0 5) (bytes_at w4 sd) (by rw [← Lib.size_eq]; exact grownCap_ge _ _ _ _) (o := some docV) (by rw [HSD.out]; exact doc_parse))
  have HB5 := Lib.hid (below_trans HB4.out hbB)
  have HR5 := Lib.hid (HR4.out.below hbB)
  have hzB := hbB.size
  clear hbB
  go_wp2_with fail
  generalize Lib.bytesWorld w4 5 sd = w5 at *
  refine HPA.out.mono ?_
  rintro e w6 ⟨hb6, q, rfl, r, hrf, hrh, hrv⟩
  have HB6 := Lib.hid (below_trans HB5.out hb6)
  have HR6 := Lib.hid (HR5.out.below hb6)
  have HRF := Lib.hid hrf
  have HRH := Lib.hid hrh
  have HRV := Lib.hid hrv
  have hz6 := hb6.size
  have HRE := Lib.hid (readEvent_o r w6 (HG.out.below HB6.out) hrh (pv := ptrV q) (o := some docV) ⟨q, rfl, hrv⟩ (fun x hx => by cases hx; exact parseL_ok doc_parse))
  clear hb6 hrf hrh hrv
  go_wp2_with fail
  refine HRE.out.mono ?_
  rintro e w7 ⟨hb7, hre⟩
  rw [doc_event] at hre
  obtain ⟨qe, rfl, hqe, hev⟩ := hre
  have HB7 := Lib.hid (below_trans HB6.out hb7)
  have HR7 := Lib.hid (HR6.out.below hb7)
  have hh2 : Has ((Ro.one qe (evObjE docE (ptrV q))).or r) w7 := (Has.one hev).or (HRH.out.below hb7)
  have hre2 : EvV ((Ro.one qe (evObjE docE (ptrV q))).or r) qe docE := ⟨q, Ro.le_left _ _ _ _ (Ro.one_self _ _), HRV.out.mono (Ro.le_right (Has.one hev) (HRH.out.below hb7))⟩
  have hz7 := hb7.size
  have hkb4 : kb < w4.heap.size := HR4.out.known.lt
  have hrk : ((Ro.one qe (evObjE docE (ptrV q))).or r) kb = none := by
    have h1 : Ro.one qe (evObjE docE (ptrV q)) kb = none := if_neg (by omega)
    unfold Ro.or; rw [h1, Ro.from_ne HRF.out (by omega)]; rfl
  obtain ⟨r2, hr2⟩ : ∃ r2, (Ro.one qe (evObjE docE (ptrV q))).or r = r2 := ⟨_, rfl⟩
  rw [hr2] at hh2 hre2 hrk
  have hgk : gTop ≤ kb := Nat.le_trans HG.out.top (Nat.le_trans hz l2)
  have hokE : EvOk docE := ⟨by decide, by decide, by decide, by decide, by decide, by decide, parseL_ok doc_parse⟩
  have HA1 := Lib.hid (apply_member r2 w7 (HG.out.below HB7.out) hh2 hre2 hokE HR7.out hrk hgk (by kernel_rfl) doc_member)
  rw [show changedM (getK (newRoom _).known docE.key) (joinsJ (contentO docE)) = true by kernel_rfl] at HA1
  have HH2 := Lib.hid hh2
  have HE2 := Lib.hid hre2
  have HOKE := Lib.hid hokE
  have HRK := Lib.hid hrk
  clear hb7 hev hh2 hre2 hrk hr2 hokE
  go_wp2_with fail
  refine HA1.out.mono ?_
  rintro e w8 ⟨rfl, hR8, hT8⟩
  have HH8 := Lib.hid (HH2.out.turns hT8 (by simpa using HRK.out))
  have HT8 := Lib.hid ((Turns.below (S := []) HB7.out).extend hT8 (by simp; omega))
  have HG8 := Lib.hid (HG.out.turns HT8.out (by simp))
  have HA2 := Lib.hid (apply_member r2 w8 HG8.out HH8.out HE2.out HOKE.out hR8 HRK.out hgk (by kernel_rfl) doc_member)
  rw [show changedM (getK (applyM (newRoom _) docE).known docE.key) (joinsJ (contentO docE)) = false by kernel_rfl] at HA2
  clear hR8 hT8
  go_wp2_with fail
  refine HA2.out.mono ?_
  rintro e w9 ⟨rfl, hR9, hT9⟩
  have HH9 := Lib.hid (HH8.out.turns hT9 (by simpa using HRK.out))
  have HT9 := Lib.hid (HT8.out.extend hT9 (by simp; omega))
  have HI := Lib.hid (is_any w9 hR9 sBhome rfl)
  rw [show isR (applyM (applyM (newRoom _) docE) docE) sBhome = true by kernel_rfl] at HI
  obtain ⟨bq, hea, _⟩ := HE2.out
  have HF := Lib.hid (facts_any r2 w9 HH9.out hea hR9 (by decide) sBhome rfl)
  clear hR9 hT9 hea
  go_wp2_with fail
  refine HI.out.mono ?_
  rintro e w10 ⟨rfl, rfl⟩
  go_wp2_with fail
  refine HF.out.mono ?_
  rintro e w11 ⟨b, rfl, _, _, hb11⟩
  rw [show (joinedL (applyM (applyM (newRoom _) docE) docE)).length = 1 by kernel_rfl, show (memD (getK (applyM (applyM (newRoom _) docE) docE).known sBhome)).2 = sBea by kernel_rfl]
  have HT11 := Lib.hid ((HT9.out.trans (Turns.below hb11)).toBelow (by simp))
  clear hb11
  generalize levelR _ _ = lv
  unfold sBea
  go_wp2_with fail
  go_ret
  exact ⟨rfl, HT11.out.alloc (HT11.out.size) _⟩

end Toc

namespace Toc
open Go Go.RowKit Go.Proofs

/-- Parse of a string's bytes. -/
theorem parse_o (w : World) (hG : Glob w) (s : ByteArray) {n : Nat} (hn : s.data.toList.length = n) {o : Option JV} (ho : parseL s.data.toList = o) :
    Calls Tryz.prog 20 #[.slice (some ⟨w.heap.size, 0, none⟩) n (grownCap w s.size 0 5)] (Lib.bytesWorld w 5 s) fun e w' =>
      ∃ pv er r, e = .returned (.tuple #[pv, er]) ∧ r.from w.heap.size ∧ Has r w' ∧ PV r pv o ∧ Below w.heap.size w w' := by
  subst hn
  have hbB := bytes_below w s
  have hp := parse_any (Lib.bytesWorld w 5 s) (hG.below hbB) s.data.toList w.heap.size 0 (grownCap w s.size 0 5) (bytes_at w s) (by rw [← Lib.size_eq]; exact grownCap_ge _ _ _ _) ho
  refine hp.mono ?_
  rintro e w' ⟨hb6, h⟩
  cases o with
  | none =>
    obtain ⟨b, rfl⟩ := h
    exact ⟨_, _, Ro.none, rfl, Ro.from_none _, Has.none _, rfl, below_trans hbB hb6⟩
  | some v =>
    obtain ⟨q, rfl, r, hrf, hrh, hrv⟩ := h
    exact ⟨_, _, r, rfl, Ro.from_mono hrf hbB.size, hrh, ⟨q, rfl, hrv⟩, below_trans hbB hb6⟩

end Toc
