/-
  Rbl: The document's reader: a bracket (list), the walk. Printed by tools/brgen.py.
  Rbo: The document's reader: a bracket (object), the walk. Printed by tools/brgen.py.
  Rvalue: The document's reader: a value.
  Rparse: The document's Parse: it gives parseL.
-/
import Derived.Test.YtblbdgepocfngaaGreatDoorWS
import Derived.Test.YtblbdgepocfngaaGreatDoorWQ
import Derived.Test.YtblbdgepocfngaaGreatDoorW9
namespace Toc
open Go Go.RowKit Go.Proofs

/-- A bracket's loop. -/
def BlLoop (C : RC) (w0 : World) (d q : Nat) (one : Bytes → Option (JV × Bytes)) (o : Option (List JV × Bytes)) (wr : World) : Prop :=
  Turns [C.pb] w0 wr ∧ ((∃ (k j : Nat) (s : List JV), k ≤ 64 ∧ Rd C wr j d ∧ rowL (itemL one) 93 (64 - k) s (C.bs.drop j) = o ∧ ∃ sv qs r, BrInv C q (q + 1) 4 k [] s wr sv nilS qs r) ∨ (Bd C wr d ∧ o = none))

theorem itemL_nil {one : Bytes → Option (JV × Bytes)} (h : one [] = none) (s : List JV) : itemL one s [] = none := by unfold itemL; rw [h]; rfl

set_option maxRecDepth 100000 in
set_option maxHeartbeats 16000000 in
theorem rbracket_list (C : RC) (w : World) (i d : Nat) (h : Rd C w i d) (hi : i < C.s.size) (hd : d ≤ 10) (one : Bytes → Option (JV × Bytes)) (hone : one [] = none)
    (IH : d < 10 → ∀ w i, Rd C w i (d + 1) → Calls Tryz.prog 155 #[ptrV C.pb] w fun x w' => RValOf C w (d + 1) (one (C.bs.drop i)) x w')
    {o : Option (JV × Bytes)} (ho : (if d = 10 then none else (rowTop (itemL one) 93 [] (C.bs.drop (i + 1))).map fun p => (JV.list p.1, p.2)) = o) :
    Calls Tryz.prog 223 #[ptrV C.pb, .bool false] w fun x w' => RValOf C w d o x w' := by
  obtain ⟨i1, ki5, kz0, kz1, kz2⟩ := info_parts (show (Tryz.prog.info? 76).map (fun i => (i.zero, i.size, i.bytes)) = some (some (.pointer none), 1, 8) by kernel_rfl)
  have hpb : C.pb < w.heap.size := blk_lt h.blk
  have hsm := h.small
  obtain ⟨_, c1, c2, _, z1⟩ := h.cells
  have H := Lib.hid h
  have HO := Lib.hid ho
  have HIH := Lib.hid IH
  have c2a := fun o => cell_alloc c2 o
  have c1a := fun o => cell_alloc c1 o
  clear h ho IH
  go_enter Tryz.func223, Tryz.ntmps223
  by_cases h10 : d = 10
  · subst h10
    have ho := HO.out
    rw [if_pos rfl] at ho
    subst ho
    clear HO
    go_wp2_with fail
    refine (fail_good C _ i 10 (H.out.below ((Below.refl _ _).alloc (Nat.le_refl _) _)) i 21 (by decide)).mono ?_
    rintro e w2 ⟨rfl, hB, hT⟩
    have HT2 := Lib.hid (((Turns.refl [C.pb] w).alloc _).trans hT)
    have HB2 := Lib.hid hB
    clear hB hT
    go_wp2_with fail
    go_ret
    exact ⟨HT2.out, none, rfl, HB2.out⟩
  · have ho := HO.out
    rw [if_neg h10] at ho
    have h10' : ((d : Int) == 10) = false := by simp; omega
    obtain ⟨orow, hor⟩ : ∃ x, rowTop (itemL one) 93 [] (C.bs.drop (i + 1)) = x := ⟨_, rfl⟩
    rw [hor] at ho
    have HOM := Lib.hid ho
    have HIH2 := Lib.hid (HIH.out (by omega))
    clear ho HO HIH
    obtain ⟨d1, hd1⟩ : ∃ d1, d1 = d + 1 := ⟨_, rfl⟩
    have hdA : (d : Int) + 1 = (d1 : Int) := by omega
    have hdB : (d1 : Int) - 1 = (d : Int) := by omega
    obtain ⟨j1, hj1⟩ : ∃ j1, j1 = i + 1 := ⟨_, rfl⟩
    have hjA : (i : Int) + 1 = (j1 : Int) := by omega
    have hwr1 : IntKind.i64.wrap (j1 : Int) = j1 := IntWalk.i64_in _ (by omega)
    have hwr2 : IntKind.i64.wrap (d1 : Int) = d1 := IntWalk.i64_in _ (by omega)
    have hwr3 : IntKind.i64.wrap (d : Int) = d := IntWalk.i64_in _ (by omega)
    rw [← hj1] at hor
    rw [← hd1] at HIH2
    have HOR := Lib.hid hor
    have hR0 : Rd C ((w.setCell ⟨C.pb, 1, none⟩ (.int .i64 j1)).setCell ⟨C.pb, 2, none⟩ (.int .i64 d1)) j1 d1 := (H.out.step j1 (by omega)).opens d1
    have hT0 : Turns [C.pb] w ((w.setCell ⟨C.pb, 1, none⟩ (.int .i64 j1)).setCell ⟨C.pb, 2, none⟩ (.int .i64 d1)) := (turns_set _ _ _ _).trans (turns_set _ _ _ _)
    have hz0 : ((w.setCell ⟨C.pb, 1, none⟩ (.int .i64 j1)).setCell ⟨C.pb, 2, none⟩ (.int .i64 d1)).heap.size = w.heap.size := by simp [World.setCell]
    have HS0 := Lib.hid (And.intro hR0 (And.intro hT0 hz0))
    have HDN := Lib.hid h10
    clear hj1 hd1 hor hR0 hT0 hz0 h10
    go_upto_region 11 with fail
    have hR1 := HS0.out.1.below ((Below.refl _ _).alloc (Nat.le_refl _) (rvObj 4 false 0 emptyS nilS nilS))
    have hT1 := HS0.out.2.1.alloc (rvObj 4 false 0 emptyS nilS nilS)
    have hb1 := blk_new ((w.setCell ⟨C.pb, 1, none⟩ (.int .i64 j1)).setCell ⟨C.pb, 2, none⟩ (.int .i64 d1)) (rvObj 4 false 0 emptyS nilS nilS)
    rw [HS0.out.2.2] at hb1
    obtain ⟨q, hq⟩ : ∃ q, w.heap.size = q := ⟨_, rfl⟩
    rw [hq] at hb1 hpb
    rw [hq]
    have HQ := Lib.hid hq
    have HS1 := Lib.hid (And.intro hR1 (And.intro hT1 hb1))
    have HI1 := Lib.hid (br_start hb1 hpb)
    clear hR1 hT1 hb1 hq c1 c2 c1a c2a z1 HS0
    rw [show Obj.cells #[Value.int IntKind.i64 4, Value.bool false, Value.int IntKind.i64 0, Value.string { data := #[] }, Value.slice none 0 0, Value.slice none 0 0] 241 = rvObj 4 false 0 emptyS nilS nilS from rfl]
    generalize ((w.setCell ⟨C.pb, 1, none⟩ (.int .i64 j1)).setCell ⟨C.pb, 2, none⟩ (.int .i64 d1)).alloc (rvObj 4 false 0 emptyS nilS nilS) = w1 at *
    go_wp2_with fail
    refine (rblanks_good C w1 j1 d1 HS1.out.1).mono ?_
    rintro e w2 ⟨rfl, j2, hR2, hj2, _, hT2⟩
    have HR2 := Lib.hid hR2
    have HT2 := Lib.hid (HS1.out.2.1.trans hT2)
    have HI2 := Lib.hid (HI1.out.turns hT2)
    obtain ⟨z, hz⟩ : ∃ z, nextV C.bs j2 = z := ⟨_, rfl⟩
    have HN2 := Lib.hid (next_good C w2 j2 d1 hR2 hz)
    have HBG := Lib.hid (row_begin HOR.out hj2 (itemL_nil hone))
    have hle2 := hR2.le
    clear hR2 hj2 hT2 HS1 HI1 HOR
    go_wp2_with fail
    refine HN2.out.mono ?_
    rintro e w3 ⟨rfl, hb3⟩
    have hR3 := HR2.out.below hb3
    obtain ⟨_, c1, c2, _, z1⟩ := hR3.cells
    have HR3 := Lib.hid hR3
    have HT3 := Lib.hid (HT2.out.trans (Turns.below hb3))
    have HI3 := Lib.hid (HI2.out.turns (Turns.below hb3))
    clear hb3 hR3 HN2 HR2 HT2 HI2
    by_cases hcl : C.bs[j2]? = some 93
    · have hzc : z = 93 := by rw [← hz, nextV_some hcl]; rfl
      subst hzc
      have hor := (HBG.out.2 _ hcl).1 rfl
      have hlt : j2 < C.s.size := by rw [Lib.size_eq]; exact (List.getElem?_eq_some_iff.1 hcl).1
      subst hor
      have hom := HOM.out
      have HOM2 := Lib.hid hom
      obtain ⟨j3, hj3⟩ : ∃ j3, j3 = j2 + 1 := ⟨_, rfl⟩
      have hjB : (j2 : Int) + 1 = (j3 : Int) := by omega
      have hwr4 : IntKind.i64.wrap (j3 : Int) = j3 := IntWalk.i64_in _ (by omega)
      have HJ3 := Lib.hid hj3
      have hle3 : j3 ≤ C.s.size := by omega
      clear hcl hz hj3 hom HBG HOM hlt
      go_wp2_with fail
      go_ret
      have hoo := HOM2.out
      simp only [Option.map_some] at hoo
      subst hoo
      exact ⟨(HT3.out.trans (turns_set _ _ _ _)).trans (turns_set _ _ _ _), j3, q, rfl, (HR3.out.step j3 hle3).opens d, by rw [HJ3.out], br_made_list ((HI3.out.turns (turns_set _ _ _ _)).turns (turns_set _ _ _ _)) rfl (Nat.le_of_eq HQ.out)⟩
    · have hzc : (z == 93) = false := by
        cases hx : C.bs[j2]? with
        | none => rw [← hz, nextV_none (List.getElem?_eq_none_iff.1 hx)]; rfl
        | some c =>
          rw [← hz, nextV_some hx]
          have h1 : c ≠ 93 := fun e => hcl (by rw [hx, e])
          have h2 : c.toNat ≠ 93 := fun e => h1 (UInt8.toNat_inj.1 e)
          simp; omega
      have hrow : rowL (itemL one) 93 64 [] (C.bs.drop j2) = orow := by
        cases hx : C.bs[j2]? with
        | none => exact HBG.out.1 hx
        | some c => exact (HBG.out.2 _ hx).2 (fun e => hcl (by rw [hx, e]))
      have HL0 := Lib.hid (show BlLoop C w d1 q one orow w3 from ⟨HT3.out, .inl ⟨0, j2, [], by omega, HR3.out, hrow, nilS, [], _, HI3.out⟩⟩)
      clear hcl hrow HBG HT3 HI3 HR3 hz c1 c2 z1
      go_wp2_with fail
      go_loopw [] (fun wr => BlLoop C w d1 q one orow wr) (fun wr => brM C q wr)
      case atStart => exact HL0.out
      case round =>
        obtain ⟨hT, ⟨k, j, s, hk, hR, hrow, sv, qs, r, hI⟩ | ⟨hB, hon⟩⟩ := hrel
        rotate_left
        · subst hon
          have HB := Lib.hid hB
          have HT := Lib.hid hT
          obtain ⟨ii, ee, aa, q1, q2, q3, q4⟩ := HB.out
          have c2 : wr.cell? ⟨C.pb, 2, none⟩ = some (.int .i64 d1) := blk_cell q4 2
          have c3 : wr.cell? ⟨C.pb, 3, none⟩ = some (.int .i64 ee) := blk_cell q4 3
          have z1 := fun o => blk_free q4 o
          have hee : (ee == 0) = false := by simpa using q1
          clear hB hT q4 q1 HL0
          go_wp2_with fail
          go_ret
          have hoo := HOM.out
          simp only [Option.map_none] at hoo
          subst hoo
          exact ⟨HT.out.trans (turns_set _ _ _ _), _, rfl, HB.out.opens d⟩
        have hme := brM_good hR hI
        obtain ⟨_, _, _, c3, _⟩ := hR.cells
        have HT := Lib.hid hT
        have HR := Lib.hid hR
        have HROW := Lib.hid hrow
        have HI := Lib.hid hI
        have HME := Lib.hid hme
        clear hT hR hrow hI hme HL0
        go_wp2_with fail
        refine (rblanks_good C wr j d1 HR.out).mono ?_
        rintro e w1 ⟨rfl, j2, hR1, hj1, _, hT1⟩
        have HIT := Lib.hid (row_item (itemL_nil hone) hk HROW.out hj1)
        have HT1 := Lib.hid (HT.out.trans hT1)
        have HI1 := Lib.hid (HI.out.turns hT1)
        have HR1 := Lib.hid hR1
        obtain ⟨z, hz⟩ : ∃ z, nextV C.bs j2 = z := ⟨_, rfl⟩
        have HN := Lib.hid (next_good C w1 j2 d1 hR1 hz)
        have hzr := nextV_rangeR C.bs j2
        rw [hz] at hzr
        obtain ⟨hzr1, hzr2⟩ := hzr
        obtain ⟨sa, sc, hsv, hsc⟩ := own_slice HI1.out.at_.items
        have HZ := Lib.hid hz
        clear hT1 hR1 hj1 HT HI HR HROW hz c3
        go_upto_region 18 with fail
        go_cut [78] (fun s78 wy => s78 = .bool (decide (0 ≤ z) && decide (k = 64)) ∧ Below w1.heap.size w1 wy)
        case first =>
          go_wp2_with fail
          refine HN.out.mono ?_
          rintro e w2 ⟨rfl, hb2⟩
          have hblk := (HI1.out.turns (Turns.below hb2)).at_.blk
          unfold rvObj at hblk
          have e4 : w2.cell? ⟨q, 4, none⟩ = some sv := blk_cell hblk 4
          rw [hsv] at e4
          have HB2 := Lib.hid hb2
          clear hb2 hblk
          by_cases h0 : 0 ≤ z
          · by_cases h64 : (k : Int) = 64
            · go_wp2_with fail
              go_meet
              refine ⟨?_, HB2.out⟩
              have : k = 64 := by omega
              simp [h0, this]
            · go_wp2_with fail
              go_meet
              refine ⟨?_, HB2.out⟩
              have : ¬ k = 64 := by omega
              simp [h0, this] <;> omega
          · go_wp2_with fail
            go_meet
            refine ⟨?_, HB2.out⟩
            have h0' : (decide (0 ≤ z)) = false := by simpa using h0
            rw [h0']; rfl
        case rest =>
          obtain ⟨rfl, hb2⟩ := hcut
          have HT2 := Lib.hid (HT1.out.trans (Turns.below hb2))
          have HI2 := Lib.hid (HI1.out.turns (Turns.below hb2))
          have HR2 := Lib.hid (HR1.out.below hb2)
          obtain ⟨bf, hbf⟩ : ∃ b : Bool, (decide (0 ≤ z) && decide (k = 64)) = b := ⟨_, rfl⟩
          rw [hbf]
          obtain ⟨_, c1, _, c3, _⟩ := HR2.out.cells
          have hpbn : C.pb ∉ rvS q sv nilS := fun hm => by
            have h1 := (rvS_lt HI1.out.at_ _ hm).1
            have h2 := HI1.out.pb
            rcases h1 with h | ⟨h, _⟩ <;> omega
          have hS0 : ∀ b ∈ rvS q sv nilS, b ∈ [C.pb] ∨ w.heap.size ≤ b := fun b hm => by
            have h1 := (rvS_lt HI1.out.at_ _ hm).1
            have h3 := HQ.out
            rcases h1 with h | ⟨h, _⟩
            · exact .inr (by omega)
            · exact .inr (by omega)
          have HPB := Lib.hid (And.intro hpbn hS0)
          clear hb2 hpbn hS0 HT1 HR1 hsv hsc
          cases bf with
          | true =>
            have hk64 : k = 64 := by
              have := hbf
              simp only [Bool.and_eq_true, decide_eq_true_eq] at this
              exact this.2
            have hon : orow = none := HIT.out.2 hk64
            subst hon
            have HK := Lib.hid hk64
            clear hbf hk64
            go_wp2_with fail
            refine (fail_good C wc j2 d1 HR2.out j2 22 (by decide)).mono ?_
            rintro e w3 ⟨rfl, hB3, hT3⟩
            have HT3 := Lib.hid (HT2.out.trans hT3)
            have HI3 := Lib.hid (HI2.out.turns hT3)
            have HB3 := Lib.hid hB3
            clear hB3 hT3 c1 c3
            go_wp2_with fail
            refine (rvalue_bad C w3 d1 HB3.out).mono ?_
            rintro e w4 ⟨rfl, hb4⟩
            have HT4 := Lib.hid (HT3.out.trans (Turns.below hb4))
            have hat4 := (HI3.out.turns (Turns.below hb4)).at_
            have HAT := Lib.hid hat4
            have HB4 := Lib.hid (HB3.out.below hb4)
            clear hb4 hat4
            obtain ⟨hb4, hit4⟩ := And.intro HAT.out.blk HAT.out.items
            have hb4' := hb4
            unfold rvObj at hb4'
            have e4 : w4.cell? ⟨q, 4, none⟩ = some sv := blk_cell hb4' 4
            have e4a := fun o => cell_alloc e4 o
            have hqs := HAT.out.size
            have HBI := Lib.hid (And.intro hb4 hit4)
            clear hb4 hb4' hit4
            go_wp2_with (at_builtin; refine wpList_append_lies _ rfl _ _ 186 rfl (q + 1) 76 i1 (.pointer none) 1 8 Tryz.underlying186 ki5 kz0 kz1 kz2 rfl (by decide) _ _ _ rfl (HBI.out.2.alloc _) ⟨w4.heap.size, 0, none⟩ 1 1 [.pointer none] rfl rfl (World.news_of_block (blk_new _ _)) (by simp [Value.oneCell']) (by decide) (by unfold maxLen; omega) (by omega) (by simp; omega) _ rfl ?_)
            intro g2 cap2 w5 hown hgr hat2 hlt2
            have hq5 : w5.heap[q]? = some (rvObj 4 false 0 emptyS sv nilS) := (hgr.block q (by simp; omega) (fun e => by have := (HBI.out.2.lt q e.symm).1; omega)).trans (blk_old HBI.out.1 _)
            have hg2b : q + 1 ≤ g2 := (hown.lt g2 rfl).1
            have hq6 : (w5.setCell ⟨q, 4, none⟩ (.slice (some ⟨g2, 0, none⟩) (k + 1) cap2)).heap[q]? = some (rvObj 4 false 0 emptyS (.slice (some ⟨g2, 0, none⟩) (k + 1) cap2) nilS) := by
              have := blk_set (v := (.slice (some ⟨g2, 0, none⟩) (k + 1) cap2)) hq5 4
              simpa [rvObj] using this
            have hTA : Turns (rvS q sv nilS) w4 (w5.setCell ⟨q, 4, none⟩ (.slice (some ⟨g2, 0, none⟩) (k + 1) cap2)) :=
              (((Turns.refl (rvS q sv nilS) w4).alloc _).grown hgr (fun k hk => .inl (by simp [rvS, hk]))).setCell (.inl (by simp [rvS])) _
            have HRW := Lib.hid (show RVAt (w5.setCell ⟨q, 4, none⟩ (.slice (some ⟨g2, 0, none⟩) (k + 1) cap2)) q (q + 1) 4 (.slice (some ⟨g2, 0, none⟩) (k + 1) cap2) nilS (k + 1) (qs.map adr ++ [none]) 0 [] from
              ⟨hq6, by rw [List.map_append, List.map_map]; exact own_other (p := ⟨q, 4, none⟩) hown (fun e => absurd (Option.some.inj e) (by show ¬ g2 = q; omega)) _, World.ownsRow_nil _ _ _ _, Nat.lt_succ_self _, Nat.le_trans HAT.out.size hTA.size⟩)
            have HGR := Lib.hid (show sv.ownBlock = some g2 ∨ w4.heap.size ≤ g2 from hat2.imp id (fun e => by rw [e]; exact Nat.le_trans (Nat.le_succ _) (Nat.le_of_eq (by simp))))
            have HTR := Lib.hid hTA
            have c6 : w5.cell? ⟨q, 4, none⟩ = some sv := blk_cell hq5 4
            have f6 := fun o => blk_free hq5 o
            clear hown hgr hat2 hq6 hTA e4 e4a hlt2 hq5
            go_wp2_with fail
            generalize w5.setCell ⟨q, 4, none⟩ (.slice (some ⟨g2, 0, none⟩) (k + 1) cap2) = wa at *
            clear c6 f6 HBI
            have HTA := Lib.hid (HT4.out.extend HTR.out HPB.out.2)
            have HBA := Lib.hid (HB4.out.turns HTR.out HPB.out.1)
            refine (rblanks_bad C wa d1 HBA.out).mono ?_
            rintro e w7 ⟨rfl, hb7⟩
            have HT7 := Lib.hid (HTA.out.trans (Turns.below hb7))
            have HB7 := Lib.hid (HBA.out.below hb7)
            clear hb7
            go_wp2_with fail
            refine (next_bad C w7 d1 HB7.out).mono ?_
            rintro e w8 ⟨rfl, hb8⟩
            have HT8 := Lib.hid (HT7.out.trans (Turns.below hb8))
            have HB8 := Lib.hid (HB7.out.below hb8)
            clear hb8
            go_wp2_with fail
            refine (rmust_bad C w8 d1 HB8.out 44).mono ?_
            rintro e w9 ⟨rfl, hb9⟩
            have HT9 := Lib.hid (HT8.out.trans (Turns.below hb9))
            have HB9 := Lib.hid (HB8.out.below hb9)
            clear hb9
            go_wp2_with fail
            go_roundw
            case rel => exact ⟨HT9.out, .inr ⟨HB9.out, rfl⟩⟩
            case measure => rw [brM_bad HB9.out, HME.out]; omega
          | false =>
            have hnf : z < 0 ∨ k < 64 := by
              have := hbf
              simp only [Bool.and_eq_false_iff, decide_eq_false_iff_not] at this
              omega
            obtain ⟨ov, hov⟩ : ∃ x, one (C.bs.drop j2) = x := ⟨_, rfl⟩
            have hend : ov ≠ none → k < 64 := fun hne => by
              rcases hnf with h0 | h0
              · exfalso
                cases hx : C.bs[j2]? with
                | none => exact hne (by rw [← hov, List.drop_eq_nil_of_le (List.getElem?_eq_none_iff.1 hx), hone])
                | some c => have := HZ.out; rw [nextV_some hx] at this; omega
              · exact h0
            have hono : ov = none → orow = none := fun hn => by
              by_cases h64 : k < 64
              · rw [HIT.out.1 h64]; unfold itemL; rw [hov, hn]; rfl
              · exact HIT.out.2 (by omega)
            have HV := Lib.hid (HIH2.out wc j2 HR2.out)
            rw [hov] at HV
            have HOV := Lib.hid hov
            have HEN := Lib.hid (And.intro hend hono)
            clear hbf hnf hov hend hono c1 c3
            go_wp2_with fail
            refine HV.out.mono ?_
            rintro e w4 ⟨hT4, hret⟩
            have HT4 := Lib.hid (HT2.out.trans hT4)
            have HTV := Lib.hid hT4
            have hat4 := (HI2.out.turns hT4).at_
            have HAT := Lib.hid hat4
            clear hT4 hat4
            cases ov with
            | none =>
              obtain ⟨pv, rfl, hB⟩ := hret
              have hon : orow = none := HEN.out.2 rfl
              subst hon
              have HB4 := Lib.hid hB
              clear hB
              obtain ⟨hb4, hit4⟩ := And.intro HAT.out.blk HAT.out.items
              have hb4' := hb4
              unfold rvObj at hb4'
              have e4 : w4.cell? ⟨q, 4, none⟩ = some sv := blk_cell hb4' 4
              have e4a := fun o => cell_alloc e4 o
              have hqs := HAT.out.size
              have HBI := Lib.hid (And.intro hb4 hit4)
              clear hb4 hb4' hit4
              go_wp2_with (at_builtin; refine wpList_append_lies _ rfl _ _ 186 rfl (q + 1) 76 i1 (.pointer none) 1 8 Tryz.underlying186 ki5 kz0 kz1 kz2 rfl (by decide) _ _ _ rfl (HBI.out.2.alloc _) ⟨w4.heap.size, 0, none⟩ 1 1 [.pointer pv] rfl rfl (World.news_of_block (blk_new _ _)) (by simp [Value.oneCell']) (by decide) (by unfold maxLen; omega) (by omega) (by simp; omega) _ rfl ?_)
              intro g2 cap2 w5 hown hgr hat2 hlt2
              have hq5 : w5.heap[q]? = some (rvObj 4 false 0 emptyS sv nilS) := (hgr.block q (by simp; omega) (fun e => by have := (HBI.out.2.lt q e.symm).1; omega)).trans (blk_old HBI.out.1 _)
              have hg2b : q + 1 ≤ g2 := (hown.lt g2 rfl).1
              have hq6 : (w5.setCell ⟨q, 4, none⟩ (.slice (some ⟨g2, 0, none⟩) (k + 1) cap2)).heap[q]? = some (rvObj 4 false 0 emptyS (.slice (some ⟨g2, 0, none⟩) (k + 1) cap2) nilS) := by
                have := blk_set (v := (.slice (some ⟨g2, 0, none⟩) (k + 1) cap2)) hq5 4
                simpa [rvObj] using this
              have hTA : Turns (rvS q sv nilS) w4 (w5.setCell ⟨q, 4, none⟩ (.slice (some ⟨g2, 0, none⟩) (k + 1) cap2)) :=
                (((Turns.refl (rvS q sv nilS) w4).alloc _).grown hgr (fun k hk => .inl (by simp [rvS, hk]))).setCell (.inl (by simp [rvS])) _
              have HRW := Lib.hid (show RVAt (w5.setCell ⟨q, 4, none⟩ (.slice (some ⟨g2, 0, none⟩) (k + 1) cap2)) q (q + 1) 4 (.slice (some ⟨g2, 0, none⟩) (k + 1) cap2) nilS (k + 1) (qs.map adr ++ [pv]) 0 [] from
                ⟨hq6, by rw [List.map_append, List.map_map]; exact own_other (p := ⟨q, 4, none⟩) hown (fun e => absurd (Option.some.inj e) (by show ¬ g2 = q; omega)) _, World.ownsRow_nil _ _ _ _, Nat.lt_succ_self _, Nat.le_trans HAT.out.size hTA.size⟩)
              have HGR := Lib.hid (show sv.ownBlock = some g2 ∨ w4.heap.size ≤ g2 from hat2.imp id (fun e => by rw [e]; exact Nat.le_trans (Nat.le_succ _) (Nat.le_of_eq (by simp))))
              have HTR := Lib.hid hTA
              have c6 : w5.cell? ⟨q, 4, none⟩ = some sv := blk_cell hq5 4
              have f6 := fun o => blk_free hq5 o
              clear hown hgr hat2 hq6 hTA e4 e4a hlt2 hq5
              go_wp2_with fail
              generalize w5.setCell ⟨q, 4, none⟩ (.slice (some ⟨g2, 0, none⟩) (k + 1) cap2) = wa at *
              clear c6 f6 HBI
              have HTA := Lib.hid (HT4.out.extend HTR.out HPB.out.2)
              have HBA := Lib.hid (HB4.out.turns HTR.out HPB.out.1)
              refine (rblanks_bad C wa d1 HBA.out).mono ?_
              rintro e w7 ⟨rfl, hb7⟩
              have HT7 := Lib.hid (HTA.out.trans (Turns.below hb7))
              have HB7 := Lib.hid (HBA.out.below hb7)
              clear hb7
              go_wp2_with fail
              refine (next_bad C w7 d1 HB7.out).mono ?_
              rintro e w8 ⟨rfl, hb8⟩
              have HT8 := Lib.hid (HT7.out.trans (Turns.below hb8))
              have HB8 := Lib.hid (HB7.out.below hb8)
              clear hb8
              go_wp2_with fail
              refine (rmust_bad C w8 d1 HB8.out 44).mono ?_
              rintro e w9 ⟨rfl, hb9⟩
              have HT9 := Lib.hid (HT8.out.trans (Turns.below hb9))
              have HB9 := Lib.hid (HB8.out.below hb9)
              clear hb9
              go_wp2_with fail
              go_roundw
              case rel => exact ⟨HT9.out, .inr ⟨HB9.out, rfl⟩⟩
              case measure => rw [brM_bad HB9.out, HME.out]; omega
            | some pr =>
              obtain ⟨v, l6⟩ := pr
              obtain ⟨j5, qv, rfl, hR5, hj5, r1, hrf1, hrh1, hrv1⟩ := hret
              have hk64 : k < 64 := HEN.out.1 (by simp)
              have hoo := HIT.out.1 hk64
              unfold itemL at hoo
              rw [HOV.out] at hoo
              have HOO := Lib.hid hoo
              have HR4 := Lib.hid hR5
              have HJ5 := Lib.hid hj5
              have HMR := Lib.hid (And.intro hrf1 (And.intro hrh1 hrv1))
              clear hR5 hj5 hrf1 hrh1 hrv1 hoo HIT HOV HEN HV
              obtain ⟨hb4, hit4⟩ := And.intro HAT.out.blk HAT.out.items
              have hb4' := hb4
              unfold rvObj at hb4'
              have e4 : w4.cell? ⟨q, 4, none⟩ = some sv := blk_cell hb4' 4
              have e4a := fun o => cell_alloc e4 o
              have hqs := HAT.out.size
              have HBI := Lib.hid (And.intro hb4 hit4)
              clear hb4 hb4' hit4
              go_wp2_with (at_builtin; refine wpList_append_lies _ rfl _ _ 186 rfl (q + 1) 76 i1 (.pointer none) 1 8 Tryz.underlying186 ki5 kz0 kz1 kz2 rfl (by decide) _ _ _ rfl (HBI.out.2.alloc _) ⟨w4.heap.size, 0, none⟩ 1 1 [.pointer (adr qv)] rfl rfl (World.news_of_block (blk_new _ _)) (by simp [Value.oneCell']) (by decide) (by unfold maxLen; omega) (by omega) (by simp; omega) _ rfl ?_)
              intro g2 cap2 w5 hown hgr hat2 hlt2
              have hq5 : w5.heap[q]? = some (rvObj 4 false 0 emptyS sv nilS) := (hgr.block q (by simp; omega) (fun e => by have := (HBI.out.2.lt q e.symm).1; omega)).trans (blk_old HBI.out.1 _)
              have hg2b : q + 1 ≤ g2 := (hown.lt g2 rfl).1
              have hq6 : (w5.setCell ⟨q, 4, none⟩ (.slice (some ⟨g2, 0, none⟩) (k + 1) cap2)).heap[q]? = some (rvObj 4 false 0 emptyS (.slice (some ⟨g2, 0, none⟩) (k + 1) cap2) nilS) := by
                have := blk_set (v := (.slice (some ⟨g2, 0, none⟩) (k + 1) cap2)) hq5 4
                simpa [rvObj] using this
              have hTA : Turns (rvS q sv nilS) w4 (w5.setCell ⟨q, 4, none⟩ (.slice (some ⟨g2, 0, none⟩) (k + 1) cap2)) :=
                (((Turns.refl (rvS q sv nilS) w4).alloc _).grown hgr (fun k hk => .inl (by simp [rvS, hk]))).setCell (.inl (by simp [rvS])) _
              have HRW := Lib.hid (show RVAt (w5.setCell ⟨q, 4, none⟩ (.slice (some ⟨g2, 0, none⟩) (k + 1) cap2)) q (q + 1) 4 (.slice (some ⟨g2, 0, none⟩) (k + 1) cap2) nilS (k + 1) (qs.map adr ++ [(adr qv)]) 0 [] from
                ⟨hq6, by rw [List.map_append, List.map_map]; exact own_other (p := ⟨q, 4, none⟩) hown (fun e => absurd (Option.some.inj e) (by show ¬ g2 = q; omega)) _, World.ownsRow_nil _ _ _ _, Nat.lt_succ_self _, Nat.le_trans HAT.out.size hTA.size⟩)
              have HGR := Lib.hid (show sv.ownBlock = some g2 ∨ w4.heap.size ≤ g2 from hat2.imp id (fun e => by rw [e]; exact Nat.le_trans (Nat.le_succ _) (Nat.le_of_eq (by simp))))
              have HTR := Lib.hid hTA
              have c6 : w5.cell? ⟨q, 4, none⟩ = some sv := blk_cell hq5 4
              have f6 := fun o => blk_free hq5 o
              clear hown hgr hat2 hq6 hTA e4 e4a hlt2 hq5
              go_wp2_with fail
              generalize w5.setCell ⟨q, 4, none⟩ (.slice (some ⟨g2, 0, none⟩) (k + 1) cap2) = wa at *
              clear c6 f6 HBI
              have HTA := Lib.hid (HT4.out.extend HTR.out HPB.out.2)
              have HRA := Lib.hid (HR4.out.turns HTR.out HPB.out.1)
              have HIA := Lib.hid (br_push (v := v) HI2.out HTV.out HMR.out.1 HMR.out.2.1 HMR.out.2.2 HRW.out HTR.out HGR.out)
              obtain ⟨s', hs'⟩ : ∃ s', s ++ [v] = s' := ⟨_, rfl⟩
              rw [hs'] at HIA
              have hoo := HOO.out
              dsimp only [Option.map_some] at hoo
              rw [hs'] at hoo
              have HOO2 := Lib.hid hoo
              clear hoo HRW HTR HGR HT4 HR4 HI2 HTV HMR HAT HOO hs'
              refine (rblanks_good C wa j5 d1 HRA.out).mono ?_
              rintro e w7 ⟨rfl, j6, hR7, hj6, _, hT7⟩
              have HT7 := Lib.hid (HTA.out.trans hT7)
              obtain ⟨svA, qsA, rA, hIA⟩ := HIA.out
              have HI7 := Lib.hid (hIA.turns hT7)
              have HR7 := Lib.hid hR7
              have HAF := Lib.hid (row_after HOO2.out (hj6.trans (by rw [HJ5.out])))
              obtain ⟨z7, hz7⟩ : ∃ z, nextV C.bs j6 = z := ⟨_, rfl⟩
              have HN7 := Lib.hid (next_good C w7 j6 d1 hR7 hz7)
              have hle7 := hR7.le
              clear hR7 hj6 hT7 hIA HIA HOO2
              go_wp2_with fail
              refine HN7.out.mono ?_
              rintro e w8 ⟨rfl, hb8⟩
              have hR8 := HR7.out.below hb8
              obtain ⟨_, c1, c2, _, z1⟩ := hR8.cells
              have HR8 := Lib.hid hR8
              have HT8 := Lib.hid (HT7.out.trans (Turns.below hb8))
              have HI8 := Lib.hid (HI7.out.turns (Turns.below hb8))
              clear hb8 hR8 HN7 HR7 HT7 HI7
              by_cases hcl : C.bs[j6]? = some 93
              · have hzc : z7 = 93 := by rw [← hz7, nextV_some hcl]; rfl
                subst hzc
                have hor := (HAF.out.2 _ hcl).1 rfl
                have hlt : j6 < C.s.size := by rw [Lib.size_eq]; exact (List.getElem?_eq_some_iff.1 hcl).1
                subst hor
                have HOM2 := Lib.hid HOM.out
                obtain ⟨j7, hj7⟩ : ∃ j7, j7 = j6 + 1 := ⟨_, rfl⟩
                have hjB : (j6 : Int) + 1 = (j7 : Int) := by omega
                have hwr4 : IntKind.i64.wrap (j7 : Int) = j7 := IntWalk.i64_in _ (by omega)
                have HJ7 := Lib.hid hj7
                have hle7' : j7 ≤ C.s.size := by omega
                clear hcl hz7 hj7 HAF hlt
                go_wp2_with fail
                go_ret
                have hoo := HOM2.out
                simp only [Option.map_some] at hoo
                subst hoo
                exact ⟨(HT8.out.trans (turns_set _ _ _ _)).trans (turns_set _ _ _ _), j7, q, rfl, (HR8.out.step j7 hle7').opens d, by rw [HJ7.out], br_made_list ((HI8.out.turns (turns_set _ _ _ _)).turns (turns_set _ _ _ _)) rfl (Nat.le_of_eq HQ.out)⟩
              · have hzc : (z7 == 93) = false := by
                  cases hx : C.bs[j6]? with
                  | none => rw [← hz7, nextV_none (List.getElem?_eq_none_iff.1 hx)]; rfl
                  | some c =>
                    rw [← hz7, nextV_some hx]
                    have h1 : c ≠ 93 := fun e => hcl (by rw [hx, e])
                    have h2 : c.toNat ≠ 93 := fun e => h1 (UInt8.toNat_inj.1 e)
                    simp; omega
                have HCL := Lib.hid hcl
                clear hcl c1 c2 z1 hz7
                go_wp2_with fail
                refine (rmust_good C w8 j6 d1 HR8.out 44).mono ?_
                rintro e w9 ⟨rfl, hT9, hm9⟩
                have HT9 := Lib.hid (HT8.out.trans hT9)
                have HI9 := Lib.hid (HI8.out.turns hT9)
                clear hT9
                by_cases h44 : C.bs[j6]? = some 44
                · rw [if_pos h44] at hm9
                  have hrow := ((HAF.out.2 _ h44).2 (by decide)).1 rfl
                  have HM9 := Lib.hid hm9
                  have HRO := Lib.hid hrow
                  clear hm9 hrow h44
                  go_wp2_with fail
                  go_roundw
                  case rel => exact ⟨HT9.out, .inl ⟨k + 1, j6 + 1, s', hk64, HM9.out, HRO.out, svA, qsA, rA, HI9.out⟩⟩
                  case measure => rw [brM_good HM9.out HI9.out, HME.out]; omega
                · rw [if_neg h44] at hm9
                  have hon : orow = none := by
                    cases hx : C.bs[j6]? with
                    | none => exact HAF.out.1 hx
                    | some c => exact ((HAF.out.2 _ hx).2 (fun e => HCL.out (by rw [hx, e]))).2 (fun e => h44 (by rw [hx, e]))
                  subst hon
                  have HM9 := Lib.hid hm9
                  clear hm9 h44
                  go_wp2_with fail
                  go_roundw
                  case rel => exact ⟨HT9.out, .inr ⟨HM9.out, rfl⟩⟩
                  case measure => rw [brM_bad HM9.out, HME.out]; omega

end Toc

namespace Toc
open Go Go.RowKit Go.Proofs

/-- A bracket's loop. -/
def BoLoop (C : RC) (w0 : World) (d q : Nat) (one : Bytes → Option (JV × Bytes)) (o : Option (List (Bytes × JV) × Bytes)) (wr : World) : Prop :=
  Turns [C.pb] w0 wr ∧ ((∃ (k j : Nat) (s : List (Bytes × JV)), k ≤ 64 ∧ Rd C wr j d ∧ rowL (memberL one) 125 (64 - k) s (C.bs.drop j) = o ∧ ∃ sv kv qs r, BrInv C q (q + 1) 5 k (s.map (·.1)) (s.map (·.2)) wr sv kv qs r) ∨ (Bd C wr d ∧ o = none))

theorem memberL_nil {one : Bytes → Option (JV × Bytes)} (_h : one [] = none) (s : List (Bytes × JV)) : memberL one s [] = none := rfl

set_option maxRecDepth 100000 in
set_option maxHeartbeats 16000000 in
theorem rbracket_object (C : RC) (w : World) (i d : Nat) (h : Rd C w i d) (hi : i < C.s.size) (hd : d ≤ 10) (one : Bytes → Option (JV × Bytes)) (hone : one [] = none)
    (IH : d < 10 → ∀ w i, Rd C w i (d + 1) → Calls Tryz.prog 155 #[ptrV C.pb] w fun x w' => RValOf C w (d + 1) (one (C.bs.drop i)) x w')
    {o : Option (JV × Bytes)} (ho : (if d = 10 then none else (rowTop (memberL one) 125 [] (C.bs.drop (i + 1))).map fun p => (JV.obj p.1, p.2)) = o) :
    Calls Tryz.prog 223 #[ptrV C.pb, .bool true] w fun x w' => RValOf C w d o x w' := by
  obtain ⟨i1, ki5, kz0, kz1, kz2⟩ := info_parts (show (Tryz.prog.info? 76).map (fun i => (i.zero, i.size, i.bytes)) = some (some (.pointer none), 1, 8) by kernel_rfl)
  have hpb : C.pb < w.heap.size := blk_lt h.blk
  have hsm := h.small
  obtain ⟨_, c1, c2, _, z1⟩ := h.cells
  have H := Lib.hid h
  have HO := Lib.hid ho
  have HIH := Lib.hid IH
  have c2a := fun o => cell_alloc c2 o
  have c1a := fun o => cell_alloc c1 o
  clear h ho IH
  go_enter Tryz.func223, Tryz.ntmps223
  by_cases h10 : d = 10
  · subst h10
    have ho := HO.out
    rw [if_pos rfl] at ho
    subst ho
    clear HO
    go_wp2_with fail
    refine (fail_good C _ i 10 (H.out.below ((Below.refl _ _).alloc (Nat.le_refl _) _)) i 21 (by decide)).mono ?_
    rintro e w2 ⟨rfl, hB, hT⟩
    have HT2 := Lib.hid (((Turns.refl [C.pb] w).alloc _).trans hT)
    have HB2 := Lib.hid hB
    clear hB hT
    go_wp2_with fail
    go_ret
    exact ⟨HT2.out, none, rfl, HB2.out⟩
  · have ho := HO.out
    rw [if_neg h10] at ho
    have h10' : ((d : Int) == 10) = false := by simp; omega
    obtain ⟨orow, hor⟩ : ∃ x, rowTop (memberL one) 125 [] (C.bs.drop (i + 1)) = x := ⟨_, rfl⟩
    rw [hor] at ho
    have HOM := Lib.hid ho
    have HIH2 := Lib.hid (HIH.out (by omega))
    clear ho HO HIH
    obtain ⟨d1, hd1⟩ : ∃ d1, d1 = d + 1 := ⟨_, rfl⟩
    have hdA : (d : Int) + 1 = (d1 : Int) := by omega
    have hdB : (d1 : Int) - 1 = (d : Int) := by omega
    obtain ⟨j1, hj1⟩ : ∃ j1, j1 = i + 1 := ⟨_, rfl⟩
    have hjA : (i : Int) + 1 = (j1 : Int) := by omega
    have hwr1 : IntKind.i64.wrap (j1 : Int) = j1 := IntWalk.i64_in _ (by omega)
    have hwr2 : IntKind.i64.wrap (d1 : Int) = d1 := IntWalk.i64_in _ (by omega)
    have hwr3 : IntKind.i64.wrap (d : Int) = d := IntWalk.i64_in _ (by omega)
    rw [← hj1] at hor
    rw [← hd1] at HIH2
    have HOR := Lib.hid hor
    have hR0 : Rd C ((w.setCell ⟨C.pb, 1, none⟩ (.int .i64 j1)).setCell ⟨C.pb, 2, none⟩ (.int .i64 d1)) j1 d1 := (H.out.step j1 (by omega)).opens d1
    have hT0 : Turns [C.pb] w ((w.setCell ⟨C.pb, 1, none⟩ (.int .i64 j1)).setCell ⟨C.pb, 2, none⟩ (.int .i64 d1)) := (turns_set _ _ _ _).trans (turns_set _ _ _ _)
    have hz0 : ((w.setCell ⟨C.pb, 1, none⟩ (.int .i64 j1)).setCell ⟨C.pb, 2, none⟩ (.int .i64 d1)).heap.size = w.heap.size := by simp [World.setCell]
    have HS0 := Lib.hid (And.intro hR0 (And.intro hT0 hz0))
    have HDN := Lib.hid h10
    clear hj1 hd1 hor hR0 hT0 hz0 h10
    go_upto_region 11 with fail
    have hR1 := HS0.out.1.below ((Below.refl _ _).alloc (Nat.le_refl _) (rvObj 5 false 0 emptyS nilS nilS))
    have hT1 := HS0.out.2.1.alloc (rvObj 5 false 0 emptyS nilS nilS)
    have hb1 := blk_new ((w.setCell ⟨C.pb, 1, none⟩ (.int .i64 j1)).setCell ⟨C.pb, 2, none⟩ (.int .i64 d1)) (rvObj 5 false 0 emptyS nilS nilS)
    rw [HS0.out.2.2] at hb1
    obtain ⟨q, hq⟩ : ∃ q, w.heap.size = q := ⟨_, rfl⟩
    rw [hq] at hb1 hpb
    rw [hq]
    have HQ := Lib.hid hq
    have HS1 := Lib.hid (And.intro hR1 (And.intro hT1 hb1))
    have HI1 := Lib.hid (br_start hb1 hpb)
    clear hR1 hT1 hb1 hq c1 c2 c1a c2a z1 HS0
    rw [show Obj.cells #[Value.int IntKind.i64 5, Value.bool false, Value.int IntKind.i64 0, Value.string { data := #[] }, Value.slice none 0 0, Value.slice none 0 0] 241 = rvObj 5 false 0 emptyS nilS nilS from rfl]
    generalize ((w.setCell ⟨C.pb, 1, none⟩ (.int .i64 j1)).setCell ⟨C.pb, 2, none⟩ (.int .i64 d1)).alloc (rvObj 5 false 0 emptyS nilS nilS) = w1 at *
    go_wp2_with fail
    refine (rblanks_good C w1 j1 d1 HS1.out.1).mono ?_
    rintro e w2 ⟨rfl, j2, hR2, hj2, _, hT2⟩
    have HR2 := Lib.hid hR2
    have HT2 := Lib.hid (HS1.out.2.1.trans hT2)
    have HI2 := Lib.hid (HI1.out.turns hT2)
    obtain ⟨z, hz⟩ : ∃ z, nextV C.bs j2 = z := ⟨_, rfl⟩
    have HN2 := Lib.hid (next_good C w2 j2 d1 hR2 hz)
    have HBG := Lib.hid (row_begin HOR.out hj2 (memberL_nil hone))
    have hle2 := hR2.le
    clear hR2 hj2 hT2 HS1 HI1 HOR
    go_wp2_with fail
    refine HN2.out.mono ?_
    rintro e w3 ⟨rfl, hb3⟩
    have hR3 := HR2.out.below hb3
    obtain ⟨_, c1, c2, _, z1⟩ := hR3.cells
    have HR3 := Lib.hid hR3
    have HT3 := Lib.hid (HT2.out.trans (Turns.below hb3))
    have HI3 := Lib.hid (HI2.out.turns (Turns.below hb3))
    clear hb3 hR3 HN2 HR2 HT2 HI2
    by_cases hcl : C.bs[j2]? = some 125
    · have hzc : z = 125 := by rw [← hz, nextV_some hcl]; rfl
      subst hzc
      have hor := (HBG.out.2 _ hcl).1 rfl
      have hlt : j2 < C.s.size := by rw [Lib.size_eq]; exact (List.getElem?_eq_some_iff.1 hcl).1
      subst hor
      have hom := HOM.out
      have HOM2 := Lib.hid hom
      obtain ⟨j3, hj3⟩ : ∃ j3, j3 = j2 + 1 := ⟨_, rfl⟩
      have hjB : (j2 : Int) + 1 = (j3 : Int) := by omega
      have hwr4 : IntKind.i64.wrap (j3 : Int) = j3 := IntWalk.i64_in _ (by omega)
      have HJ3 := Lib.hid hj3
      have hle3 : j3 ≤ C.s.size := by omega
      clear hcl hz hj3 hom HBG HOM hlt
      go_wp2_with fail
      go_ret
      have hoo := HOM2.out
      simp only [Option.map_some] at hoo
      subst hoo
      exact ⟨(HT3.out.trans (turns_set _ _ _ _)).trans (turns_set _ _ _ _), j3, q, rfl, (HR3.out.step j3 hle3).opens d, by rw [HJ3.out], br_made_obj ((HI3.out.turns (turns_set _ _ _ _)).turns (turns_set _ _ _ _)) (Nat.le_of_eq HQ.out)⟩
    · have hzc : (z == 125) = false := by
        cases hx : C.bs[j2]? with
        | none => rw [← hz, nextV_none (List.getElem?_eq_none_iff.1 hx)]; rfl
        | some c =>
          rw [← hz, nextV_some hx]
          have h1 : c ≠ 125 := fun e => hcl (by rw [hx, e])
          have h2 : c.toNat ≠ 125 := fun e => h1 (UInt8.toNat_inj.1 e)
          simp; omega
      have hrow : rowL (memberL one) 125 64 [] (C.bs.drop j2) = orow := by
        cases hx : C.bs[j2]? with
        | none => exact HBG.out.1 hx
        | some c => exact (HBG.out.2 _ hx).2 (fun e => hcl (by rw [hx, e]))
      have HL0 := Lib.hid (show BoLoop C w d1 q one orow w3 from ⟨HT3.out, .inl ⟨0, j2, [], by omega, HR3.out, hrow, nilS, nilS, [], _, HI3.out⟩⟩)
      clear hcl hrow HBG HT3 HI3 HR3 hz c1 c2 z1
      go_wp2_with fail
      go_loopw [] (fun wr => BoLoop C w d1 q one orow wr) (fun wr => brM C q wr)
      case atStart => exact HL0.out
      case round =>
        obtain ⟨hT, ⟨k, j, s, hk, hR, hrow, sv, kv, qs, r, hI⟩ | ⟨hB, hon⟩⟩ := hrel
        rotate_left
        · subst hon
          have HB := Lib.hid hB
          have HT := Lib.hid hT
          obtain ⟨ii, ee, aa, q1, q2, q3, q4⟩ := HB.out
          have c2 : wr.cell? ⟨C.pb, 2, none⟩ = some (.int .i64 d1) := blk_cell q4 2
          have c3 : wr.cell? ⟨C.pb, 3, none⟩ = some (.int .i64 ee) := blk_cell q4 3
          have z1 := fun o => blk_free q4 o
          have hee : (ee == 0) = false := by simpa using q1
          clear hB hT q4 q1 HL0
          go_wp2_with fail
          go_ret
          have hoo := HOM.out
          simp only [Option.map_none] at hoo
          subst hoo
          exact ⟨HT.out.trans (turns_set _ _ _ _), _, rfl, HB.out.opens d⟩
        have hme := brM_good hR hI
        obtain ⟨_, _, _, c3, _⟩ := hR.cells
        have HT := Lib.hid hT
        have HR := Lib.hid hR
        have HROW := Lib.hid hrow
        have HI := Lib.hid hI
        have HME := Lib.hid hme
        clear hT hR hrow hI hme HL0
        go_wp2_with fail
        refine (rblanks_good C wr j d1 HR.out).mono ?_
        rintro e w1 ⟨rfl, j2, hR1, hj1, _, hT1⟩
        have HIT := Lib.hid (row_item (memberL_nil hone) hk HROW.out hj1)
        have HT1 := Lib.hid (HT.out.trans hT1)
        have HI1 := Lib.hid (HI.out.turns hT1)
        have HR1 := Lib.hid hR1
        obtain ⟨z, hz⟩ : ∃ z, nextV C.bs j2 = z := ⟨_, rfl⟩
        have HN := Lib.hid (next_good C w1 j2 d1 hR1 hz)
        have hzr := nextV_rangeR C.bs j2
        rw [hz] at hzr
        obtain ⟨hzr1, hzr2⟩ := hzr
        obtain ⟨sa, sc, hsv, hsc⟩ := own_slice HI1.out.at_.items
        have HZ := Lib.hid hz
        clear hT1 hR1 hj1 HT HI HR HROW hz c3
        go_upto_region 18 with fail
        go_cut [78] (fun s78 wy => s78 = .bool (decide (0 ≤ z) && decide (k = 64)) ∧ Below w1.heap.size w1 wy)
        case first =>
          go_wp2_with fail
          refine HN.out.mono ?_
          rintro e w2 ⟨rfl, hb2⟩
          have hblk := (HI1.out.turns (Turns.below hb2)).at_.blk
          unfold rvObj at hblk
          have e4 : w2.cell? ⟨q, 4, none⟩ = some sv := blk_cell hblk 4
          rw [hsv] at e4
          have HB2 := Lib.hid hb2
          clear hb2 hblk
          by_cases h0 : 0 ≤ z
          · by_cases h64 : (k : Int) = 64
            · go_wp2_with fail
              go_meet
              refine ⟨?_, HB2.out⟩
              have : k = 64 := by omega
              simp [h0, this]
            · go_wp2_with fail
              go_meet
              refine ⟨?_, HB2.out⟩
              have : ¬ k = 64 := by omega
              simp [h0, this] <;> omega
          · go_wp2_with fail
            go_meet
            refine ⟨?_, HB2.out⟩
            have h0' : (decide (0 ≤ z)) = false := by simpa using h0
            rw [h0']; rfl
        case rest =>
          obtain ⟨rfl, hb2⟩ := hcut
          have HT2 := Lib.hid (HT1.out.trans (Turns.below hb2))
          have HI2 := Lib.hid (HI1.out.turns (Turns.below hb2))
          have HR2 := Lib.hid (HR1.out.below hb2)
          obtain ⟨bf, hbf⟩ : ∃ b : Bool, (decide (0 ≤ z) && decide (k = 64)) = b := ⟨_, rfl⟩
          rw [hbf]
          obtain ⟨_, c1, _, c3, _⟩ := HR2.out.cells
          have hpbn : C.pb ∉ rvS q sv kv := fun hm => by
            have h1 := (rvS_lt HI1.out.at_ _ hm).1
            have h2 := HI1.out.pb
            rcases h1 with h | ⟨h, _⟩ <;> omega
          have hS0 : ∀ b ∈ rvS q sv kv, b ∈ [C.pb] ∨ w.heap.size ≤ b := fun b hm => by
            have h1 := (rvS_lt HI1.out.at_ _ hm).1
            have h3 := HQ.out
            rcases h1 with h | ⟨h, _⟩
            · exact .inr (by omega)
            · exact .inr (by omega)
          have HPB := Lib.hid (And.intro hpbn hS0)
          clear hb2 hpbn hS0 HT1 HR1 hsv hsc
          cases bf with
          | true =>
            have hk64 : k = 64 := by
              have := hbf
              simp only [Bool.and_eq_true, decide_eq_true_eq] at this
              exact this.2
            have hon : orow = none := HIT.out.2 hk64
            subst hon
            have HK := Lib.hid hk64
            clear hbf hk64
            go_wp2_with fail
            refine (fail_good C wc j2 d1 HR2.out j2 22 (by decide)).mono ?_
            rintro e w3 ⟨rfl, hB3, hT3⟩
            have HT3 := Lib.hid (HT2.out.trans hT3)
            have HI3 := Lib.hid (HI2.out.turns hT3)
            have HB3 := Lib.hid hB3
            clear hB3 hT3 c1 c3
            go_wp2_with fail
            refine (rmember_bad C w3 d1 HB3.out q).mono ?_
            rintro e w4 ⟨rfl, hb4⟩
            have HT4 := Lib.hid (HT3.out.trans (Turns.below hb4))
            have HB4 := Lib.hid (HB3.out.below hb4)
            clear hb4
            go_wp2_with fail
            refine (rblanks_bad C w4 d1 HB4.out).mono ?_
            rintro e w7 ⟨rfl, hb7⟩
            have HT7 := Lib.hid (HT4.out.trans (Turns.below hb7))
            have HB7 := Lib.hid (HB4.out.below hb7)
            clear hb7
            go_wp2_with fail
            refine (next_bad C w7 d1 HB7.out).mono ?_
            rintro e w8 ⟨rfl, hb8⟩
            have HT8 := Lib.hid (HT7.out.trans (Turns.below hb8))
            have HB8 := Lib.hid (HB7.out.below hb8)
            clear hb8
            go_wp2_with fail
            refine (rmust_bad C w8 d1 HB8.out 44).mono ?_
            rintro e w9 ⟨rfl, hb9⟩
            have HT9 := Lib.hid (HT8.out.trans (Turns.below hb9))
            have HB9 := Lib.hid (HB8.out.below hb9)
            clear hb9
            go_wp2_with fail
            go_roundw
            case rel => exact ⟨HT9.out, .inr ⟨HB9.out, rfl⟩⟩
            case measure => rw [brM_bad HB9.out, HME.out]; omega
          | false =>
            have hnf : z < 0 ∨ k < 64 := by
              have := hbf
              simp only [Bool.and_eq_false_iff, decide_eq_false_iff_not] at this
              omega
            obtain ⟨om, hom⟩ : ∃ x, memberL one s (C.bs.drop j2) = x := ⟨_, rfl⟩
            have hend : om ≠ none → k < 64 := fun hne => by
              rcases hnf with h0 | h0
              · exfalso
                cases hx : C.bs[j2]? with
                | none => exact hne (by rw [← hom, List.drop_eq_nil_of_le (List.getElem?_eq_none_iff.1 hx)]; rfl)
                | some c => have := HZ.out; rw [nextV_some hx] at this; omega
              · exact h0
            have hono : om = none → orow = none := fun hn => by
              by_cases h64 : k < 64
              · rw [HIT.out.1 h64, hom, hn]
              · exact HIT.out.2 (by omega)
            have HV := Lib.hid (rmember_any C w wc j2 d1 HR2.out HT2.out one hone HIH2.out (Nat.le_of_eq HQ.out) hk s HI2.out hom)
            have HOV := Lib.hid hom
            have HEN := Lib.hid (And.intro hend hono)
            clear hbf hnf hom hend hono c1 c3
            go_wp2_with fail
            refine HV.out.mono ?_
            rintro e wa ⟨rfl, hTA, hret⟩
            have HTA := Lib.hid hTA
            clear hTA
            cases om with
            | none =>
              have hon : orow = none := HEN.out.2 rfl
              subst hon
              have HBA := Lib.hid hret
              clear hret
              go_wp2_with fail
              refine (rblanks_bad C wa d1 HBA.out).mono ?_
              rintro e w7 ⟨rfl, hb7⟩
              have HT7 := Lib.hid (HTA.out.trans (Turns.below hb7))
              have HB7 := Lib.hid (HBA.out.below hb7)
              clear hb7
              go_wp2_with fail
              refine (next_bad C w7 d1 HB7.out).mono ?_
              rintro e w8 ⟨rfl, hb8⟩
              have HT8 := Lib.hid (HT7.out.trans (Turns.below hb8))
              have HB8 := Lib.hid (HB7.out.below hb8)
              clear hb8
              go_wp2_with fail
              refine (rmust_bad C w8 d1 HB8.out 44).mono ?_
              rintro e w9 ⟨rfl, hb9⟩
              have HT9 := Lib.hid (HT8.out.trans (Turns.below hb9))
              have HB9 := Lib.hid (HB8.out.below hb9)
              clear hb9
              go_wp2_with fail
              go_roundw
              case rel => exact ⟨HT9.out, .inr ⟨HB9.out, rfl⟩⟩
              case measure => rw [brM_bad HB9.out, HME.out]; omega
            | some pr =>
              obtain ⟨s', l6⟩ := pr
              obtain ⟨j5, hRA, hj5, hIA⟩ := hret
              have hk64 : k < 64 := HEN.out.1 (by simp)
              have hoo := HIT.out.1 hk64
              rw [HOV.out] at hoo
              have HOO2 := Lib.hid hoo
              have HRA := Lib.hid hRA
              have HJ5 := Lib.hid hj5
              have HIA := Lib.hid hIA
              clear hRA hj5 hIA hoo HIT HOV HEN HV
              go_wp2_with fail
              refine (rblanks_good C wa j5 d1 HRA.out).mono ?_
              rintro e w7 ⟨rfl, j6, hR7, hj6, _, hT7⟩
              have HT7 := Lib.hid (HTA.out.trans hT7)
              obtain ⟨svA, kvA, qsA, rA, hIA⟩ := HIA.out
              have HI7 := Lib.hid (hIA.turns hT7)
              have HR7 := Lib.hid hR7
              have HAF := Lib.hid (row_after HOO2.out (hj6.trans (by rw [HJ5.out])))
              obtain ⟨z7, hz7⟩ : ∃ z, nextV C.bs j6 = z := ⟨_, rfl⟩
              have HN7 := Lib.hid (next_good C w7 j6 d1 hR7 hz7)
              have hle7 := hR7.le
              clear hR7 hj6 hT7 hIA HIA HOO2
              go_wp2_with fail
              refine HN7.out.mono ?_
              rintro e w8 ⟨rfl, hb8⟩
              have hR8 := HR7.out.below hb8
              obtain ⟨_, c1, c2, _, z1⟩ := hR8.cells
              have HR8 := Lib.hid hR8
              have HT8 := Lib.hid (HT7.out.trans (Turns.below hb8))
              have HI8 := Lib.hid (HI7.out.turns (Turns.below hb8))
              clear hb8 hR8 HN7 HR7 HT7 HI7
              by_cases hcl : C.bs[j6]? = some 125
              · have hzc : z7 = 125 := by rw [← hz7, nextV_some hcl]; rfl
                subst hzc
                have hor := (HAF.out.2 _ hcl).1 rfl
                have hlt : j6 < C.s.size := by rw [Lib.size_eq]; exact (List.getElem?_eq_some_iff.1 hcl).1
                subst hor
                have HOM2 := Lib.hid HOM.out
                obtain ⟨j7, hj7⟩ : ∃ j7, j7 = j6 + 1 := ⟨_, rfl⟩
                have hjB : (j6 : Int) + 1 = (j7 : Int) := by omega
                have hwr4 : IntKind.i64.wrap (j7 : Int) = j7 := IntWalk.i64_in _ (by omega)
                have HJ7 := Lib.hid hj7
                have hle7' : j7 ≤ C.s.size := by omega
                clear hcl hz7 hj7 HAF hlt
                go_wp2_with fail
                go_ret
                have hoo := HOM2.out
                simp only [Option.map_some] at hoo
                subst hoo
                exact ⟨(HT8.out.trans (turns_set _ _ _ _)).trans (turns_set _ _ _ _), j7, q, rfl, (HR8.out.step j7 hle7').opens d, by rw [HJ7.out], br_made_obj ((HI8.out.turns (turns_set _ _ _ _)).turns (turns_set _ _ _ _)) (Nat.le_of_eq HQ.out)⟩
              · have hzc : (z7 == 125) = false := by
                  cases hx : C.bs[j6]? with
                  | none => rw [← hz7, nextV_none (List.getElem?_eq_none_iff.1 hx)]; rfl
                  | some c =>
                    rw [← hz7, nextV_some hx]
                    have h1 : c ≠ 125 := fun e => hcl (by rw [hx, e])
                    have h2 : c.toNat ≠ 125 := fun e => h1 (UInt8.toNat_inj.1 e)
                    simp; omega
                have HCL := Lib.hid hcl
                clear hcl c1 c2 z1 hz7
                go_wp2_with fail
                refine (rmust_good C w8 j6 d1 HR8.out 44).mono ?_
                rintro e w9 ⟨rfl, hT9, hm9⟩
                have HT9 := Lib.hid (HT8.out.trans hT9)
                have HI9 := Lib.hid (HI8.out.turns hT9)
                clear hT9
                by_cases h44 : C.bs[j6]? = some 44
                · rw [if_pos h44] at hm9
                  have hrow := ((HAF.out.2 _ h44).2 (by decide)).1 rfl
                  have HM9 := Lib.hid hm9
                  have HRO := Lib.hid hrow
                  clear hm9 hrow h44
                  go_wp2_with fail
                  go_roundw
                  case rel => exact ⟨HT9.out, .inl ⟨k + 1, j6 + 1, s', hk64, HM9.out, HRO.out, svA, kvA, qsA, rA, HI9.out⟩⟩
                  case measure => rw [brM_good HM9.out HI9.out, HME.out]; omega
                · rw [if_neg h44] at hm9
                  have hon : orow = none := by
                    cases hx : C.bs[j6]? with
                    | none => exact HAF.out.1 hx
                    | some c => exact ((HAF.out.2 _ hx).2 (fun e => HCL.out (by rw [hx, e]))).2 (fun e => h44 (by rw [hx, e]))
                  subst hon
                  have HM9 := Lib.hid hm9
                  clear hm9 h44
                  go_wp2_with fail
                  go_roundw
                  case rel => exact ⟨HT9.out, .inr ⟨HM9.out, rfl⟩⟩
                  case measure => rw [brM_bad HM9.out, HME.out]; omega

end Toc

namespace Toc
open Go Go.RowKit Go.Proofs

theorem RValOf.after {C : RC} {w w1 : World} {d : Nat} {o : Option (JV × Bytes)} {x : Ending} {w' : World} (hT : Turns [C.pb] w w1) (h : RValOf C w1 d o x w') : RValOf C w d o x w' := by
  obtain ⟨h1, h2⟩ := h
  refine ⟨hT.trans h1, ?_⟩
  cases o with
  | none => exact h2
  | some p =>
    obtain ⟨v, t⟩ := p
    obtain ⟨j, q, e, h3, h4, h5⟩ := h2
    exact ⟨j, q, e, h3, h4, h5.mono hT.size⟩
theorem valueL_nil (n : Nat) : valueL n [] = none := by cases n <;> rfl
theorem valueL_plain {n : Nat} {c : UInt8} {l : Bytes} (h1 : c ≠ 91) (h2 : c ≠ 123) : valueL n (c :: l) = plainL c l := by
  cases n with
  | zero => rw [valueL, if_neg (by simp [h1, h2])]
  | succ n => rw [valueL, if_neg (by simpa using h1), if_neg (by simpa using h2)]

set_option maxRecDepth 100000 in
set_option maxHeartbeats 8000000 in
theorem rvalue_step (C : RC) (w : World) (i d n : Nat) (h : Rd C w i d)
    (hB : ∀ w', Rd C w' i d → C.bs[i]? = some 91 → Calls Tryz.prog 223 #[ptrV C.pb, .bool false] w' fun x w'' => RValOf C w' d (valueL n (C.bs.drop i)) x w'')
    (hO : ∀ w', Rd C w' i d → C.bs[i]? = some 123 → Calls Tryz.prog 223 #[ptrV C.pb, .bool true] w' fun x w'' => RValOf C w' d (valueL n (C.bs.drop i)) x w'')
    {o : Option (JV × Bytes)} (ho : valueL n (C.bs.drop i) = o) :
    Calls Tryz.prog 155 #[ptrV C.pb] w fun x w' => RValOf C w d o x w' := by
  obtain ⟨z, hz⟩ : ∃ z, nextV C.bs i = z := ⟨_, rfl⟩
  have HN := Lib.hid (next_good C w i d h hz)
  have HO := Lib.hid ho
  have HBL := Lib.hid hB
  have HBO := Lib.hid hO
  have HR := Lib.hid h
  clear h ho hB hO
  cases hck : C.bs[i]? with
  | none =>
    have hzz : z = -1 := by rw [← hz, nextV_none (List.getElem?_eq_none_iff.1 hck)]
    subst hzz
    have hoo : o = none := by
      rw [← HO.out, List.drop_eq_nil_of_le (List.getElem?_eq_none_iff.1 hck), valueL_nil]
    subst hoo
    clear hck hz
    go_enter Tryz.func155, Tryz.ntmps155
    go_wp2_with fail
    refine HN.out.mono ?_
    rintro e w1 ⟨rfl, hb1⟩
    have hR1 := HR.out.below hb1
    obtain ⟨_, c1, _, _, _⟩ := hR1.cells
    have HR1 := Lib.hid hR1
    have HB1 := Lib.hid hb1
    clear hb1 hR1
    go_wp2_with fail
    refine (rletter_any (-1) (b := false) (by decide) _).mono ?_
    rintro e w2 ⟨rfl, rfl⟩
    go_wp2_with fail
    refine (rdigit_any (-1) (b := false) (by decide) _).mono ?_
    rintro e w2 ⟨rfl, rfl⟩
    go_wp2_with fail
    refine (fail_good C _ i d HR1.out i 20 (by decide)).mono ?_
    rintro e w2 ⟨rfl, hB, hT⟩
    have HT2 := Lib.hid ((Turns.below (S := [C.pb]) HB1.out).trans hT)
    have HB2 := Lib.hid hB
    clear hB hT
    go_wp2_with fail
    go_ret
    exact ⟨HT2.out, none, rfl, HB2.out⟩
  | some c =>
    have hzc : z = c.toNat := by rw [← hz, nextV_some hck]
    have hdk : C.bs.drop i = c :: C.bs.drop (i + 1) := by
      obtain ⟨l0, e0⟩ := List.getElem?_eq_some_iff.1 hck
      rw [List.drop_eq_getElem_cons l0, e0]
    obtain ⟨bl, hbl⟩ : ∃ b, letterB c = b := ⟨_, rfl⟩
    obtain ⟨bd, hbd⟩ : ∃ b, digitB c = b := ⟨_, rfl⟩
    have HL := Lib.hid (fun wx => rletter_any z (b := bl) (by rw [hzc, letterI_of]; exact hbl) wx)
    have HD := Lib.hid (fun wx => rdigit_any z (b := bd) (by rw [hzc, digitI_of]; exact hbd) wx)
    have hne : ∀ k : Nat, k < 256 → c ≠ UInt8.ofNat k → (z == (k : Int)) = false := fun k hk hc => by
      have h1 : c.toNat ≠ k := fun e => hc (by rw [← e]; simp)
      rw [hzc]; simp; omega
    have HNE := Lib.hid hne
    have HDK := Lib.hid hdk
    have HCK := Lib.hid hck
    have HZC := Lib.hid hzc
    have HBLB := Lib.hid (And.intro hbl hbd)
    clear hzc hdk hbl hbd hz hne hck
    go_enter Tryz.func155, Tryz.ntmps155
    go_wp2_with fail
    refine HN.out.mono ?_
    rintro e w1 ⟨rfl, hb1⟩
    have hR1 := HR.out.below hb1
    obtain ⟨_, c1, _, _, _⟩ := hR1.cells
    have HR1 := Lib.hid hR1
    have HT1 := Lib.hid (Turns.below (S := [C.pb]) hb1)
    clear hb1 hR1
    go_wp2_with fail
    refine (HL.out _).mono ?_
    rintro e w2 ⟨rfl, rfl⟩
    go_wp2_with fail
    refine (HD.out _).mono ?_
    rintro e w2 ⟨rfl, rfl⟩
    cases bl with
    | true =>
      have hvl : wordL (C.bs.drop i) = o := by
        rw [← HO.out, HDK.out, valueL_plain (fun e => by have := HBLB.out.1; rw [e] at this; cases this) (fun e => by have := HBLB.out.1; rw [e] at this; cases this)]
        unfold plainL
        rw [if_pos HBLB.out.1]
      have HW := Lib.hid (rword_any C w1 i d HR1.out hvl)
      clear hvl
      go_wp2_with fail
      refine HW.out.mono ?_
      intro x w3 hv
      have HV := Lib.hid (hv.after HT1.out)
      obtain ⟨pv, rfl⟩ : ∃ p, x = .returned (.pointer p) := by
        obtain ⟨_, h2⟩ := hv
        cases o with
        | none => obtain ⟨p, e, _⟩ := h2; exact ⟨p, e⟩
        | some pr => obtain ⟨_, q, e, _⟩ := h2; exact ⟨_, e⟩
      clear hv
      go_wp2_with fail
      go_ret
      exact HV.out
    | false =>
      by_cases hnum : (bd || c == 45) = true
      · have hvl : numberL (C.bs.drop i) = o := by
          have h91 : c ≠ 91 := fun e => by have h1 := HBLB.out.2; rw [e] at h1 hnum; rw [← h1] at hnum; exact absurd hnum (by decide)
          have h123 : c ≠ 123 := fun e => by have h1 := HBLB.out.2; rw [e] at h1 hnum; rw [← h1] at hnum; exact absurd hnum (by decide)
          rw [← HO.out, HDK.out, valueL_plain h91 h123]
          unfold plainL
          rw [if_neg (by rw [HBLB.out.1]; decide), HBLB.out.2, if_pos hnum]
        have HW := Lib.hid (rnumber_any C w1 i d HR1.out hvl)
        have h45 : bd = true ∨ (bd = false ∧ (z == 45) = true) := by
          cases bd with
          | true => exact .inl rfl
          | false =>
            refine .inr ⟨rfl, ?_⟩
            have : c = 45 := by simpa using hnum
            rw [HZC.out, this]; rfl
        clear hvl hnum
        rcases h45 with rfl | ⟨rfl, h45⟩
        all_goals
          go_wp2_with fail
          refine HW.out.mono ?_
          intro x w3 hv
          have HV := Lib.hid (hv.after HT1.out)
          obtain ⟨pv, rfl⟩ : ∃ p, x = .returned (.pointer p) := by
            obtain ⟨_, h2⟩ := hv
            cases o with
            | none => obtain ⟨p, e, _⟩ := h2; exact ⟨p, e⟩
            | some pr => obtain ⟨_, q, e, _⟩ := h2; exact ⟨_, e⟩
          clear hv
          go_wp2_with fail
          go_ret
          exact HV.out
      · have hbf : bd = false ∧ c ≠ 45 := by
          cases bd with
          | true => exact absurd rfl hnum
          | false => exact ⟨rfl, fun e => hnum (by rw [e]; rfl)⟩
        obtain ⟨rfl, h45⟩ := hbf
        have n45 : (z == 45) = false := HNE.out 45 (by decide) h45
        have HNU := Lib.hid hnum
        clear hnum
        by_cases h34 : c = 34
        · have hz34 : z = 34 := by rw [HZC.out, h34]; rfl
          subst hz34
          have hvl : (qtextL (C.bs.drop i)).map (fun p => (JV.text p.1, p.2)) = o := by
            have hx : C.bs[i]? = some 34 := by rw [HCK.out, h34]
            rw [qtextL_hit hx, ← HO.out, HDK.out, h34, valueL_plain (by decide) (by decide)]
            rfl
          obtain ⟨ot, hot⟩ : ∃ x, qtextL (C.bs.drop i) = x := ⟨_, rfl⟩
          rw [hot] at hvl
          have HW := Lib.hid (rtext_good C w1 i d HR1.out hot)
          have HVL := Lib.hid hvl
          clear hot hvl h34
          go_wp2_with fail
          refine HW.out.mono ?_
          rintro e w3 ⟨hT3, hret⟩
          have HT3 := Lib.hid (HT1.out.trans hT3)
          clear hT3
          cases ot with
          | none =>
            obtain ⟨rfl, hB⟩ := hret
            have HB := Lib.hid hB
            have hoo : o = none := HVL.out.symm
            subst hoo
            clear hB
            go_wp2_with fail
            go_ret
            exact ⟨HT3.out.alloc _, _, rfl, HB.out.below ((Below.refl _ _).alloc (Nat.le_refl _) _)⟩
          | some pr =>
            obtain ⟨t, l2⟩ := pr
            obtain ⟨j, rfl, hR3, hj3⟩ := hret
            have hoo : o = some (JV.text t, l2) := HVL.out.symm
            subst hoo
            obtain ⟨st, hst⟩ : ∃ x, mkS t = x := ⟨_, rfl⟩
            rw [hst]
            have HR3 := Lib.hid hR3
            have HJ3 := Lib.hid hj3
            have HST := Lib.hid hst
            clear hR3 hj3 hst
            go_wp2_with fail
            go_ret
            refine ⟨HT3.out.alloc _, j, _, rfl, HR3.out.below ((Below.refl _ _).alloc (Nat.le_refl _) _), HJ3.out, MadeR.one (by have := HT3.out.size; exact this) (blk_new _ _) (fun r h => .text ?_)⟩
            rw [HST.out]; exact h
        · have n34 : (z == 34) = false := HNE.out 34 (by decide) h34
          by_cases h91 : c = 91
          · have hz91 : z = 91 := by rw [HZC.out, h91]; rfl
            subst hz91
            have HW := Lib.hid (HBL.out w1 HR1.out (by rw [HCK.out, h91]))
            rw [HO.out] at HW
            go_wp2_with fail
            refine HW.out.mono ?_
            intro x w3 hv
            have HV := Lib.hid (hv.after HT1.out)
            obtain ⟨pv, rfl⟩ : ∃ p, x = .returned (.pointer p) := by
              obtain ⟨_, h2⟩ := hv
              cases o with
              | none => obtain ⟨p, e, _⟩ := h2; exact ⟨p, e⟩
              | some pr => obtain ⟨_, q, e, _⟩ := h2; exact ⟨_, e⟩
            clear hv
            go_wp2_with fail
            go_ret
            exact HV.out
          · have n91 : (z == 91) = false := HNE.out 91 (by decide) h91
            by_cases h123 : c = 123
            · have hz123 : z = 123 := by rw [HZC.out, h123]; rfl
              subst hz123
              have HW := Lib.hid (HBO.out w1 HR1.out (by rw [HCK.out, h123]))
              rw [HO.out] at HW
              go_wp2_with fail
              refine HW.out.mono ?_
              intro x w3 hv
              have HV := Lib.hid (hv.after HT1.out)
              obtain ⟨pv, rfl⟩ : ∃ p, x = .returned (.pointer p) := by
                obtain ⟨_, h2⟩ := hv
                cases o with
                | none => obtain ⟨p, e, _⟩ := h2; exact ⟨p, e⟩
                | some pr => obtain ⟨_, q, e, _⟩ := h2; exact ⟨_, e⟩
              clear hv
              go_wp2_with fail
              go_ret
              exact HV.out
            · have n123 : (z == 123) = false := HNE.out 123 (by decide) h123
              have hoo : o = none := by
                rw [← HO.out, HDK.out, valueL_plain h91 h123]
                unfold plainL
                rw [if_neg (by rw [HBLB.out.1]; decide), HBLB.out.2, if_neg HNU.out, if_neg (by simpa using h34)]
              subst hoo
              clear h91 h123 h34 h45
              go_wp2_with fail
              refine (fail_good C _ i d HR1.out i 20 (by decide)).mono ?_
              rintro e w3 ⟨rfl, hB, hT⟩
              have HT2 := Lib.hid (HT1.out.trans hT)
              have HB2 := Lib.hid hB
              clear hB hT
              go_wp2_with fail
              go_ret
              exact ⟨HT2.out, none, rfl, HB2.out⟩

theorem rvalue_any (C : RC) : ∀ (n d : Nat), d + n = 10 → ∀ (w : World) (i : Nat), Rd C w i d → Calls Tryz.prog 155 #[ptrV C.pb] w fun x w' => RValOf C w d (valueL n (C.bs.drop i)) x w' := by
  intro n
  induction n with
  | zero =>
    intro d hd w i h
    have hdx : d = 10 := by omega
    have hdk : ∀ c, C.bs[i]? = some c → C.bs.drop i = c :: C.bs.drop (i + 1) := fun c hc => by
      obtain ⟨l0, e0⟩ := List.getElem?_eq_some_iff.1 hc
      rw [List.drop_eq_getElem_cons l0, e0]
    have hlt : ∀ c, C.bs[i]? = some c → i < C.s.size := fun c hc => by rw [Lib.size_eq]; exact (List.getElem?_eq_some_iff.1 hc).1
    refine rvalue_step C w i d 0 h (fun w' h' hc => ?_) (fun w' h' hc => ?_) rfl
    · exact rbracket_list C w' i d h' (hlt _ hc) (by omega) (fun _ => none) rfl (fun hx => by omega) (by rw [hdk _ hc, if_pos hdx]; rfl)
    · exact rbracket_object C w' i d h' (hlt _ hc) (by omega) (fun _ => none) rfl (fun hx => by omega) (by rw [hdk _ hc, if_pos hdx]; rfl)
  | succ n ih =>
    intro d hd w i h
    have hdx : ¬ d = 10 := by omega
    have hdk : ∀ c, C.bs[i]? = some c → C.bs.drop i = c :: C.bs.drop (i + 1) := fun c hc => by
      obtain ⟨l0, e0⟩ := List.getElem?_eq_some_iff.1 hc
      rw [List.drop_eq_getElem_cons l0, e0]
    have hlt : ∀ c, C.bs[i]? = some c → i < C.s.size := fun c hc => by rw [Lib.size_eq]; exact (List.getElem?_eq_some_iff.1 hc).1
    refine rvalue_step C w i d (n + 1) h (fun w' h' hc => ?_) (fun w' h' hc => ?_) rfl
    · exact rbracket_list C w' i d h' (hlt _ hc) (by omega) (valueL n) (valueL_nil n) (fun _ w i h => ih (d + 1) (by omega) w i h) (by rw [hdk _ hc, if_neg hdx, valueL]; rfl)
    · exact rbracket_object C w' i d h' (hlt _ hc) (by omega) (valueL n) (valueL_nil n) (fun _ w i h => ih (d + 1) (by omega) w i h) (by rw [hdk _ hc, if_neg hdx, valueL]; rfl)

end Toc

namespace Toc
open Go Go.RowKit Go.Proofs

/-- What the document's Parse gives. -/
def RParse (w : World) (o : Option JV) (e : Ending) (w' : World) : Prop :=
  Below w.heap.size w w' ∧
  match o with
  | some v => ∃ q, e = .returned (.tuple #[ptrV q, .int .i64 0, .int .i64 0]) ∧ MadeR w.heap.size w' q v
  | none => ∃ a e' : Int, e = .returned (.tuple #[.pointer none, .int .i64 a, .int .i64 e'])

theorem parseL_skip {bs : Bytes} (hl : bs.length ≤ 4096) : parseL bs = match valueL 10 (skipWs bs) with
    | none => none
    | some (v, l') => if (skipWs l').isEmpty then some v else none := by
  unfold parseL
  rw [if_neg (by omega), mustL_skip]
  cases skipWs bs with
  | nil => rfl
  | cons c r => rfl
theorem from_ne_lt {r : Ro} {lo b : Nat} (h : r.from lo) (hb : b < lo) : r b = none := Ro.from_ne h hb

set_option maxRecDepth 100000 in
set_option maxHeartbeats 8000000 in
theorem rparse_any (w : World) (bs : Bytes) (bb cap : Nat) (hb : BytesAt w bb 0 bs) {o : Option JV} (ho : parseL bs = o) :
    Calls Tryz.prog 72 #[.slice (some ⟨bb, 0, none⟩) bs.length cap] w fun e w' => RParse w o e w' := by
  by_cases hl : bs.length ≤ 4096
  · obtain ⟨s, hs⟩ : ∃ s, mkS bs = s := ⟨_, rfl⟩
    have hsl : s.data.toList = bs := by rw [← hs, list_mkS]
    have hsz : s.size = bs.length := by rw [← hs, size_mkS]
    have hcv : ∀ n, (convert 34 9 (.slice (some ⟨bb, 0, none⟩) bs.length cap)).run Tryz.prog (w.drewN n) = .ok (.string s) (w.drewN n) := fun n => by
      have := hb.conv 0 bs.length cap (Nat.zero_le _) (Nat.le_refl _) n
      rw [hs] at this
      have hx : s.extract 0 bs.length = s := by rw [← hsz]; simp
      rw [hx] at this
      simpa using this
    have hcv0 := hcv 0
    rw [show w.drewN 0 = w from rfl] at hcv0
    rw [parseL_skip hl] at ho
    have HO := Lib.hid ho
    have HSL := Lib.hid hsl
    have HSZ := Lib.hid hsz
    obtain ⟨n, hn⟩ : ∃ n, bs.length = n := ⟨_, rfl⟩
    rw [hn] at hl hcv0 hsz ⊢
    have hng : ((n : Int) > 4096) = False := by simp; omega
    clear ho hcv hb hs hsl
    go_enter Tryz.func72, Tryz.ntmps72
    go_wp2_with fail
    obtain ⟨C, hC⟩ : ∃ C : RC, C = ⟨s, w.heap.size⟩ := ⟨_, rfl⟩
    have hCs : C.s = s := by rw [hC]
    have hCp : C.pb = w.heap.size := by rw [hC]
    have hR0 : Rd C (w.alloc (rdObj s 0 0 0 0)) 0 0 := ⟨by rw [hCp, hCs]; exact blk_new _ _, Nat.zero_le _, by rw [hCs]; omega⟩
    have hCb : C.bs = bs := by rw [RC.bs, hCs, HSL.out]
    have HCB := Lib.hid (And.intro hCb hCp)
    have HR0 := Lib.hid hR0
    have HT0 := Lib.hid (show Turns [C.pb] w (w.alloc (rdObj s 0 0 0 0)) from (Turns.refl _ _).alloc _)
    rw [← hCp]
    rw [show Obj.cells #[Value.string s, Value.int IntKind.i64 0, Value.int IntKind.i64 0, Value.int IntKind.i64 0, Value.int IntKind.i64 0] 217 = rdObj s 0 0 0 0 from rfl]
    have HFIN := Lib.hid (show ∀ w' : World, Turns [C.pb] w w' → Below w.heap.size w w' from fun w' h => h.toBelow (by rw [hCp]; simp))
    generalize w.alloc (rdObj s 0 0 0 0) = w0 at *
    clear hC hCs hCp hR0 hCb hcv0
    refine (rblanks_good C w0 0 0 HR0.out).mono ?_
    rintro e w1 ⟨rfl, j1, hR1, hj1, _, hT1⟩
    have HR1 := Lib.hid hR1
    have HT1 := Lib.hid (HT0.out.trans hT1)
    obtain ⟨ov, hov⟩ : ∃ x, valueL 10 (C.bs.drop j1) = x := ⟨_, rfl⟩
    have HV := Lib.hid (rvalue_any C 10 0 (by omega) w1 j1 hR1)
    rw [hov] at HV
    have ho := HO.out
    rw [← HCB.out.1, ← List.drop_zero (l := C.bs), ← hj1, hov] at ho
    have HO2 := Lib.hid ho
    clear hR1 hj1 hT1 ho HO hov
    go_wp2_with fail
    refine HV.out.mono ?_
    rintro e w2 ⟨hT2, hret⟩
    have HT2 := Lib.hid (HT1.out.trans hT2)
    have HSZ2 := Lib.hid (HT1.out.size)
    clear hT2
    cases ov with
    | none =>
      obtain ⟨pv, rfl, hB⟩ := hret
      have hoo : o = none := HO2.out.symm
      subst hoo
      have HB2 := Lib.hid hB
      clear hB
      go_wp2_with fail
      refine (rblanks_bad C w2 0 HB2.out).mono ?_
      rintro e w3 ⟨rfl, hb3⟩
      have HT3 := Lib.hid (HT2.out.trans (Turns.below hb3))
      have HB3 := Lib.hid (HB2.out.below hb3)
      clear hb3
      go_wp2_with fail
      refine (next_bad C w3 0 HB3.out).mono ?_
      rintro e w4 ⟨rfl, hb4⟩
      have HT4 := Lib.hid (HT3.out.trans (Turns.below hb4))
      have hB4 := HB3.out.below hb4
      obtain ⟨ii, ee, aa, q1, q2, q3, q4⟩ := hB4
      have e3 : w4.cell? ⟨C.pb, 3, none⟩ = some (.int .i64 ee) := blk_cell q4 3
      have e4 : w4.cell? ⟨C.pb, 4, none⟩ = some (.int .i64 aa) := blk_cell q4 4
      have hee : (ee != 0) = true := by simpa using q1
      clear hb4 q4 q1
      go_wp2_with fail
      go_quiet (fail)
      go_wp2_with fail
      go_ret3
      exact ⟨HFIN.out _ (HT4.out.trans (Turns.below (below_drewN _ _))), aa, ee, rfl⟩
    | some pr =>
      obtain ⟨v, t⟩ := pr
      obtain ⟨j2, qv, rfl, hR2, hj2, hmade⟩ := hret
      have HR2 := Lib.hid hR2
      have HJ2 := Lib.hid hj2
      have HMD := Lib.hid hmade
      clear hR2 hj2 hmade
      go_wp2_with fail
      refine (rblanks_good C w2 j2 0 HR2.out).mono ?_
      rintro e w3 ⟨rfl, j3, hR3, hj3, _, hT3⟩
      have HR3 := Lib.hid hR3
      have HT3 := Lib.hid (HT2.out.trans hT3)
      have HT23 := Lib.hid hT3
      obtain ⟨z, hz⟩ : ∃ z, nextV C.bs j3 = z := ⟨_, rfl⟩
      have HN := Lib.hid (next_good C w3 j3 0 hR3 hz)
      have hlt : C.pb < w1.heap.size := blk_lt HR1.out.blk
      cases hck : C.bs[j3]? with
      | some c =>
        have hoo : o = none := by
          have ho := HO2.out
          rw [← ho, ← HJ2.out, ← hj3]
          obtain ⟨l0, e0⟩ := List.getElem?_eq_some_iff.1 hck
          rw [List.drop_eq_getElem_cons l0]; rfl
        subst hoo
        have hz0 : (0 : Int) ≤ z := by rw [← hz, nextV_some hck]; omega
        clear hR3 hj3 hT3 hz hck
        go_wp2_with fail
        refine HN.out.mono ?_
        rintro e w4 ⟨rfl, hb4⟩
        have hR4 := HR3.out.below hb4
        obtain ⟨_, c1, _, _, _⟩ := hR4.cells
        have HR4 := Lib.hid hR4
        have HT4 := Lib.hid (HT3.out.trans (Turns.below hb4))
        clear hb4 hR4
        go_wp2_with fail
        refine (fail_good C w4 j3 0 HR4.out j3 20 (by decide)).mono ?_
        rintro e w5 ⟨rfl, hB, hT⟩
        have HT5 := Lib.hid (HT4.out.trans hT)
        obtain ⟨ii, ee, aa, q1, q2, q3, q4⟩ := hB
        have e3 : w5.cell? ⟨C.pb, 3, none⟩ = some (.int .i64 ee) := blk_cell q4 3
        have e4 : w5.cell? ⟨C.pb, 4, none⟩ = some (.int .i64 aa) := blk_cell q4 4
        have hee : (ee != 0) = true := by simpa using q1
        clear q4 q1 hT
        go_wp2_with fail
        go_quiet (fail)
        go_wp2_with fail
        go_ret3
        exact ⟨HFIN.out _ (HT5.out.trans (Turns.below (below_drewN _ _))), aa, ee, rfl⟩
      | none =>
        have hoo : o = some v := by
          have ho := HO2.out
          rw [← ho, ← HJ2.out, ← hj3, List.drop_eq_nil_of_le (List.getElem?_eq_none_iff.1 hck)]; rfl
        subst hoo
        have hz0 : z = -1 := by rw [← hz, nextV_none (List.getElem?_eq_none_iff.1 hck)]
        subst hz0
        clear hR3 hj3 hT3 hz hck
        go_wp2_with fail
        refine HN.out.mono ?_
        rintro e w4 ⟨rfl, hb4⟩
        have hR4 := HR3.out.below hb4
        obtain ⟨_, _, _, c3, _⟩ := hR4.cells
        have HT4 := Lib.hid (HT3.out.trans (Turns.below hb4))
        have HT24 := Lib.hid (HT23.out.trans (Turns.below hb4))
        clear hb4 hR4
        go_wp2_with fail
        go_ret3
        exact ⟨HFIN.out _ HT4.out, qv, rfl, (HMD.out.turns HT24.out (by simpa using hlt)).mono HSZ2.out⟩
  · have hon : o = none := by rw [← ho]; unfold parseL; rw [if_pos (by omega)]
    subst hon
    obtain ⟨n, hn⟩ : ∃ n, bs.length = n := ⟨_, rfl⟩
    rw [hn] at hl ⊢
    have hng : (4096 : Int) < n := by omega
    clear ho hb hn
    go_enter Tryz.func72, Tryz.ntmps72
    go_wp2_with fail
    go_ret3
    exact ⟨Below.refl _ _, _, _, rfl⟩

end Toc
