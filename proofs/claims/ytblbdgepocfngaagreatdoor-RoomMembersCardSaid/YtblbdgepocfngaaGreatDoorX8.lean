/-
  LawMembers: The walk of the law RoomMembers: it returns true.
-/
import Derived.Test.YtblbdgepocfngaaGreatDoorX5
namespace Toc
open Go Go.RowKit Go.Proofs

set_option maxRecDepth 100000 in
set_option maxHeartbeats 8000000 in
theorem lawMembers_any (w : World) (hG : Glob w) (ds : List Deed) (hok : ∀ d ∈ ds, d.ok) {a : Option Addr} {cap n : Nat} (hn : ds.length = n) (hn2 : n ≤ 9223372036854775807) (hds : DeedsAt w a ds) :
    Calls Tryz.prog 6 #[.slice a n cap] w fun e w' => e = .returned (.bool true) ∧ Below w.heap.size w w' := by
  have HG := Lib.hid hG
  have HOK := Lib.hid hok
  have HN := Lib.hid hn
  have HDS := Lib.hid hds
  clear hG hok hn hds
  have hcv := conv_bytes
  go_enter Tryz.func6, Tryz.ntmps6
  go_wp2_with fail
  refine (shown_any w HG.out).mono ?_
  rintro e w1 ⟨rfl, hb1⟩
  have HB1 := Lib.hid hb1
  clear hb1
  go_wp2_with fail
  refine (new_ok w1 (HG.out.below HB1.out) _ (by decide) (by kernel_rfl)).mono ?_
  rintro e w2 ⟨rb, kb, lb, nb, rfl, hR, hb2, l1, l2, l3, l4⟩
  have HB2 := Lib.hid (below_trans HB1.out hb2)
  have HR2 := Lib.hid hR
  have HLO := Lib.hid (show w.heap.size ≤ rb ∧ w.heap.size ≤ kb ∧ w.heap.size ≤ lb ∧ w.heap.size ≤ nb from by have := HB1.out.size; omega)
  clear hR hb2 l1 l2 l3 l4
  go_wp2_with fail
  go_loopw [8, 9, 10, 11] (fun s8 s9 s10 s11 wr => ∃ (i : Nat) (R : RoomSt) (S : LSt) (lb nb : Nat), s8 = .int .i64 S.lev ∧ s9 = .string (mkS S.who) ∧ s10 = .bool S.some ∧ s11 = .int .i64 i ∧ i ≤ n ∧ i ≤ 1000 ∧ LawX w wr rb kb lb nb w2.heap.size R S.ins S.nms ∧ Inv R S) (fun _ _ _ s11 _ => match s11 with | .int _ k => n - k.toNat | _ => 0)
  case atStart =>
    refine ⟨0, newRoom sR, LSt.init, lb, nb, rfl, rfl, rfl, rfl, Nat.zero_le _, Nat.zero_le _, ?_⟩
    obtain ⟨l1, l2, l3, l4⟩ := HLO.out
    have hsz := HB2.out.size
    exact ⟨⟨(HB2.out.alloc hsz _).alloc (by simp; omega) _, (HR2.out.below ((Below.refl _ _).alloc (Nat.le_refl _) _)).below ((Below.refl _ _).alloc (Nat.le_refl _) _), blk_old (blk_new w2 _) _, by have := blk_new (w2.alloc (boolsO LSt.init.ins)) (namesO LSt.init.nms); rw [show (w2.alloc (boolsO LSt.init.ins)).heap.size = w2.heap.size + 1 by simp [boolsO]] at this; exact this, ⟨l1, l2, l3, l4, hsz⟩, by have := blk_lt HR2.out.blk; omega⟩, Inv.init⟩
  case round =>
    obtain ⟨i, R, S, lb, nb, rfl, rfl, rfl, rfl, hi, hi2, hL, hI⟩ := hrel
    have HL := Lib.hid hL
    have HI := Lib.hid hI
    clear hL hI HR2
    by_cases hlt : i < n
    case neg =>
      have hie : i = n := by omega
      subst hie
      go_wp2_with fail
      go_ret
      exact ⟨rfl, HL.out.below⟩
    by_cases h1000 : i < 1000
    case neg =>
      have hge : ¬ ((i : Int) < 1000) := by omega
      go_wp2_with fail
      go_ret
      exact ⟨rfl, HL.out.below⟩
    obtain ⟨d, hd⟩ : ∃ x, ds[i]? = some x := ⟨_, List.getElem?_eq_getElem (by rw [HN.out]; exact hlt)⟩
    have hdok := HOK.out d (List.mem_of_getElem? hd)
    obtain ⟨g, off, ha, hg, hc⟩ := (HDS.out.below HL.out.below) i d hd
    have hidok := idOf_ok i
    have hddok := dd_ok d
    obtain ⟨st, hst⟩ : ∃ s, mkS (textD (idOf i) d.dd) = s := ⟨_, rfl⟩
    have HT := Lib.hid (fun wx => deedText_any d hdok i h1000 wx)
    rw [hst] at HT
    have hsl : st.data.toList = textD (idOf i) d.dd := by rw [← hst, list_mkS]
    obtain ⟨m, hm⟩ : ∃ m, st.data.toList.length = m := ⟨_, rfl⟩
    have hcv2 : ∀ wx : World, (convert 9 34 (.string st)).run Tryz.prog wx = .ok (.slice (some ⟨wx.heap.size, 0, none⟩) m (grownCap wx st.size 0 5)) (Lib.bytesWorld wx 5 st) := fun wx => by
      rw [← hm]; exact conv_bytes wx st
    have HP := Lib.hid (fun (wx : World) (hx : Glob wx) => parse_o wx hx st hm (o := some (valD (idOf i) d.dd)) (by rw [hsl]; exact parse_deed hidok hddok))
    have HDOK := Lib.hid (And.intro hdok (And.intro hidok hddok))
    obtain ⟨⟨k1, k2⟩, ⟨u1, u2⟩, ⟨o1, o2⟩, ⟨h1, h2⟩, ⟨n1, n2⟩⟩ := hdok
    have HPK := Lib.hid (fun wx => pick_any d.kind 5 k1 k2 (by omega) (by omega) wx)
    have HPN := Lib.hid (fun wx => pick_any d.n 10 n1 n2 (by omega) (by omega) wx)
    have HPU := Lib.hid (fun wx => pick_any d.user 5 u1 u2 (by omega) (by omega) wx)
    have HU := Lib.hid (fun wx => users_any d.user u1 u2 wx)
    have HW := Lib.hid (fun wx => hows_any d.how h1 h2 wx)
    obtain ⟨dd, hdd⟩ : ∃ x, d.dd = x := ⟨_, rfl⟩
    rw [hdd] at HP HDOK
    have HDD := Lib.hid hdd
    clear hd hidok hddok hst hsl hm k1 k2 u1 u2 o1 o2 h1 h2 n1 n2 hdd hcv
    obtain ⟨dk, du, dr, dh, dn⟩ := d
    have c0 : wr.cell? ⟨g, off + i * 5, none⟩ = some (.int .i64 dk) := hc 0 _ rfl
    have c1 : wr.cell? ⟨g, off + i * 5 + 1, none⟩ = some (.int .i64 du) := hc 1 _ rfl
    have c2 : wr.cell? ⟨g, off + i * 5 + 2, none⟩ = some (.int .i64 dr) := hc 2 _ rfl
    have c3 : wr.cell? ⟨g, off + i * 5 + 3, none⟩ = some (.int .i64 dh) := hc 3 _ rfl
    have c4 : wr.cell? ⟨g, off + i * 5 + 4, none⟩ = some (.int .i64 dn) := hc 4 _ rfl
    have HDSR := Lib.hid ha
    subst ha
    unfold Deed.cells at HT
    dsimp only at HT HPK HPN HPU HU HW
    clear hc
    have HBX := Lib.hid (blk_new wr (.cells #[.int .i64 dk, .int .i64 du, .int .i64 dr, .int .i64 dh, .int .i64 dn] 54))
    have HLA := Lib.hid ((Below.refl wr.heap.size wr).alloc (Nat.le_refl _) (.cells #[.int .i64 dk, .int .i64 du, .int .i64 dr, .int .i64 dh, .int .i64 dn] 54))
    go_wp2_with fail
    refine (HT.out _).mono ?_
    rintro e w3 ⟨rfl, hb3⟩
    have HB3 := Lib.hid (below_trans HLA.out hb3)
    have HX3 := Lib.hid ((hb3.block _ (blk_lt HBX.out)).trans HBX.out)
    have HG3 := Lib.hid (HG.out.below (below_trans HL.out.below HB3.out))
    clear hb3 c0 c1 c2 c3 c4
    go_wp2_with fail
    refine (HP.out w3 HG3.out).mono ?_
    rintro e w4 ⟨pv, er, r, rfl, hrf, hrh, hpv, hb4⟩
    obtain ⟨q, rfl, hqv⟩ := hpv
    have HB4 := Lib.hid (below_trans HB3.out hb4)
    have HX4 := Lib.hid ((hb4.block _ (blk_lt HX3.out)).trans HX3.out)
    have HRF := Lib.hid hrf
    have HS3 := Lib.hid (And.intro HB3.out.size (blk_lt HX3.out))
    have HE := Lib.hid (event_of r w4 (HG3.out.below hb4) hrh hqv (parseL_ok (parse_deed HDOK.out.2.1 HDOK.out.2.2)) (event_deed HDOK.out.2.1 HDOK.out.2.2))
    clear hb4 hrf hrh hqv hcv2
    go_wp2_with fail
    refine HE.out.mono ?_
    rintro e w5 ⟨qe, r5, rfl, hqe, hh5, hev, hle, hno, hb5⟩
    have HB5 := Lib.hid (below_trans HB4.out hb5)
    have HX5 := Lib.hid ((hb5.block _ (blk_lt HX4.out)).trans HX4.out)
    have HH5 := Lib.hid hh5
    have HEV := Lib.hid hev
    have HG5 := Lib.hid (HG.out.below (below_trans HL.out.below HB5.out))
    have HR5 := Lib.hid (HL.out.room.below HB5.out)
    have HNB := Lib.hid (show ∀ b, b < wr.heap.size → r5 b = none from fun b hb => hno b (Ro.from_ne HRF.out (by have := HS3.out.1; omega)) (by have := HB4.out.size; omega))
    have HNK := Lib.hid (show r5 kb = none from hno kb (Ro.from_ne HRF.out (by have := HL.out.room.known.lt; have := HS3.out.1; omega)) (by have := HL.out.room.known.lt; have := HB4.out.size; omega))
    obtain ⟨sp, hsp⟩ : ∃ s, mkS (printL (roomJ R)) = s := ⟨_, rfl⟩
    have HPR := Lib.hid (printed r5 w5 HG5.out hh5 HR5.out HI.out.fit hsp)
    have HSP := Lib.hid hsp
    clear hqe hh5 hev hle hno hb5 hsp
    go_wp2_with fail
    refine HPR.out.mono ?_
    rintro e w6 ⟨q6, rfl, hb6, hp6⟩
    have HP6 := Lib.hid (hp6 w6 rfl)
    have HB6 := Lib.hid hb6
    clear hb6 hp6
    go_wp2_with fail
    refine HP6.out.mono ?_
    rintro e w7 ⟨rfl, hb7⟩
    have HB7 := Lib.hid (below_trans HB6.out hb7)
    clear hb7
    obtain ⟨R2, hR2⟩ : ∃ x, after R (idOf i) dd = x := ⟨_, rfl⟩
    have HAP := Lib.hid (apply_deed r5 w7 (HG5.out.below HB7.out) (HH5.out.below HB7.out) HEV.out HDOK.out.2.2 HDOK.out.2.1 (HR5.out.below HB7.out) HI.out HNK.out (Nat.le_trans HG.out.top HL.out.lo.2.1))
    rw [hR2] at HAP
    have HR2 := Lib.hid hR2
    obtain ⟨ch, hch⟩ : ∃ b, decide (printL (roomJ R) ≠ printL (roomJ R2)) = b := ⟨_, rfl⟩
    rw [hch] at HAP
    have HCH := Lib.hid hch
    clear hR2 hch
    go_wp2_with fail
    refine HAP.out.mono ?_
    rintro e w8 ⟨lb8, nb8, rfl, hR8, hT8, hm8, hn8⟩
    obtain ⟨kk, hkk⟩ : ∃ k, (pickI du 5).toNat = k := ⟨_, rfl⟩
    have hkr := pickI_range du 5 (by omega)
    have HKK := Lib.hid (And.intro hkk (show kk < 5 by omega))
    obtain ⟨S2, hS2⟩ : ∃ x, afterS S kk dd = x := ⟨_, rfl⟩
    have HS2 := Lib.hid hS2
    have HI2 := Lib.hid (show Inv R2 S2 by
      rw [← HR2.out, ← hS2]
      refine HI.out.after HDOK.out.2.2 HKK.out.2 fun u h c e => ?_
      rw [← HDD.out] at e
      unfold Deed.dd at e
      split at e
      · cases e; rw [← hkk]; rfl
      · split at e
        · cases e
        · split at e <;> cases e)
    have hbx : wr.heap.size ≠ rb ∧ wr.heap.size ≠ kb := by have h1 := blk_lt HL.out.room.blk; have h2 := HL.out.room.known.lt; omega
    have HX8 := Lib.hid (hT8.heap ((HB7.out.block _ (blk_lt HX5.out)).trans HX5.out) (by simpa using hbx))
    have HR8 := Lib.hid hR8
    have HT8 := Lib.hid (show Turns [rb, kb] wr w8 from (Turns.below (below_trans HB5.out HB7.out)).trans hT8)
    have HH8 := Lib.hid ((HH5.out.below HB7.out).turns hT8 (by have hrb := HNB.out rb (blk_lt HL.out.room.blk); simpa using ⟨hrb, HNK.out⟩))
    have HRK := Lib.hid (show gTop ≤ rb ∧ gTop ≤ kb from ⟨Nat.le_trans HG.out.top HL.out.lo.1, Nat.le_trans HG.out.top HL.out.lo.2.1⟩)
    have HG8 := Lib.hid ((HG5.out.below HB7.out).turns hT8 (by have := HRK.out; simpa using this))
    have HM8 := Lib.hid (show (lb8 = lb ∨ wr.heap.size ≤ lb8) ∧ (nb8 = nb ∨ wr.heap.size ≤ nb8) from by
      have hs := (below_trans HB5.out HB7.out).size
      unfold Moved at hm8 hn8
      exact ⟨by omega, by omega⟩)
    obtain ⟨sn, hsn⟩ : ∃ s, mkS (printL (roomJ R2)) = s := ⟨_, rfl⟩
    have HSN := Lib.hid hsn
    have HPR8 := Lib.hid (printed r5 w8 HG8.out HH8.out HR8.out HI2.out.fit hsn)
    clear hR8 hT8 hm8 hn8 hkk hkr hS2 hsn HAP HPR HP6
    go_wp2_with fail
    refine HPR8.out.mono ?_
    rintro e w9 ⟨q9, rfl, hb9, hp9⟩
    have HP9 := Lib.hid (hp9 w9 rfl)
    have HB9 := Lib.hid hb9
    clear hb9 hp9
    go_wp2_with fail
    refine HP9.out.mono ?_
    rintro e w10 ⟨rfl, hb10⟩
    have HB10 := Lib.hid (below_trans HB9.out hb10)
    clear hb10
    have HAP2 := Lib.hid (apply_deed r5 w10 (HG8.out.below HB10.out) (HH8.out.below HB10.out) HEV.out HDOK.out.2.2 HDOK.out.2.1 (HR8.out.below HB10.out) HI2.out HNK.out HRK.out.2)
    rw [show after R2 (idOf i) dd = R2 from by rw [← HR2.out]; exact after_again HI.out.rise _ _] at HAP2
    rw [show decide (printL (roomJ R2) ≠ printL (roomJ R2)) = false by simp] at HAP2
    go_wp2_with fail
    refine HAP2.out.mono ?_
    rintro e w11 ⟨lb2, nb2, rfl, hR11, hT11, hm11, hn11⟩
    have HX11 := Lib.hid (hT11.heap ((HB10.out.block _ (blk_lt HX8.out)).trans HX8.out) (by simpa using hbx))
    have HR11 := Lib.hid hR11
    have HT11 := Lib.hid ((HT8.out.trans (Turns.below HB10.out)).trans hT11)
    have HH11 := Lib.hid ((HH8.out.below HB10.out).turns hT11 (by have hrb := HNB.out rb (blk_lt HL.out.room.blk); simpa using ⟨hrb, HNK.out⟩))
    have HG11 := Lib.hid ((HG8.out.below HB10.out).turns hT11 (by have := HRK.out; simpa using this))
    have HM11 := Lib.hid (show (lb2 = lb ∨ wr.heap.size ≤ lb2) ∧ (nb2 = nb ∨ wr.heap.size ≤ nb2) from by
      have hs := HT8.out.size
      have hs2 := HB10.out.size
      have h8 := HM8.out
      unfold Moved at hm11 hn11
      omega)
    have HPR11 := Lib.hid (printed r5 w11 HG11.out HH11.out HR11.out HI2.out.fit HSN.out)
    clear hR11 hT11 hm11 hn11 HAP2 HPR8 HP9
    go_wp2_with fail
    refine HPR11.out.mono ?_
    rintro e w12 ⟨q12, rfl, hb12, hp12⟩
    have HP12 := Lib.hid (hp12 w12 rfl)
    have HB12 := Lib.hid hb12
    clear hb12 hp12
    go_wp2_with fail
    refine HP12.out.mono ?_
    rintro e w13 ⟨rfl, hb13⟩
    have HB13 := Lib.hid (below_trans HB12.out hb13)
    clear hb13
    have HT13 := Lib.hid (show Turns [rb, kb] wr w13 from HT11.out.trans (Turns.below HB13.out))
    have HX13 := Lib.hid ((HB13.out.block _ (blk_lt HX11.out)).trans HX11.out)
    have HL13 := Lib.hid (HL.out.turn HT13.out (HR11.out.below HB13.out) HM11.out.1 HM11.out.2)
    have b0 : w13.cell? ⟨wr.heap.size, 0, none⟩ = some (.int .i64 dk) := blk_cell HX13.out 0
    have b4 : w13.cell? ⟨wr.heap.size, 4, none⟩ = some (.int .i64 dn) := blk_cell HX13.out 4
    clear hbx
    go_upto_region 23 with fail
    go_cut [122] (fun s122 wy => s122 = .bool false ∧ wy = w13)
    case first =>
      cases ch with
      | true =>
        have hne : (sp.toList == sn.toList) = false := by
          rw [← HSP.out, ← HSN.out, Lib.toList_data, Lib.toList_data, beq_eq_false_iff_ne]
          simpa using HCH.out
        go_wp2_with fail
        go_meet
        exact ⟨rfl, rfl⟩
      | false =>
        have hse : sp = sn := by
          have h1 := HCH.out
          simp only [ne_eq, decide_not, Bool.not_eq_false', decide_eq_true_eq] at h1
          rw [← HSP.out, ← HSN.out, h1]
        subst hse
        go_wp2_with fail
        go_meet
        exact ⟨rfl, rfl⟩
    case rest =>
    obtain ⟨rfl, rfl⟩ := hcut
    obtain ⟨wm, hwm⟩ : ∃ x, x = wc := ⟨_, rfl⟩
    subst hwm
    go_wp2_with fail
    refine (HPN.out _).mono ?_
    rintro e w14 ⟨rfl, rfl⟩
    go_wp2_with fail
    refine (HPK.out _).mono ?_
    rintro e w14 ⟨rfl, rfl⟩
    obtain ⟨nn, hnn⟩ : ∃ z, pickI dn 10 = z := ⟨_, rfl⟩
    have hnr := pickI_range dn 10 (by omega)
    rw [hnn] at hnr ⊢
    have HNN := Lib.hid hnn
    obtain ⟨kd, hkd⟩ : ∃ z, pickI dk 5 = z := ⟨_, rfl⟩
    have hkr := pickI_range dk 5 (by omega)
    rw [hkd] at hkr ⊢
    have HKD := Lib.hid hkd
    have HLC := Lib.hid HL13.out
    have HXC := Lib.hid HX13.out
    clear hnn hkd b0 b4
    go_upto_block 2 with fail
    go_cut [8, 9, 10] (fun s8 s9 s10 wy => s8 = .int .i64 S2.lev ∧ s9 = .string (mkS S2.who) ∧ s10 = .bool S2.some ∧ LawX w wy rb kb lb2 nb2 w2.heap.size R2 S2.ins S2.nms ∧ Turns [w2.heap.size, w2.heap.size + 1] wm wy)
    case first =>
      rcases (show kd = 0 ∨ kd = 1 ∨ kd = 2 ∨ kd = 3 ∨ kd = 4 by omega) with rfl | rfl | rfl | rfl | rfl
      · as_aux_lemma =>
        obtain ⟨bj, hbj⟩ : ∃ b, decide (howO dh = sJoin) = b := ⟨_, rfl⟩
        obtain ⟨sh, hsh⟩ : ∃ s, mkS (howO dh) = s := ⟨_, rfl⟩
        have HW' := Lib.hid (HW.out wm)
        rw [hsh] at HW'
        have hjn : (sh.toList == ([106, 111, 105, 110] : List UInt8)) = bj := by
          rw [← hsh, Lib.toList_data, ← hbj]
          show (howO dh == sJoin) = _
          rw [Bool.eq_iff_iff]; simp
        have HS2' := Lib.hid (show S2 = { S with ins := S.ins.set kk bj, nms := S.nms.set kk (if bj then [78, digC dn] else []) } by
          rw [← HS2.out, ← HDD.out]
          unfold Deed.dd
          rw [if_pos (by rw [HKD.out]; simp), ← hbj]
          unfold afterS
          simp)
        have HDG := Lib.hid (show ((⟨#[78]⟩ : ByteArray) ++ ((⟨#[48, 49, 50, 51, 52, 53, 54, 55, 56, 57]⟩ : ByteArray).extract nn.toNat 10).extract 0 1) = mkS [78, digC dn] by
          rw [digit_first nn hnr]
          unfold digC
          rw [HNN.out]
          exact mkS_app [78] _)
        have hkk5 := HKK.out.2
        have hki1 : (0 : Int) ≤ kk := by omega
        have hki2 : (kk : Int) < 5 := by omega
        have HKU := Lib.hid (show pickI du 5 = (kk : Int) by have := pickI_range du 5 (by omega); have := HKK.out.1; omega)
        have hpu := HPU.out wm
        rw [HKU.out] at hpu
        have HPU' := Lib.hid hpu
        have b1 : wm.cell? ⟨wr.heap.size, 1, none⟩ = some (.int .i64 du) := blk_cell HXC.out 1
        have b3 : wm.cell? ⟨wr.heap.size, 3, none⟩ = some (.int .i64 dh) := blk_cell HXC.out 3
        obtain ⟨xk, hxk⟩ : ∃ x, S.ins[kk]? = some x := ⟨_, List.getElem?_eq_getElem (by rw [HI.out.lens.1]; exact hkk5)⟩
        obtain ⟨yk, hyk⟩ : ∃ x, S.nms[kk]? = some x := ⟨_, List.getElem?_eq_getElem (by rw [HI.out.lens.2]; exact hkk5)⟩
        have HXK := Lib.hid (And.intro hxk hyk)
        clear hpu hbj hsh hxk hyk
        go_wp2_with fail
        refine HPU'.out.mono ?_
        rintro e w14 ⟨rfl, rfl⟩
        go_wp2_with fail
        refine HW'.out.mono ?_
        rintro e w15 ⟨rfl, hb15⟩
        have HL15 := Lib.hid (HLC.out.grow hb15)
        have hxx := HL15.out.ins
        have hyy := HL15.out.nms
        have HB15 := Lib.hid hb15
        have fx := blk_free hxx
        have fy := blk_free hyy
        have xk' : w15.cell? ⟨w2.heap.size, kk, none⟩ = some (.bool xk) := by rw [blk_cell hxx]; simp [HXK.out.1]
        have yk' : w15.cell? ⟨w2.heap.size + 1, kk, none⟩ = some (encStr yk) := by rw [blk_cell hyy]; simp [HXK.out.2]
        clear hb15
        have hne1 : w2.heap.size ≠ w2.heap.size + 1 := by omega
        have HHX := Lib.hid hxx
        have HHY := Lib.hid hyy
        clear hxx hyy
        cases bj with
        | false =>
          go_wp2_with fail
          go_meet
          have k1 := set_bools HHX.out kk false
          have k2 := set_names (((Turns.refl [w2.heap.size] w15).setCell (p := ⟨w2.heap.size, kk, none⟩) (.inl (by simp)) (.bool false)).heap HHY.out (by simp)) kk []
          have k3 := ((Turns.refl [w2.heap.size + 1] (w15.setCell ⟨w2.heap.size, kk, none⟩ (.bool false))).setCell (p := ⟨w2.heap.size + 1, kk, none⟩) (.inl (by simp)) (.string (mkS []))).heap k1 (by simp)
          have k4 : Turns [w2.heap.size, w2.heap.size + 1] w15 ((w15.setCell ⟨w2.heap.size, kk, none⟩ (.bool false)).setCell ⟨w2.heap.size + 1, kk, none⟩ (.string (mkS []))) := ((Turns.refl [w2.heap.size, w2.heap.size + 1] w15).setCell (.inl (by simp)) _).setCell (.inl (by simp)) _
          rw [HS2'.out]
          exact ⟨rfl, rfl, rfl, HL15.out.set k4 k3 k2, (Turns.below (S := [w2.heap.size, w2.heap.size + 1]) HB15.out).trans k4⟩
        | true =>
          go_wp2_with fail
          rw [HDG.out]
          go_meet
          have k1 := set_bools HHX.out kk true
          have k2 := set_names (set_names (((Turns.refl [w2.heap.size] w15).setCell (p := ⟨w2.heap.size, kk, none⟩) (.inl (by simp)) (.bool true)).heap HHY.out (by simp)) kk []) kk [78, digC dn]
          rw [List.set_set] at k2
          have k3 := (((Turns.refl [w2.heap.size + 1] (w15.setCell ⟨w2.heap.size, kk, none⟩ (.bool true))).setCell (p := ⟨w2.heap.size + 1, kk, none⟩) (.inl (by simp)) (.string (mkS []))).setCell (p := ⟨w2.heap.size + 1, kk, none⟩) (.inl (by simp)) (.string (mkS [78, digC dn]))).heap k1 (by simp)
          have k4 : Turns [w2.heap.size, w2.heap.size + 1] w15 (((w15.setCell ⟨w2.heap.size, kk, none⟩ (.bool true)).setCell ⟨w2.heap.size + 1, kk, none⟩ (.string (mkS []))).setCell ⟨w2.heap.size + 1, kk, none⟩ (.string (mkS [78, digC dn]))) := (((Turns.refl [w2.heap.size, w2.heap.size + 1] w15).setCell (.inl (by simp)) _).setCell (.inl (by simp)) _).setCell (.inl (by simp)) _
          rw [HS2'.out]
          exact ⟨rfl, rfl, rfl, HL15.out.set k4 k3 k2, (Turns.below (S := [w2.heap.size, w2.heap.size + 1]) HB15.out).trans k4⟩
      · as_aux_lemma =>
        obtain ⟨bj, hbj⟩ : ∃ b, decide (howO dh = sJoin) = b := ⟨_, rfl⟩
        obtain ⟨sh, hsh⟩ : ∃ s, mkS (howO dh) = s := ⟨_, rfl⟩
        have HW' := Lib.hid (HW.out wm)
        rw [hsh] at HW'
        have hjn : (sh.toList == ([106, 111, 105, 110] : List UInt8)) = bj := by
          rw [← hsh, Lib.toList_data, ← hbj]
          show (howO dh == sJoin) = _
          rw [Bool.eq_iff_iff]; simp
        have HS2' := Lib.hid (show S2 = { S with ins := S.ins.set kk bj, nms := S.nms.set kk (if bj then [78, digC dn] else []) } by
          rw [← HS2.out, ← HDD.out]
          unfold Deed.dd
          rw [if_pos (by rw [HKD.out]; simp), ← hbj]
          unfold afterS
          simp)
        have HDG := Lib.hid (show ((⟨#[78]⟩ : ByteArray) ++ ((⟨#[48, 49, 50, 51, 52, 53, 54, 55, 56, 57]⟩ : ByteArray).extract nn.toNat 10).extract 0 1) = mkS [78, digC dn] by
          rw [digit_first nn hnr]
          unfold digC
          rw [HNN.out]
          exact mkS_app [78] _)
        have hkk5 := HKK.out.2
        have hki1 : (0 : Int) ≤ kk := by omega
        have hki2 : (kk : Int) < 5 := by omega
        have HKU := Lib.hid (show pickI du 5 = (kk : Int) by have := pickI_range du 5 (by omega); have := HKK.out.1; omega)
        have hpu := HPU.out wm
        rw [HKU.out] at hpu
        have HPU' := Lib.hid hpu
        have b1 : wm.cell? ⟨wr.heap.size, 1, none⟩ = some (.int .i64 du) := blk_cell HXC.out 1
        have b3 : wm.cell? ⟨wr.heap.size, 3, none⟩ = some (.int .i64 dh) := blk_cell HXC.out 3
        obtain ⟨xk, hxk⟩ : ∃ x, S.ins[kk]? = some x := ⟨_, List.getElem?_eq_getElem (by rw [HI.out.lens.1]; exact hkk5)⟩
        obtain ⟨yk, hyk⟩ : ∃ x, S.nms[kk]? = some x := ⟨_, List.getElem?_eq_getElem (by rw [HI.out.lens.2]; exact hkk5)⟩
        have HXK := Lib.hid (And.intro hxk hyk)
        clear hpu hbj hsh hxk hyk
        go_wp2_with fail
        refine HPU'.out.mono ?_
        rintro e w14 ⟨rfl, rfl⟩
        go_wp2_with fail
        refine HW'.out.mono ?_
        rintro e w15 ⟨rfl, hb15⟩
        have HL15 := Lib.hid (HLC.out.grow hb15)
        have hxx := HL15.out.ins
        have hyy := HL15.out.nms
        have HB15 := Lib.hid hb15
        have fx := blk_free hxx
        have fy := blk_free hyy
        have xk' : w15.cell? ⟨w2.heap.size, kk, none⟩ = some (.bool xk) := by rw [blk_cell hxx]; simp [HXK.out.1]
        have yk' : w15.cell? ⟨w2.heap.size + 1, kk, none⟩ = some (encStr yk) := by rw [blk_cell hyy]; simp [HXK.out.2]
        clear hb15
        have hne1 : w2.heap.size ≠ w2.heap.size + 1 := by omega
        have HHX := Lib.hid hxx
        have HHY := Lib.hid hyy
        clear hxx hyy
        cases bj with
        | false =>
          go_wp2_with fail
          go_meet
          have k1 := set_bools HHX.out kk false
          have k2 := set_names (((Turns.refl [w2.heap.size] w15).setCell (p := ⟨w2.heap.size, kk, none⟩) (.inl (by simp)) (.bool false)).heap HHY.out (by simp)) kk []
          have k3 := ((Turns.refl [w2.heap.size + 1] (w15.setCell ⟨w2.heap.size, kk, none⟩ (.bool false))).setCell (p := ⟨w2.heap.size + 1, kk, none⟩) (.inl (by simp)) (.string (mkS []))).heap k1 (by simp)
          have k4 : Turns [w2.heap.size, w2.heap.size + 1] w15 ((w15.setCell ⟨w2.heap.size, kk, none⟩ (.bool false)).setCell ⟨w2.heap.size + 1, kk, none⟩ (.string (mkS []))) := ((Turns.refl [w2.heap.size, w2.heap.size + 1] w15).setCell (.inl (by simp)) _).setCell (.inl (by simp)) _
          rw [HS2'.out]
          exact ⟨rfl, rfl, rfl, HL15.out.set k4 k3 k2, (Turns.below (S := [w2.heap.size, w2.heap.size + 1]) HB15.out).trans k4⟩
        | true =>
          go_wp2_with fail
          rw [HDG.out]
          go_meet
          have k1 := set_bools HHX.out kk true
          have k2 := set_names (set_names (((Turns.refl [w2.heap.size] w15).setCell (p := ⟨w2.heap.size, kk, none⟩) (.inl (by simp)) (.bool true)).heap HHY.out (by simp)) kk []) kk [78, digC dn]
          rw [List.set_set] at k2
          have k3 := (((Turns.refl [w2.heap.size + 1] (w15.setCell ⟨w2.heap.size, kk, none⟩ (.bool true))).setCell (p := ⟨w2.heap.size + 1, kk, none⟩) (.inl (by simp)) (.string (mkS []))).setCell (p := ⟨w2.heap.size + 1, kk, none⟩) (.inl (by simp)) (.string (mkS [78, digC dn]))).heap k1 (by simp)
          have k4 : Turns [w2.heap.size, w2.heap.size + 1] w15 (((w15.setCell ⟨w2.heap.size, kk, none⟩ (.bool true)).setCell ⟨w2.heap.size + 1, kk, none⟩ (.string (mkS []))).setCell ⟨w2.heap.size + 1, kk, none⟩ (.string (mkS [78, digC dn]))) := (((Turns.refl [w2.heap.size, w2.heap.size + 1] w15).setCell (.inl (by simp)) _).setCell (.inl (by simp)) _).setCell (.inl (by simp)) _
          rw [HS2'.out]
          exact ⟨rfl, rfl, rfl, HL15.out.set k4 k3 k2, (Turns.below (S := [w2.heap.size, w2.heap.size + 1]) HB15.out).trans k4⟩
      · as_aux_lemma =>
        have HS2' := Lib.hid (show S2 = { S with lev := nn, who := userOf du, some := true } by
          rw [← HS2.out, ← HDD.out]
          unfold Deed.dd
          rw [if_neg (by rw [HKD.out]; simp), if_pos HKD.out]
          unfold afterS
          simp only [(digC_ok dn).2, HNN.out])
        have HU' := Lib.hid (HU.out wm)
        have b1 : wm.cell? ⟨wr.heap.size, 1, none⟩ = some (.int .i64 du) := blk_cell HXC.out 1
        go_wp2_with fail
        refine HU'.out.mono ?_
        rintro e w15 ⟨rfl, hb15⟩
        have HB15 := Lib.hid hb15
        clear hb15
        go_wp2_with fail
        go_meet
        rw [HS2'.out]
        exact ⟨rfl, rfl, rfl, HLC.out.grow HB15.out, Turns.below HB15.out⟩
      · as_aux_lemma =>
        have HS2' := Lib.hid (show S2 = S by
          rw [← HS2.out, ← HDD.out]
          unfold Deed.dd
          rw [if_neg (by rw [HKD.out]; simp), if_neg (by rw [HKD.out]; simp), if_pos HKD.out]
          rfl)
        go_wp2_with fail
        go_meet
        rw [HS2'.out]
        exact ⟨rfl, rfl, rfl, HLC.out, Turns.refl _ _⟩
      · as_aux_lemma =>
        have HS2' := Lib.hid (show S2 = S by
          rw [← HS2.out, ← HDD.out]
          unfold Deed.dd
          rw [if_neg (by rw [HKD.out]; simp), if_neg (by rw [HKD.out]; simp), if_neg (by rw [HKD.out]; simp)]
          rfl)
        go_wp2_with fail
        go_meet
        rw [HS2'.out]
        exact ⟨rfl, rfl, rfl, HLC.out, Turns.refl _ _⟩
    case rest =>
    obtain ⟨rfl, rfl, rfl, hX, hTc⟩ := hcut
    obtain ⟨sm, hsm⟩ : ∃ b, S2.some = b := ⟨_, rfl⟩
    rw [hsm]
    have HSM := Lib.hid hsm
    clear hsm
    have HXW := Lib.hid hX
    have hib := blk_lt HL.out.ins
    have hib1 := blk_lt HL.out.nms
    have HHc := Lib.hid (((HH11.out.below HB13.out)).turns hTc (by have h1 := HNB.out _ hib; have h2 := HNB.out _ hib1; simpa using ⟨h1, h2⟩))
    have hfit := HI2.out.fit
    have HKN := Lib.hid hfit.known
    have HJ := Lib.hid (joined_any wc HXW.out.room hfit.known)
    obtain ⟨bq, hea, _⟩ := HEV.out
    have HEA := Lib.hid hea
    clear hX hTc hib hib1 hfit hea HPK HPN HPU HU HW HXC HLC HX13 HL13 HX8 HX11 HR8 HR11 HT8 HT11 HT13 HH8 HH11 HG8 HG11 HM8 HM11 HPR11 HP12 HB12 HB13 HB10 HB9 HCH HSP HSN
    go_wp2_with fail
    refine HJ.out.mono ?_
    rintro e wJ ⟨sv, rfl, hown, hbJ⟩
    obtain ⟨ja, jc, rfl, hrow⟩ := texts_row hown
    have HROW := Lib.hid hrow
    have HXJ := Lib.hid (HXW.out.grow hbJ)
    have HHJ := Lib.hid (HHc.out.below hbJ)
    obtain ⟨j, hj⟩ : ∃ j, (joinedL R2).length = j := ⟨_, rfl⟩
    rw [hj]
    have HJL := Lib.hid hj
    have hj5 : j ≤ 5 := by rw [← hj, HI2.out.joinLen]; exact HI2.out.cntLe (Nat.le_refl _)
    clear hown hrow hbJ hj HJ
    go_wp2_with fail
    go_loopw [27, 28] (fun s27 s28 wk => ∃ k : Nat, s27 = .int .i64 (cntS S2.ins k) ∧ s28 = .int .i64 k ∧ k ≤ 5 ∧ Below wJ.heap.size wJ wk) (fun _ s28 _ => match s28 with | .int _ z => 5 - z.toNat | _ => 0)
    case atStart => exact ⟨0, rfl, rfl, by omega, Below.refl _ _⟩
    case round =>
      obtain ⟨k, rfl, rfl, hk, hbk⟩ := hrel
      have HBK := Lib.hid hbk
      have HXK := Lib.hid (HXJ.out.grow hbk)
      have HHK := Lib.hid (HHJ.out.below hbk)
      clear hbk
      by_cases hk5 : k < 5
      case neg =>
        have hke : k = 5 := by omega
        subst hke
        have hcj : cntS S2.ins 5 = j := by rw [← HI2.out.joinLen, HJL.out]
        rw [hcj]
        clear hcj
        go_wp2_with fail
        go_roundw
        case rel => exact ⟨i + 1, R2, S2, lb2, nb2, rfl, rfl, by rw [HSM.out], by simp, hlt, h1000, HXK.out, HI2.out⟩
        case measure => simp; omega
      obtain ⟨us, sd, bk, lv, lq, hask⟩ := asks_any HXK.out HI2.out HHK.out HEA.out hk5 HJL.out
      have HA := Lib.hid hask
      have hk5i : (k : Int) < 5 := Int.ofNat_lt.2 hk5
      clear hask
      go_wp2_with fail
      refine HA.out.user.mono ?_
      rintro e v1 ⟨rfl, hv1⟩
      have HV1 := Lib.hid hv1
      clear hv1
      go_wp2_with fail
      refine (HA.out.is_ v1 HV1.out).mono ?_
      rintro e v2 ⟨rfl, rfl⟩
      go_wp2_with fail
      refine (HA.out.facts v1 HV1.out).mono ?_
      rintro e v2 ⟨fb, rfl, hv2⟩
      have HV2 := Lib.hid (below_trans HV1.out hv2)
      clear hv2
      have HVB := Lib.hid (HV2.out.alloc HV2.out.size (.cells #[ptrV bq, .int .i64 j, .string sd, .int .i64 lq, .map (some fb)] 61))
      obtain ⟨e1, e2⟩ := HA.out.cells _ HVB.out
      have hki0 : (0 : Int) ≤ k := Int.natCast_nonneg k
      have HBXF := Lib.hid (blk_new v2 (.cells #[ptrV bq, .int .i64 j, .string sd, .int .i64 lq, .map (some fb)] 61))
      have hbb : (bk != bk) = false := bne_self_eq_false bk
      obtain ⟨fb3, hfb3⟩ : ∃ x, x = v2 := ⟨_, rfl⟩
      have b1 : (v2.alloc (.cells #[ptrV bq, .int .i64 j, .string sd, .int .i64 lq, .map (some fb)] 61)).cell? ⟨v2.heap.size, 1, none⟩ = some (.int .i64 j) := blk_cell HBXF.out 1
      have b2 : (v2.alloc (.cells #[ptrV bq, .int .i64 j, .string sd, .int .i64 lq, .map (some fb)] 61)).cell? ⟨v2.heap.size, 2, none⟩ = some (.string sd) := blk_cell HBXF.out 2
      clear hfb3 fb3
      go_upto_region 46 with fail
      go_cut [192] (fun s192 wy => s192 = .bool false ∧ Below wr.heap.size wr wy)
      case first =>
        go_wp2_with fail
        go_quiet (fail)
        go_wp2_with fail
        go_meet
        exact ⟨rfl, below_trans HVB.out ⟨rfl, rfl, rfl, Nat.le_refl _, fun _ _ => rfl⟩⟩
      case rest =>
      obtain ⟨rfl, hbc⟩ := hcut
      have HBC := Lib.hid hbc
      have hcc := HA.out.cells _ hbc
      obtain ⟨g1, g2⟩ := hcc
      clear hbc e1 e2 b1 b2
      have HLB := Lib.hid (HA.out.level wc HBC.out)
      obtain ⟨bw, hbw⟩ : ∃ b, decide (usr k = S2.who) = b := ⟨_, rfl⟩
      have hwe : (us.toList == S2.who) = bw := by
        rw [← HA.out.name, Lib.toList_data, ← hbw]
        show (usr k == S2.who) = _
        rw [Bool.eq_iff_iff]; simp
      have HBW := Lib.hid hbw
      obtain ⟨z, hz⟩ : ∃ z, (if bw then S2.lev else wrap64 (10 + S2.lev)) = z := ⟨_, rfl⟩
      have HZ := Lib.hid hz
      clear hbw hz
      go_upto_if 197 with fail
      go_cut [32] (fun s32 wy => s32 = .int .i64 z ∧ wy = wc)
      case first =>
        cases bw
        all_goals
          go_wp2_with fail
          go_meet
          exact ⟨by rw [← HZ.out]; rfl, rfl⟩
      case rest =>
      obtain ⟨rfl, rfl⟩ := hcut
      clear hwe
      go_upto_if 200 with fail
      go_cut [32] (fun s32 wy => s32 = .int .i64 lv ∧ wy = wc)
      case first =>
        have HLV := Lib.hid (show lv = if sm then z else 0 by
          rw [HA.out.lev, HSM.out, ← HZ.out]
          cases sm with
          | false => rfl
          | true =>
            obtain ⟨_, _, r1, r2, _⟩ := HI2.out.lv HSM.out
            have hw : wrap64 (10 + S2.lev) = 10 + S2.lev := by unfold wrap64; omega
            rw [hw, ← HBW.out]
            simp)
        cases sm
        all_goals
          go_wp2_with fail
          go_meet
          exact ⟨by rw [HLV.out]; rfl, rfl⟩
      case rest =>
      obtain ⟨rfl, rfl⟩ := hcut
      go_wp2_with fail
      refine HLB.out.mono ?_
      rintro e v3 ⟨rfl, rfl⟩
      have hcs := cnt_succ S2.ins k
      rw [HA.out.isin] at hcs
      have HCS := Lib.hid hcs
      have HROWK := Lib.hid (show bk = true → ∃ gj, ja = some ⟨gj, 0, none⟩ ∧ wc.cell? ⟨gj, cntS S2.ins k, none⟩ = some (.string us) ∧ cntS S2.ins k < j from fun hb => by
        have h1 := HI2.out.joinAt hk5 (by rw [HA.out.isin, hb])
        obtain ⟨gj, h2, h3, h4⟩ := HROW.out _ _ h1
        refine ⟨gj, h2, ?_, by rw [← HJL.out]; exact (List.getElem?_eq_some_iff.1 h1).1⟩
        rw [(below_trans HBK.out HBC.out).cell (p := ⟨gj, cntS S2.ins k, none⟩) h3, h4, ← HA.out.name])
      have hcl := HI2.out.cntLe hk
      have HCN := Lib.hid (show cntS S2.ins (k + 1) = cntS S2.ins k + (if bk then 1 else 0) by rw [HCS.out]; cases bk <;> rfl)
      obtain ⟨cn, hcn⟩ : ∃ z, cntS S2.ins k = z := ⟨_, rfl⟩
      obtain ⟨cm, hcm⟩ : ∃ z, cntS S2.ins (k + 1) = z := ⟨_, rfl⟩
      rw [hcm, hcn] at HCN
      rw [hcn] at hcl HROWK ⊢
      have HCM := Lib.hid hcm
      have hk1 : (k : Int) + 1 ≤ 5 := by omega
      clear hcn hcm
      cases bk with
      | false =>
        have he := HCN.out
        simp only [Bool.false_eq_true, if_false, Nat.add_zero] at he
        subst he
        go_wp2_with fail
        go_roundw
        case rel => exact ⟨k + 1, by rw [HCM.out], by simp, by omega, below_trans HBK.out HBC.out⟩
        case measure => simp; omega
      | true =>
        have he := HCN.out
        simp only [if_true] at he
        subst he
        obtain ⟨gj, hja, hcell, hlt2⟩ := HROWK.out rfl
        subst hja
        have i1 : (0 : Int) ≤ cn := by omega
        have i2 : (cn : Int) < j := by omega
        have i3 : ¬ ((j : Int) ≤ cn) := by omega
        clear hlt2
        go_wp2_with fail
        go_roundw
        case rel => exact ⟨k + 1, by rw [HCM.out]; simp, by simp, by omega, below_trans HBK.out HBC.out⟩
        case measure => simp; omega

end Toc
