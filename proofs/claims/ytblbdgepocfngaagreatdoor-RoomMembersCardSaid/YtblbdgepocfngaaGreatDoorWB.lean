/-
  Names: The walks of package room's functions on names (of, cutLeft, cutRight, IsUser, IsRoom, IsEvent, Local): each answers what the plain functions of XPlain say, for every text; what lay in memory stays.
-/
import Derived.Test.YtblbdgepocfngaaGreatDoorW1
import Derived.Test.YtblbdgepocfngaaGreatDoorShelf
namespace Toc
open Go Go.RowKit Go.Proofs

set_option maxRecDepth 100000 in
set_option maxHeartbeats 1000000 in
theorem cutLeft_any (s set : ByteArray) (_hs : s.size ≤ 140737488351232) (_hs2 : set.size ≤ 1000) (ha : ∀ b ∈ set.data.toList, b.toNat < 128) (w : World) :
    Calls Tryz.prog 128 #[.string s, .string set] w fun e w' => e = .returned (.string (mkS (cutL set.data.toList s.data.toList))) ∧ Below w.heap.size w w' := by
  have hak : ∀ k (h : k < set.size), (set[k]'h).toNat < 128 := fun k h => by rw [← getElem_list set k h]; exact ha _ (List.getElem_mem _)
  go_enter Tryz.func128, Tryz.ntmps128
  go_wp2
  go_loopw [] (fun wr => ∃ pos : Nat, pos ≤ s.size ∧ (s.data.toList.take pos).all (fun b => set.data.toList.contains b) = true ∧ wr.heap[w.heap.size]? = some (.stringIter s pos) ∧ Below w.heap.size w wr) (fun wr => s.size - wr.iterPos w.heap.size)
  case atStart => exact ⟨0, Nat.zero_le _, by simp, World.iter_heap _ _ _, (Below.refl _ w).alloc (Nat.le_refl _) _⟩
  case round =>
    obtain ⟨pos, hple, hall, hit, hb⟩ := hrel
    have HA := Lib.hid hall; clear hall
    have hit' := (Array.getElem?_eq_some_iff.1 hit).1
    by_cases hlt : pos < s.size
    · have hn := fun ty => Lib.run_next_any_at (P := Tryz.prog) wr w.heap.size s pos ty hit hlt
      have hc := decode_le s pos
      have hwd := width_pos s pos hlt
      generalize hd : Utf8.decode s pos = d at hn hc hwd
      obtain ⟨c, wd⟩ := d
      dsimp only at hn hc hwd
      have HD := Lib.hid hd; clear hd
      have hb1 := Lib.below_iterAt hb (Nat.le_refl _) s (pos + wd)
      have hit1 := Lib.iterAt_heap wr w.heap.size s pos (pos + wd) hit
      have hpos : wr.iterPos w.heap.size = pos := by simp [World.iterPos, hit]
      generalize hw1 : wr.iterAt w.heap.size s (pos + wd) = w1 at hn hb1 hit1
      clear hw1 hb hit hit'
      have hsz := (Array.getElem?_eq_some_iff.1 hit1).1
      have HP := Lib.hid hpos; clear hpos
      have HB := Lib.hid hb1; have HI := Lib.hid hit1; clear hb1 hit1
      go_wp2
      go_loopw [7] (fun t wi => ∃ p : Nat, t = .bool (hasRune (set.data.toList.take p) c) ∧ wi.heap[w1.heap.size]? = some (.stringIter set p) ∧ Below w1.heap.size w1 wi) (fun _ wi => set.size - wi.iterPos w1.heap.size)
      case atStart => exact ⟨0, by simp [hasRune], World.iter_heap _ _ _, (Below.refl _ w1).alloc (Nat.le_refl _) _⟩
      case round =>
        obtain ⟨p, rfl, hit2, hb2⟩ := hrel
        by_cases hlt2 : p < set.size
        · have hn2 := fun ty => Lib.run_next_ascii_at (P := Tryz.prog) wr w1.heap.size set p ty hit2 hlt2 (hak p hlt2)
          have hst := hasRune_take set p c hlt2
          have hit3 := Lib.iterAt_heap wr w1.heap.size set p (p + 1) hit2
          have hb3 := Lib.below_iterAt hb2 (Nat.le_refl _) set (p + 1)
          have hps : (wr.iterAt w1.heap.size set (p + 1)).iterPos w1.heap.size = p + 1 := by simp [World.iterPos, hit3]
          have hps0 : wr.iterPos w1.heap.size = p := by simp [World.iterPos, hit2]
          generalize hw2 : wr.iterAt w1.heap.size set (p + 1) = w2 at hn2 hit3 hb3 hps
          clear hw2 hit2 hb2
          have HST := Lib.hid hst; have HP2 := Lib.hid hps; have HP3 := Lib.hid hps0; have HI3 := Lib.hid hit3; have HB3 := Lib.hid hb3
          clear hst hps hps0 hit3 hb3
          cases hin : hasRune (set.data.toList.take p) c
          · go_wp2
            go_roundw
            case rel => exact ⟨p + 1, by rw [HST.out, hin, Bool.false_or]; congr 1; rw [Bool.eq_iff_iff]; simp; omega, HI3.out, HB3.out⟩
            case measure => rw [HP2.out, HP3.out]; omega
          · go_wp2
            go_roundw
            case rel => exact ⟨p + 1, by rw [HST.out, hin]; rfl, HI3.out, HB3.out⟩
            case measure => rw [HP2.out, HP3.out]; omega
        · have hn2 := fun ty => Lib.run_next_end_at (P := Tryz.prog) wr w1.heap.size set p ty hit2 hlt2
          have hi9 : wr.heap[w.heap.size]? = some (.stringIter s (pos + wd)) := (hb2.block _ hsz).trans HI.out
          have HI9 := Lib.hid hi9; clear hi9
          have hb9 := HB.out.trans (hb2.mono (by omega))
          have HB9 := Lib.hid hb9; clear hb9
          cases hin : hasRune (set.data.toList.take p) c
          · go_wp2
            go_ret
            have hin' := hin
            rw [hasRune_all set p c (by omega)] at hin'
            have hst := cutL_stop set.data.toList s.data.toList pos HA.out (by simpa using hlt) (by rw [getElem_list s pos hlt]; exact no_byte ha s pos hlt HD.out hin')
            refine ⟨?_, HB9.out⟩
            rw [hst]
            exact congrArg (fun x => Ending.returned (.string x)) (extract_drop s pos)
          · go_wp2
            go_roundw
            case rel =>
              have hin' := hin
              rw [hasRune_all set p c (by omega)] at hin'
              obtain ⟨h1, h2⟩ := yes_byte ha s pos hlt HD.out hin'
              subst h2
              exact ⟨pos + 1, by omega, take_all_succ s pos hlt HA.out h1, HI9.out, HB9.out⟩
            case measure => rw [HP.out]; simp [World.iterPos, HI9.out]; omega
    · have hn := fun ty => Lib.run_next_end_at (P := Tryz.prog) wr w.heap.size s pos ty hit hlt
      go_wp2
      go_ret
      refine ⟨?_, hb⟩
      rw [cutL_end set.data.toList s.data.toList pos HA.out (by simp; omega)]
      rfl

set_option maxRecDepth 100000 in
set_option maxHeartbeats 1000000 in
theorem cutRight_any (s set : ByteArray) (hs : s.size ≤ 140737488351232) (_hs2 : set.size ≤ 1000) (ha : ∀ b ∈ set.data.toList, b.toNat < 128) (w : World) (hG : Glob w) :
    Calls Tryz.prog 127 #[.string s, .string set] w fun e w' => e = .returned (.string (mkS (cutR set.data.toList s.data.toList))) ∧ Below w.heap.size w w' := by
  have hak : ∀ k (h : k < set.size), (set[k]'h).toNat < 128 := fun k h => by rw [← getElem_list set k h]; exact ha _ (List.getElem_mem _)
  go_enter Tryz.func127, Tryz.ntmps127
  go_wp2
  go_loopw [0] (fun t wr => ∃ cur : ByteArray, t = .string cur ∧ cutR set.data.toList cur.data.toList = cutR set.data.toList s.data.toList ∧ cur.size ≤ s.size ∧ Below w.heap.size w wr) (fun t _ => strLen t)
  case atStart => exact ⟨s, rfl, rfl, Nat.le_refl _, Below.refl _ w⟩
  case round =>
    obtain ⟨cur, rfl, hcut, hle, hb⟩ := hrel
    have HC := Lib.hid hcut; clear hcut
    by_cases hlt : 0 < cur.size
    · have hne := ne_nil_of_size hlt
      have hltI : (0 : Int) < cur.size := by omega
      have hdl := decodeLast_le cur.data.toList hne
      have hdr := decodeLast_rune cur.data.toList
      have hcl := Tryz.utf8_DecodeLastRuneInString cur wr (by omega) (hG.below hb).u8
      generalize hd : Lib.decodeLastL cur.data.toList = d at hdl hdr hcl
      obtain ⟨c, n⟩ := d
      dsimp only at hdl hdr hcl
      have HD := Lib.hid hd; clear hd
      obtain ⟨hn1, hn2⟩ := hdl
      have hn3 : n ≤ cur.size := by rw [Lib.size_eq]; exact hn2
      clear hn2
      have HB := Lib.hid hb; clear hb
      have HCL := Lib.hid hcl; clear hcl
      go_wp2_with (go_at_call 196; refine HCL.out.mono ?_; rintro e w1 ⟨rfl, hb1⟩)
      have HB1 := Lib.hid (HB.out.trans (hb1.mono HB.out.size)); clear hb1
      have hsz := HB1.out.size
      go_loopw [7] (fun t wi => ∃ p : Nat, t = .bool (hasRune (set.data.toList.take p) c) ∧ wi.heap[w1.heap.size]? = some (.stringIter set p) ∧ Below w1.heap.size w1 wi) (fun _ wi => set.size - wi.iterPos w1.heap.size)
      case atStart => exact ⟨0, by simp [hasRune], World.iter_heap _ _ _, (Below.refl _ w1).alloc (Nat.le_refl _) _⟩
      case round =>
        obtain ⟨p, rfl, hit2, hb2⟩ := hrel
        by_cases hlt2 : p < set.size
        · have hn2 := fun ty => Lib.run_next_ascii_at (P := Tryz.prog) wr w1.heap.size set p ty hit2 hlt2 (hak p hlt2)
          have hst := hasRune_take set p c hlt2
          have hit3 := Lib.iterAt_heap wr w1.heap.size set p (p + 1) hit2
          have hb3 := Lib.below_iterAt hb2 (Nat.le_refl _) set (p + 1)
          have hps : (wr.iterAt w1.heap.size set (p + 1)).iterPos w1.heap.size = p + 1 := by simp [World.iterPos, hit3]
          have hps0 : wr.iterPos w1.heap.size = p := by simp [World.iterPos, hit2]
          generalize hw2 : wr.iterAt w1.heap.size set (p + 1) = w2 at hn2 hit3 hb3 hps
          clear hw2 hit2 hb2
          have HST := Lib.hid hst; have HP2 := Lib.hid hps; have HP3 := Lib.hid hps0; have HI3 := Lib.hid hit3; have HB3 := Lib.hid hb3
          clear hst hps hps0 hit3 hb3
          cases hin : hasRune (set.data.toList.take p) c
          · go_wp2
            go_roundw
            case rel => exact ⟨p + 1, by rw [HST.out, hin, Bool.false_or]; congr 1; rw [Bool.eq_iff_iff]; simp; omega, HI3.out, HB3.out⟩
            case measure => rw [HP2.out, HP3.out]; omega
          · go_wp2
            go_roundw
            case rel => exact ⟨p + 1, by rw [HST.out, hin]; rfl, HI3.out, HB3.out⟩
            case measure => rw [HP2.out, HP3.out]; omega
        · have hn2 := fun ty => Lib.run_next_end_at (P := Tryz.prog) wr w1.heap.size set p ty hit2 hlt2
          have HB9 := Lib.hid (HB1.out.trans (hb2.mono hsz))
          have hin0 := hasRune_all set p c (by omega)
          cases hin : hasRune (set.data.toList.take p) c
          · go_wp2
            go_ret
            rw [hin] at hin0
            refine ⟨?_, HB9.out⟩
            rw [← HC.out, lastRune_out ha _ hne HD.out hin0.symm, mkS_list]
            rfl
          · rw [hin] at hin0
            obtain ⟨h1, h2⟩ := lastRune_in ha _ hne HD.out hin0.symm
            have H2 := Lib.hid h2; clear h2 hin0
            subst h1
            go_wp2
            go_roundw
            case rel => exact ⟨cur.extract 0 (cur.size - 1), rfl, by rw [extract_take, list_mkS, ← HC.out, H2.out, Lib.size_eq], by simp; omega, HB9.out⟩
            case measure => simp [strLen]; omega
    · have hnil := nil_of_size hlt
      subst hnil
      go_wp2
      go_ret
      refine ⟨?_, hb⟩
      rw [← HC.out]; rfl

set_option maxRecDepth 100000 in
set_option maxHeartbeats 1000000 in
theorem of_any (s set : ByteArray) (hs : s.size ≤ 140737488351232) (hs2 : set.size ≤ 1000) (ha : ∀ b ∈ set.data.toList, b.toNat < 128) (w : World) (hG : Glob w) :
    Calls Tryz.prog 52 #[.string s, .string set] w fun e w' => e = .returned (.bool (ofB set.data.toList s.data.toList)) ∧ Below w.heap.size w w' := by
  by_cases h0 : 0 < s.size
  · have hne : s.toList.isEmpty = false := by
      rw [Lib.toList_data, List.isEmpty_eq_false_iff]; exact ne_nil_of_size h0
    have h1 := cutLeft_any s set hs hs2 ha w
    have H1 := Lib.hid h1; clear h1
    go_enter Tryz.func52, Tryz.ntmps52
    go_wp2_with (go_at_call 128; refine H1.out.mono ?_; rintro e w1 ⟨rfl, hb1⟩; have HB1 := Lib.hid hb1; clear hb1)
    have hc2 := cutRight_any (mkS (cutL set.data.toList s.data.toList)) set (by rw [size_mkS]; have := cutL_len set.data.toList s.data.toList; rw [← Lib.size_eq] at this; omega) hs2 ha w1 (hG.below HB1.out)
    rw [list_mkS] at hc2
    generalize hr : cutR set.data.toList (cutL set.data.toList s.data.toList) = r at hc2
    refine hc2.mono ?_
    rintro e w2 ⟨rfl, hb2⟩
    have HB2 := Lib.hid (below_trans HB1.out hb2)
    have HR := Lib.hid hr
    clear hb2 hc2 hr
    go_wp2
    go_ret
    refine ⟨ret_bool ?_, HB2.out⟩
    show List.isEmpty r = _
    rw [← HR.out, of_cuts]
    unfold ofB
    rw [List.isEmpty_eq_false_iff.2 (ne_nil_of_size h0)]; rfl
  · have hnil := nil_of_size h0
    subst hnil
    go_enter Tryz.func52, Tryz.ntmps52
    go_wp2
    go_ret
    exact ⟨rfl, Below.refl _ _⟩

set_option maxRecDepth 100000 in
set_option maxHeartbeats 1000000 in
/-- Cut at one byte, of any text. -/
theorem cutAt_any (s : ByteArray) (c : UInt8) (hs : s.size ≤ 140737488351232) (w : World) :
    Calls Tryz.prog 125 #[.string s, .string ⟨#[c]⟩] w fun e w' => (∃ a b f, e = .returned (.tuple #[.string a, .string b, .bool f]) ∧ CutIs c s a b f) ∧ Below w.heap.size w w' := by
  have hix := indexByte_cutC c s.data.toList
  cases hc : cutC c s.data.toList with
  | none =>
    rw [hc] at hix
    have h1 := Tryz.stringslite_Index_one s c w
    rw [hix] at h1
    have H1 := Lib.hid h1; clear h1 hix
    go_enter Tryz.func125, Tryz.ntmps125
    go_wp2_with (go_at_call 195; refine H1.out.mono ?_; rintro e w1 ⟨rfl, rfl⟩)
    go_ret3
    exact ⟨⟨_, _, _, rfl, by unfold CutIs; rw [hc]; exact ⟨rfl, rfl, rfl⟩⟩, Below.refl _ _⟩
  | some p =>
    obtain ⟨x, y⟩ := p
    rw [hc] at hix
    have h1 := Tryz.stringslite_Index_one s c w
    rw [hix] at h1
    have hs2 := (cutC_some hc).1
    have hlen : s.size = x.length + (y.length + 1) := by rw [Lib.size_eq, hs2]; simp
    dsimp only at h1
    generalize hn : x.length = n at h1 hlen
    have hle : n + 1 ≤ s.size := by omega
    have HL := Lib.hid hlen
    have H1 := Lib.hid h1
    have HN := Lib.hid hn
    clear h1 hix hlen hn
    have i1 : (0 : Int) ≤ n := by omega
    have i2 : (n : Int) + 1 ≤ s.size := by omega
    have i3 : (n : Int) ≤ s.size := by omega
    go_enter Tryz.func125, Tryz.ntmps125
    go_wp2_with (go_at_call 195; refine H1.out.mono ?_; rintro e w1 ⟨rfl, rfl⟩)
    go_quiet (fail)
    go_wp2
    go_ret3
    refine ⟨⟨_, _, _, rfl, ?_⟩, below_drewN (Below.refl _ _) _⟩
    unfold CutIs
    rw [hc]
    refine ⟨?_, ?_, rfl⟩
    · rw [extract_take, list_mkS, hs2, ← HN.out]; simp
    · rw [extract_drop, list_mkS, hs2, ← HN.out]; simp

set_option maxRecDepth 100000 in
set_option maxHeartbeats 1000000 in
theorem cut_any (s : ByteArray) (c : UInt8) (hs : s.size ≤ 140737488351232) (w : World) :
    Calls Tryz.prog 50 #[.string s, .string ⟨#[c]⟩] w fun e w' => (∃ a b f, e = .returned (.tuple #[.string a, .string b, .bool f]) ∧ CutIs c s a b f) ∧ Below w.heap.size w w' := by
  have H1 := Lib.hid (cutAt_any s c hs w)
  go_enter Tryz.func50, Tryz.ntmps50
  go_wp2_with (go_at_call 125; refine H1.out.mono ?_; rintro e w1 ⟨⟨a, b, f, rfl, hcut⟩, hb⟩; have HC := Lib.hid hcut; have HB := Lib.hid hb; clear hcut hb)
  go_ret3
  exact ⟨⟨a, b, f, rfl, HC.out⟩, HB.out⟩

/-- The answer of IsUser out of a cut. -/
theorem userB_cut {s a b : ByteArray} {f : Bool} (h : CutIs 58 s a b f) :
    userB s.data.toList = (decide (s.size ≤ 60) && f && Lib.hasPrefix a.data.toList [64] && ofB inUser (a.data.toList.drop 1) && ofB inHost b.data.toList) := by
  unfold CutIs at h
  unfold userB
  rw [Lib.size_eq]
  cases hc : cutC 58 s.data.toList with
  | none =>
    rw [hc] at h
    obtain ⟨rfl, h2, h3⟩ := h
    simp [h3]
  | some p =>
    obtain ⟨x, y⟩ := p
    rw [hc] at h
    obtain ⟨h1, h2, h3⟩ := h
    subst h3
    rw [h1, h2]
    cases x with
    | nil => simp [Lib.hasPrefix, List.isPrefixOf]
    | cons z zs =>
      by_cases hz : z = 64
      · subst hz; simp [Lib.hasPrefix, List.isPrefixOf, Bool.and_assoc]
      · have : (64 == z) = false := by rw [beq_eq_false_iff_ne]; exact fun e => hz e.symm
        simp [Lib.hasPrefix, List.isPrefixOf, this]
        split
        · rename_i h5; simp at h5; exact absurd h5.1.1 hz
        · simp

abbrev inUserS : ByteArray := ⟨#[97, 98, 99, 100, 101, 102, 103, 104, 105, 106, 107, 108, 109, 110, 111, 112, 113, 114, 115, 116, 117, 118, 119, 120, 121, 122, 48, 49, 50, 51, 52, 53, 54, 55, 56, 57, 46, 95, 45, 61, 47]⟩
abbrev inHostS : ByteArray := ⟨#[97, 98, 99, 100, 101, 102, 103, 104, 105, 106, 107, 108, 109, 110, 111, 112, 113, 114, 115, 116, 117, 118, 119, 120, 121, 122, 48, 49, 50, 51, 52, 53, 54, 55, 56, 57, 46, 45]⟩
abbrev inNameS : ByteArray := ⟨#[97, 98, 99, 100, 101, 102, 103, 104, 105, 106, 107, 108, 109, 110, 111, 112, 113, 114, 115, 116, 117, 118, 119, 120, 121, 122, 65, 66, 67, 68, 69, 70, 71, 72, 73, 74, 75, 76, 77, 78, 79, 80, 81, 82, 83, 84, 85, 86, 87, 88, 89, 90, 48, 49, 50, 51, 52, 53, 54, 55, 56, 57, 46, 95, 45, 61, 47, 58]⟩

theorem ofUser_any (s : ByteArray) {l : Bytes} (hl : s.data.toList = l) {b : Bool} (hb : ofB inUser l = b) (hs : s.size ≤ 140737488351232) (w : World) (hG : Glob w) :
    Calls Tryz.prog 52 #[.string s, .string inUserS] w fun e w' => e = .returned (.bool b) ∧ Below w.heap.size w w' := by
  subst hl; subst hb
  exact of_any s inUserS hs (by decide) (by decide) w hG
theorem ofHost_any (s : ByteArray) {l : Bytes} (hl : s.data.toList = l) {b : Bool} (hb : ofB inHost l = b) (hs : s.size ≤ 140737488351232) (w : World) (hG : Glob w) :
    Calls Tryz.prog 52 #[.string s, .string inHostS] w fun e w' => e = .returned (.bool b) ∧ Below w.heap.size w w' := by
  subst hl; subst hb
  exact of_any s inHostS hs (by decide) (by decide) w hG
theorem ofName_any (s : ByteArray) {l : Bytes} (hl : s.data.toList = l) {b : Bool} (hb : ofB inName l = b) (hs : s.size ≤ 140737488351232) (w : World) (hG : Glob w) :
    Calls Tryz.prog 52 #[.string s, .string inNameS] w fun e w' => e = .returned (.bool b) ∧ Below w.heap.size w w' := by
  subst hl; subst hb
  exact of_any s inNameS hs (by decide) (by decide) w hG

set_option maxRecDepth 100000 in
set_option maxHeartbeats 2000000 in
theorem isUser_any (s : ByteArray) (hs : s.size ≤ 140737488351232) (w : World) (hG : Glob w) :
    Calls Tryz.prog 10 #[.string s] w fun e w' => e = .returned (.bool (userB s.data.toList)) ∧ Below w.heap.size w w' := by
  have H1 := Lib.hid (cut_any s 58 hs w)
  go_enter Tryz.func10, Tryz.ntmps10
  go_wp2_with (go_at_call 50; refine H1.out.mono ?_; rintro e w1 ⟨⟨a, b, f, rfl, hcut⟩, hb⟩; have HC := Lib.hid hcut; have HB := Lib.hid hb; clear hcut hb)
  · have hp1 := Tryz.strings_HasPrefix a ⟨#[64]⟩ w1
    have hsz := cutIs_size HC.out
    have hans := userB_cut HC.out
    have hf : f = true := by assumption
    have h60 : (s.size : Int) ≤ 60 := by assumption
    rw [hf, decide_eq_true (by omega : s.size ≤ 60)] at hans
    have HA := Lib.hid hans
    clear hans hf
    obtain ⟨hsa, hsb⟩ := hsz
    cases hp : Lib.hasPrefix a.data.toList [64] with
    | false =>
      rw [hp] at hp1
      refine hp1.mono ?_
      rintro e w2 ⟨rfl, rfl⟩
      go_wp2
      go_ret
      exact ⟨ret_bool (by rw [HA.out, hp]; rfl), HB.out⟩
    | true =>
      rw [hp] at hp1
      have ha1 : 1 ≤ a.size := hasPrefix_size hp
      have ha1i : (1 : Int) ≤ a.size := by omega
      have hx : (a.extract 1 a.size).data.toList = a.data.toList.drop 1 := by rw [extract_drop]
      cases hu : ofB inUser (a.data.toList.drop 1) with
      | false =>
        have H2 := Lib.hid (ofUser_any _ hx hu (Nat.le_trans (extract_size_le _ _ _) (by omega)) w1 (hG.below HB.out))
        rw [hp, hu] at HA
        clear hu hx
        refine hp1.mono ?_
        rintro e w2 ⟨rfl, rfl⟩
        go_wp2_with fail
        refine H2.out.mono ?_
        rintro e w3 ⟨rfl, hb3⟩
        have HB3 := Lib.hid (below_trans HB.out hb3)
        clear hb3 H2
        go_wp2_with fail
        go_ret
        exact ⟨ret_bool (by rw [HA.out]; rfl), HB3.out⟩
      | true =>
        have H2 := Lib.hid (ofUser_any _ hx hu (Nat.le_trans (extract_size_le _ _ _) (by omega)) w1 (hG.below HB.out))
        rw [hp, hu] at HA
        clear hu hx
        refine hp1.mono ?_
        rintro e w2 ⟨rfl, rfl⟩
        go_wp2_with fail
        refine H2.out.mono ?_
        rintro e w3 ⟨rfl, hb3⟩
        have HB3 := Lib.hid (below_trans HB.out hb3)
        clear hb3 H2
        cases hh : ofB inHost b.data.toList
        all_goals
          have H3 := Lib.hid (ofHost_any b rfl hh (by omega) w3 (hG.below HB3.out))
          rw [hh] at HA
          clear hh
          go_wp2_with fail
          refine H3.out.mono ?_
          rintro e w4 ⟨rfl, hb4⟩
          have HB4 := Lib.hid (below_trans HB3.out hb4)
          clear hb4 H3
          go_wp2_with fail
          go_ret
          exact ⟨ret_bool (by rw [HA.out]; rfl), HB4.out⟩
  · go_ret
    have hf : ¬ f = true := by assumption
    exact ⟨ret_bool (by rw [userB_cut HC.out, Bool.eq_false_iff.2 hf, Bool.and_false]; rfl), HB.out⟩
  · go_ret
    have h60 : 60 < (s.size : Int) := by assumption
    exact ⟨ret_bool (by rw [userB_cut HC.out, decide_eq_false (by omega)]; rfl), HB.out⟩

theorem namedB_eq (x : UInt8) (s : Bytes) : namedB x s = (decide (s.length ≤ 60) && Lib.hasPrefix s [x] && ofB inName (Lib.trimPrefix s [x])) := by
  unfold namedB Lib.trimPrefix Lib.hasPrefix
  cases s with
  | nil => simp [List.isPrefixOf]
  | cons y ys =>
    by_cases h : y = x
    · subst h; simp [List.isPrefixOf]
    · have h1 : (x == y) = false := by rw [beq_eq_false_iff_ne]; exact fun e => h e.symm
      have h2 : (y == x) = false := by rw [beq_eq_false_iff_ne]; exact h
      simp [List.isPrefixOf, h1, h2]

theorem trimPrefix_len (s p : Bytes) : (Lib.trimPrefix s p).length ≤ s.length := by
  unfold Lib.trimPrefix
  split
  · simp
  · exact Nat.le_refl _

set_option maxRecDepth 100000 in
set_option maxHeartbeats 1000000 in
theorem named_any (s : ByteArray) (x : UInt8) {l : Bytes} (hl : s.data.toList = l) {b : Bool} (hb : namedB x l = b) (hs : s.size ≤ 140737488351232) (w : World) (hG : Glob w) :
    Calls Tryz.prog 53 #[.string s, .string ⟨#[x]⟩] w fun e w' => e = .returned (.bool b) ∧ Below w.heap.size w w' := by
  subst hl
  rw [namedB_eq, ← Lib.size_eq] at hb
  have h1 := Tryz.strings_CutPrefix s ⟨#[x]⟩ w
  have hlen := trimPrefix_len s.data.toList [x]
  rw [← Lib.size_eq] at hlen
  dsimp only at h1
  generalize Lib.trimPrefix s.data.toList [x] = t at h1 hb hlen
  generalize Lib.hasPrefix s.data.toList [x] = f at h1 hb
  obtain ⟨m, hm⟩ : ∃ m : ByteArray, (⟨t.toArray⟩ : ByteArray) = m := ⟨_, rfl⟩
  rw [hm] at h1
  have hmt : m.data.toList = t := by rw [← hm]
  have hms : m.size ≤ 140737488351232 := by rw [Lib.size_eq, hmt]; omega
  obtain ⟨n, hn⟩ : ∃ n, ofB inName t = n := ⟨_, rfl⟩
  rw [hn] at hb
  have HBB := Lib.hid hb
  have H1 := Lib.hid h1
  have HM := Lib.hid hmt
  have HN := Lib.hid hn
  clear hb h1 hm hmt hn hlen
  go_enter Tryz.func53, Tryz.ntmps53
  go_wp2_with fail
  refine H1.out.mono ?_
  rintro e w1 ⟨rfl, rfl⟩
  clear H1
  go_wp2_with fail
  · have h60 : (s.size : Int) ≤ 60 := by assumption
    have hf : f = true := by assumption
    refine (ofName_any m HM.out HN.out hms _ hG).mono ?_
    rintro e w1 ⟨rfl, hb1⟩
    go_wp2_with fail
    go_ret
    exact ⟨ret_bool (by show n = b; rw [← HBB.out, hf, decide_eq_true (by omega : s.size ≤ 60)]; simp), hb1⟩
  · have hf : ¬ f = true := by assumption
    go_ret
    exact ⟨ret_bool (by rw [← HBB.out, Bool.eq_false_iff.2 hf]; simp), Below.refl _ _⟩
  · have h60 : 60 < (s.size : Int) := by assumption
    go_ret
    exact ⟨ret_bool (by rw [← HBB.out, decide_eq_false (by omega : ¬ s.size ≤ 60)]; simp), Below.refl _ _⟩

set_option maxRecDepth 100000 in
theorem isRoom_any (s : ByteArray) {b : Bool} (hb : roomB s.data.toList = b) (hs : s.size ≤ 140737488351232) (w : World) (hG : Glob w) :
    Calls Tryz.prog 11 #[.string s] w fun e w' => e = .returned (.bool b) ∧ Below w.heap.size w w' := by
  have H1 := Lib.hid (named_any s 33 rfl hb hs w hG)
  clear hb
  go_enter Tryz.func11, Tryz.ntmps11
  go_wp2_with fail
  refine H1.out.mono ?_
  rintro e w1 ⟨rfl, hb1⟩
  go_wp2_with fail
  go_ret
  exact ⟨rfl, hb1⟩

set_option maxRecDepth 100000 in
theorem isEvent_any (s : ByteArray) {b : Bool} (hb : eventB s.data.toList = b) (hs : s.size ≤ 140737488351232) (w : World) (hG : Glob w) :
    Calls Tryz.prog 12 #[.string s] w fun e w' => e = .returned (.bool b) ∧ Below w.heap.size w w' := by
  have H1 := Lib.hid (named_any s 36 rfl hb hs w hG)
  clear hb
  go_enter Tryz.func12, Tryz.ntmps12
  go_wp2_with fail
  refine H1.out.mono ?_
  rintro e w1 ⟨rfl, hb1⟩
  go_wp2_with fail
  go_ret
  exact ⟨rfl, hb1⟩

theorem isUser_is (s : ByteArray) {b : Bool} (hb : userB s.data.toList = b) (hs : s.size ≤ 140737488351232) (w : World) (hG : Glob w) :
    Calls Tryz.prog 10 #[.string s] w fun e w' => e = .returned (.bool b) ∧ Below w.heap.size w w' := by
  subst hb; exact isUser_any s hs w hG

theorem localB_cut {s a b : ByteArray} {f : Bool} (h : CutIs 58 s a b f) : localB s.data.toList = (userB s.data.toList && (b.data.toList == homeS)) := by
  unfold CutIs at h
  unfold localB
  cases hc : cutC 58 s.data.toList with
  | none =>
    have hu : userB s.data.toList = false := by unfold userB; rw [hc]; simp
    rw [hu]; rfl
  | some p =>
    obtain ⟨x, y⟩ := p
    rw [hc] at h
    rw [h.2.1]

set_option maxRecDepth 100000 in
set_option maxHeartbeats 1000000 in
theorem local_any (s : ByteArray) {b : Bool} (hb : localB s.data.toList = b) (hs : s.size ≤ 140737488351232) (w : World) (hG : Glob w) :
    Calls Tryz.prog 13 #[.string s] w fun e w' => e = .returned (.bool b) ∧ Below w.heap.size w w' := by
  have H1 := Lib.hid (cut_any s 58 hs w)
  obtain ⟨u, hu⟩ : ∃ u, userB s.data.toList = u := ⟨_, rfl⟩
  have HU := Lib.hid hu
  have HBB := Lib.hid hb
  clear hu hb
  go_enter Tryz.func13, Tryz.ntmps13
  go_wp2_with fail
  refine H1.out.mono ?_
  rintro e w1 ⟨⟨x, y, f, rfl, hc⟩, hb1⟩
  have HC := Lib.hid hc
  have HB1 := Lib.hid hb1
  clear hc hb1 H1
  go_wp2_with fail
  refine (isUser_is s HU.out hs w1 (hG.below HB1.out)).mono ?_
  rintro e w2 ⟨rfl, hb2⟩
  have HB2 := Lib.hid (below_trans HB1.out hb2)
  clear hb2
  go_wp2_with fail
  · have hu : u = true := by assumption
    go_ret
    exact ⟨ret_bool (by show (y.toList == [104, 111, 109, 101]) = b; rw [← HBB.out, localB_cut HC.out, HU.out, hu, Lib.toList_data]; rfl), HB2.out⟩
  · have hu : ¬ u = true := by assumption
    go_ret
    exact ⟨ret_bool (by rw [← HBB.out, localB_cut HC.out, HU.out, Bool.eq_false_iff.2 hu]; rfl), HB2.out⟩

end Toc
