/-
  Rseq: The document's Sequence: how many bytes the rune has with which a text begins.
  Rhex: The document's reader: hex, point.
  Rr6: The document's reader: point, encoded.
  Rr7: The document's reader: escape.
  Rr8: The document's reader: text.
-/
import Derived.Test.YtblbdgepocfngaaGreatDoorWQ
import Derived.Lib.DecodeN
import Derived.Lib.RuneBytes
import Derived.Test.YtblbdgepocfngaaGreatDoorW7
import Derived.Laws.OwnMore
import Derived.Deep.AppendLies
import Derived.Deep.RegionHeld3
import Derived.StillTailTactics
import Derived.Lib.AppendStr
namespace Toc
open Go Go.RowKit Go.Proofs

/-- The width of the rune at the head; 0: no right one. -/
def seqW (l : Bytes) : Nat := match l with | [] => 0 | c :: _ => if c.toNat < 128 then 1 else if (headRune l).2 = 1 then 0 else (headRune l).2
def okAt (l : Bytes) (k LO HI : Nat) : Prop := (if k = 1 then LO else 128) ≤ (l.getD k 0).toNat ∧ (l.getD k 0).toNat ≤ (if k = 1 then HI else 191)
/-- What Sequence gives. -/
def SeqRet (n : Nat) (x : Ending) : Prop := ∃ cut, x = .returned (.tuple #[.int .i64 n, .bool cut])
theorem seq_spec {l : Bytes} (hl : l ≠ []) {SZ LO HI : Nat} (h128 : 128 ≤ (l.getD 0 0).toNat) (hsz : SZ = 2 ∨ SZ = 3 ∨ SZ = 4)
    (hs : Lib.slowN l.length (l.getD 0 0).toNat (l.getD 1 0).toNat (l.getD 2 0).toNat (l.getD 3 0).toNat SZ LO HI = Lib.decodeN l.length (l.getD 0 0).toNat (l.getD 1 0).toNat (l.getD 2 0).toNat (l.getD 3 0).toNat) :
    (SZ ≤ l.length → (∀ k, 1 ≤ k → k < SZ → okAt l k LO HI) → seqW l = SZ) ∧ (l.length < SZ → seqW l = 0) ∧ (∀ k, 1 ≤ k → k < SZ → ¬ okAt l k LO HI → seqW l = 0) := by
  have hw : seqW l = if (headRune l).2 = 1 then 0 else (headRune l).2 := by
    cases l with
    | nil => exact absurd rfl hl
    | cons c r =>
      unfold seqW
      dsimp only
      rw [if_neg (by simp at h128; omega)]
  have hh : headRune l = Lib.slowN l.length (l.getD 0 0).toNat (l.getD 1 0).toNat (l.getD 2 0).toNat (l.getD 3 0).toNat SZ LO HI := hs.symm
  have key : headRune l = (65533, 1) → seqW l = 0 := fun h => by rw [hw, h]; rfl
  refine ⟨fun h1 h2 => ?_, fun h1 => ?_, fun k hk1 hk2 hno => ?_⟩
  · have k1 := h2 1 (by omega) (by omega)
    unfold okAt at k1
    simp only [if_true] at k1
    have e : ∃ x, Lib.slowN l.length (l.getD 0 0).toNat (l.getD 1 0).toNat (l.getD 2 0).toNat (l.getD 3 0).toNat SZ LO HI = (x, SZ) := by
      unfold Lib.slowN
      rw [if_neg (by omega), if_neg (by omega)]
      rcases hsz with rfl | rfl | rfl
      · exact ⟨_, rfl⟩
      · have k2 := h2 2 (by omega) (by omega)
        unfold okAt at k2
        rw [if_neg (by omega), if_neg (by omega)] at k2
        rw [if_neg (by omega), if_neg (by omega)]; exact ⟨_, rfl⟩
      · have k2 := h2 2 (by omega) (by omega)
        have k3 := h2 3 (by omega) (by omega)
        unfold okAt at k2 k3
        rw [if_neg (by omega), if_neg (by omega)] at k2 k3
        rw [if_neg (by omega), if_neg (by omega), if_neg (by omega), if_neg (by omega)]; exact ⟨_, rfl⟩
    obtain ⟨x, e⟩ := e
    rw [hw, hh, e]
    exact if_neg (by show ¬ SZ = 1; omega)
  · refine key ?_
    rw [hh]; unfold Lib.slowN; rw [if_pos h1]
  · refine key ?_
    rw [hh]; unfold Lib.slowN
    by_cases hn : l.length < SZ
    · rw [if_pos hn]
    · rw [if_neg hn]
      unfold okAt at hno
      by_cases hb1 : (l.getD 1 0).toNat < LO ∨ HI < (l.getD 1 0).toNat
      · rw [if_pos hb1]
      · rw [if_neg hb1]
        have hk : k = 2 ∨ k = 3 := by
          rcases Nat.lt_or_ge k 2 with h | h
          · have : k = 1 := by omega
            subst this
            simp only [if_true] at hno
            omega
          · omega
        rcases hk with rfl | rfl
        · simp only [show ¬ (2 = 1) by omega, if_false] at hno
          rw [if_neg (by omega), if_pos (by omega)]
        · simp only [show ¬ (3 = 1) by omega, if_false] at hno
          rw [if_neg (by omega)]
          by_cases hb2 : (l.getD 2 0).toNat < 128 ∨ 191 < (l.getD 2 0).toNat
          · rw [if_pos hb2]
          · rw [if_neg hb2, if_neg (by omega), if_pos (by omega)]
theorem seq_odd {l : Bytes} (hl : l ≠ []) (h : 128 ≤ (l.getD 0 0).toNat ∧ (l.getD 0 0).toNat < 194 ∨ 244 < (l.getD 0 0).toNat) (hlt : ∀ k, (l.getD k 0).toNat < 256) : seqW l = 0 := by
  have h0 := hlt 0
  have h1 := hlt 1
  have h2 := hlt 2
  have h3 := hlt 3
  have hh : headRune l = (65533, 1) := by
    unfold headRune Lib.decodeN
    generalize (l.getD 0 0).toNat = b0 at *
    generalize (l.getD 1 0).toNat = b1 at *
    generalize (l.getD 2 0).toNat = b2 at *
    generalize (l.getD 3 0).toNat = b3 at *
    repeat' split
    all_goals first | rfl | (exfalso; omega)
  cases l with
  | nil => exact absurd rfl hl
  | cons c r =>
    unfold seqW
    dsimp only
    rw [if_neg (by simp at h; omega), hh]; rfl
theorem getD_lt (l : Bytes) (k : Nat) : (l.getD k 0).toNat < 256 := (l.getD k 0).toNat_lt
theorem getD_get (s : ByteArray) (k : Nat) (h : k < s.size) : s.data.toList.getD k 0 = s[k]'h := by
  have hl : k < s.data.toList.length := by rw [← Lib.size_eq]; exact h
  rw [List.getD_eq_getElem?_getD, List.getElem?_eq_getElem hl]; rfl

set_option maxRecDepth 100000 in
set_option maxHeartbeats 4000000 in
theorem rseq_C2 (s : ByteArray) (h0 : 0 < s.size) (hz : (194 : Int) ≤ (s[0]'h0).toNat ∧ ((s[0]'h0).toNat : Int) ≤ 223) (hs : s.size ≤ 140737488351232) (w : World) :
    Calls Tryz.prog 240 #[.string s] w fun x w' => w = w' ∧ SeqRet (seqW s.data.toList) x := by
  obtain ⟨z, hzz⟩ : ∃ z : Int, ((s[0]'h0).toNat : Int) = z := ⟨_, rfl⟩
  have hne : s.data.toList ≠ [] := ne_nil_of_size h0
  have hg0 : (s.data.toList.getD 0 0).toNat = (s[0]'h0).toNat := by rw [getD_get s 0 h0]
  have hlen : 1 ≤ s.data.toList.length := by rw [← Lib.size_eq]; exact h0
  have SP := Lib.hid (seq_spec hne (SZ := 2) (LO := 128) (HI := 191) (by omega) (by decide) (Lib.slow_C2 _ _ _ _ _ hlen (getD_lt _ _) (getD_lt _ _) (getD_lt _ _) (by omega)))
  rw [hzz] at hz
  obtain ⟨z1, z2⟩ := hz
  have z1' : 0 ≤ z := by omega
  have z2' : z ≤ 255 := by omega
  have m224 : ¬ z = 224 := by omega
  have mm224 : (z == 224) = false := by simpa using m224
  have m237 : ¬ z = 237 := by omega
  have mm237 : (z == 237) = false := by simpa using m237
  have m240 : ¬ z = 240 := by omega
  have mm240 : (z == 240) = false := by simpa using m240
  have m244 : ¬ z = 244 := by omega
  have mm244 : (z == 244) = false := by simpa using m244
  have h0i : (0 : Int) < s.size := by omega
  have hse : s.toList.isEmpty = false := by rw [Lib.toList_data, List.isEmpty_eq_false_iff]; exact hne
  clear hg0 hlen hne
  go_enter Tryz.func240, Tryz.ntmps240
  go_wp2_with fail
  go_loopw [8, 6, 7] (fun s8 s6 s7 wr => ∃ i lo hi : Nat, s8 = .int .i64 i ∧ s6 = .int .i64 lo ∧ s7 = .int .i64 hi ∧ lo = (if i = 1 then 128 else 128) ∧ hi = (if i = 1 then 191 else 191) ∧ 1 ≤ i ∧ i ≤ 2 ∧ i ≤ s.size ∧ (∀ k, 1 ≤ k → k < i → okAt s.data.toList k 128 191) ∧ wr = w) (fun s8 _ _ _ => match s8 with | .int _ x => 2 - x.toNat | _ => 0)
  case atStart => exact ⟨1, 128, 191, rfl, rfl, rfl, rfl, rfl, by omega, by omega, h0, fun k h1 h2 => by omega, rfl⟩
  case round =>
    obtain ⟨i, lo, hi, rfl, rfl, rfl, hlo, hhi, hi1, hi2, hi3, hall, rfl⟩ := hrel
    have HLO := Lib.hid hlo
    have HHI := Lib.hid hhi
    have HALL := Lib.hid hall
    have hlo2 : lo ≤ 255 := by rw [hlo]; split <;> omega
    have hhi2 : hi ≤ 255 := by rw [hhi]; split <;> omega
    clear hlo hhi hall
    by_cases hlt : i < 2
    · have hlti : (i : Int) < 2 := by omega
      by_cases hle : i < s.size
      · have hlei : ((i : Int) == (s.size : Int)) = false := by simp; omega
        obtain ⟨c, hc⟩ : ∃ c, s[i]'hle = c := ⟨_, rfl⟩
        have hcg : (s.data.toList.getD i 0).toNat = c.toNat := by rw [getD_get s i hle, hc]
        have HCG := Lib.hid hcg
        have hcl := c.toNat_lt
        have hbad : (c.toNat < lo ∨ hi < c.toNat) → seqW s.data.toList = 0 := fun h => SP.out.2.2 i hi1 hlt (by unfold okAt; rw [← HLO.out, ← HHI.out, HCG.out]; omega)
        have HBAD := Lib.hid hbad
        clear hcg hbad
        by_cases hb1 : c.toNat < lo
        · have hb1i : (c.toNat : Int) < lo := by omega
          have HW := Lib.hid (HBAD.out (.inl hb1))
          go_wp2_with fail
          go_ret2
          exact ⟨by first | rfl | trivial, _, by rw [HW.out]; rfl⟩
        · have hb1i : ¬ (c.toNat : Int) < lo := by omega
          have hb1j : (lo : Int) ≤ c.toNat := by omega
          by_cases hb2 : hi < c.toNat
          · have hb2i : (hi : Int) < c.toNat := by omega
            have HW := Lib.hid (HBAD.out (.inr hb2))
            go_wp2_with fail
            go_ret2
            exact ⟨by first | rfl | trivial, _, by rw [HW.out]; rfl⟩
          · have hb2i : (c.toNat : Int) ≤ hi := by omega
            go_wp2_with fail
            go_roundw
            case rel =>
              refine ⟨i + 1, 128, 191, by simp, rfl, rfl, by rw [if_neg (by omega)], by rw [if_neg (by omega)], by omega, by omega, by omega, fun k h1 h2 => ?_, by first | rfl | trivial⟩
              by_cases hk : k = i
              · subst hk
                unfold okAt
                rw [← HLO.out, ← HHI.out, HCG.out]; omega
              · exact HALL.out k h1 (by omega)
            case measure => simp; omega
      · have hle' : i = s.size := by omega
        have HW := Lib.hid (SP.out.2.1 (by rw [← Lib.size_eq]; omega))
        have hlei : ((i : Int) == (s.size : Int)) = true := by simp; omega
        go_wp2_with fail
        go_ret2
        exact ⟨by first | rfl | trivial, _, by rw [HW.out]; rfl⟩
    · have hie : i = 2 := by omega
      subst hie
      have HW := Lib.hid (SP.out.1 (by rw [← Lib.size_eq]; omega) (fun k h1 h2 => HALL.out k h1 h2))
      go_wp2_with fail
      go_ret2
      exact ⟨by first | rfl | trivial, _, by rw [HW.out]; rfl⟩

set_option maxRecDepth 100000 in
set_option maxHeartbeats 4000000 in
theorem rseq_E0 (s : ByteArray) (h0 : 0 < s.size) (hz : (224 : Int) ≤ (s[0]'h0).toNat ∧ ((s[0]'h0).toNat : Int) ≤ 224) (hs : s.size ≤ 140737488351232) (w : World) :
    Calls Tryz.prog 240 #[.string s] w fun x w' => w = w' ∧ SeqRet (seqW s.data.toList) x := by
  obtain ⟨z, hzz⟩ : ∃ z : Int, ((s[0]'h0).toNat : Int) = z := ⟨_, rfl⟩
  have hne : s.data.toList ≠ [] := ne_nil_of_size h0
  have hg0 : (s.data.toList.getD 0 0).toNat = (s[0]'h0).toNat := by rw [getD_get s 0 h0]
  have hlen : 1 ≤ s.data.toList.length := by rw [← Lib.size_eq]; exact h0
  have SP := Lib.hid (seq_spec hne (SZ := 3) (LO := 160) (HI := 191) (by omega) (by decide) (Lib.slow_E0 _ _ _ _ _ hlen (getD_lt _ _) (getD_lt _ _) (getD_lt _ _) (by omega)))
  rw [hzz] at hz
  obtain ⟨z1, z2⟩ := hz
  have z1' : 0 ≤ z := by omega
  have z2' : z ≤ 255 := by omega
  obtain rfl : z = 224 := by omega
  have h0i : (0 : Int) < s.size := by omega
  have hse : s.toList.isEmpty = false := by rw [Lib.toList_data, List.isEmpty_eq_false_iff]; exact hne
  clear hg0 hlen hne
  go_enter Tryz.func240, Tryz.ntmps240
  go_wp2_with fail
  go_loopw [8, 6, 7] (fun s8 s6 s7 wr => ∃ i lo hi : Nat, s8 = .int .i64 i ∧ s6 = .int .i64 lo ∧ s7 = .int .i64 hi ∧ lo = (if i = 1 then 160 else 128) ∧ hi = (if i = 1 then 191 else 191) ∧ 1 ≤ i ∧ i ≤ 3 ∧ i ≤ s.size ∧ (∀ k, 1 ≤ k → k < i → okAt s.data.toList k 160 191) ∧ wr = w) (fun s8 _ _ _ => match s8 with | .int _ x => 3 - x.toNat | _ => 0)
  case atStart => exact ⟨1, 160, 191, rfl, rfl, rfl, rfl, rfl, by omega, by omega, h0, fun k h1 h2 => by omega, rfl⟩
  case round =>
    obtain ⟨i, lo, hi, rfl, rfl, rfl, hlo, hhi, hi1, hi2, hi3, hall, rfl⟩ := hrel
    have HLO := Lib.hid hlo
    have HHI := Lib.hid hhi
    have HALL := Lib.hid hall
    have hlo2 : lo ≤ 255 := by rw [hlo]; split <;> omega
    have hhi2 : hi ≤ 255 := by rw [hhi]; split <;> omega
    clear hlo hhi hall
    by_cases hlt : i < 3
    · have hlti : (i : Int) < 3 := by omega
      by_cases hle : i < s.size
      · have hlei : ((i : Int) == (s.size : Int)) = false := by simp; omega
        obtain ⟨c, hc⟩ : ∃ c, s[i]'hle = c := ⟨_, rfl⟩
        have hcg : (s.data.toList.getD i 0).toNat = c.toNat := by rw [getD_get s i hle, hc]
        have HCG := Lib.hid hcg
        have hcl := c.toNat_lt
        have hbad : (c.toNat < lo ∨ hi < c.toNat) → seqW s.data.toList = 0 := fun h => SP.out.2.2 i hi1 hlt (by unfold okAt; rw [← HLO.out, ← HHI.out, HCG.out]; omega)
        have HBAD := Lib.hid hbad
        clear hcg hbad
        by_cases hb1 : c.toNat < lo
        · have hb1i : (c.toNat : Int) < lo := by omega
          have HW := Lib.hid (HBAD.out (.inl hb1))
          go_wp2_with fail
          go_ret2
          exact ⟨by first | rfl | trivial, _, by rw [HW.out]; rfl⟩
        · have hb1i : ¬ (c.toNat : Int) < lo := by omega
          have hb1j : (lo : Int) ≤ c.toNat := by omega
          by_cases hb2 : hi < c.toNat
          · have hb2i : (hi : Int) < c.toNat := by omega
            have HW := Lib.hid (HBAD.out (.inr hb2))
            go_wp2_with fail
            go_ret2
            exact ⟨by first | rfl | trivial, _, by rw [HW.out]; rfl⟩
          · have hb2i : (c.toNat : Int) ≤ hi := by omega
            go_wp2_with fail
            go_roundw
            case rel =>
              refine ⟨i + 1, 128, 191, by simp, rfl, rfl, by rw [if_neg (by omega)], by rw [if_neg (by omega)], by omega, by omega, by omega, fun k h1 h2 => ?_, by first | rfl | trivial⟩
              by_cases hk : k = i
              · subst hk
                unfold okAt
                rw [← HLO.out, ← HHI.out, HCG.out]; omega
              · exact HALL.out k h1 (by omega)
            case measure => simp; omega
      · have hle' : i = s.size := by omega
        have HW := Lib.hid (SP.out.2.1 (by rw [← Lib.size_eq]; omega))
        have hlei : ((i : Int) == (s.size : Int)) = true := by simp; omega
        go_wp2_with fail
        go_ret2
        exact ⟨by first | rfl | trivial, _, by rw [HW.out]; rfl⟩
    · have hie : i = 3 := by omega
      subst hie
      have HW := Lib.hid (SP.out.1 (by rw [← Lib.size_eq]; omega) (fun k h1 h2 => HALL.out k h1 h2))
      go_wp2_with fail
      go_ret2
      exact ⟨by first | rfl | trivial, _, by rw [HW.out]; rfl⟩

set_option maxRecDepth 100000 in
set_option maxHeartbeats 4000000 in
theorem rseq_E1 (s : ByteArray) (h0 : 0 < s.size) (hz : (225 : Int) ≤ (s[0]'h0).toNat ∧ ((s[0]'h0).toNat : Int) ≤ 239) (h237 : ((s[0]'h0).toNat : Int) ≠ 237) (hs : s.size ≤ 140737488351232) (w : World) :
    Calls Tryz.prog 240 #[.string s] w fun x w' => w = w' ∧ SeqRet (seqW s.data.toList) x := by
  obtain ⟨z, hzz⟩ : ∃ z : Int, ((s[0]'h0).toNat : Int) = z := ⟨_, rfl⟩
  have hne : s.data.toList ≠ [] := ne_nil_of_size h0
  have hg0 : (s.data.toList.getD 0 0).toNat = (s[0]'h0).toNat := by rw [getD_get s 0 h0]
  have hlen : 1 ≤ s.data.toList.length := by rw [← Lib.size_eq]; exact h0
  have SP := Lib.hid (seq_spec hne (SZ := 3) (LO := 128) (HI := 191) (by omega) (by decide) (Lib.slow_E1 _ _ _ _ _ hlen (getD_lt _ _) (getD_lt _ _) (getD_lt _ _) (by omega)))
  rw [hzz] at hz h237
  obtain ⟨z1, z2⟩ := hz
  have z1' : 0 ≤ z := by omega
  have z2' : z ≤ 255 := by omega
  have m224 : ¬ z = 224 := by omega
  have mm224 : (z == 224) = false := by simpa using m224
  have m240 : ¬ z = 240 := by omega
  have mm240 : (z == 240) = false := by simpa using m240
  have m244 : ¬ z = 244 := by omega
  have mm244 : (z == 244) = false := by simpa using m244
  have m237 : ¬ z = 237 := h237
  have mm237 : (z == 237) = false := by simpa using m237
  have h0i : (0 : Int) < s.size := by omega
  have hse : s.toList.isEmpty = false := by rw [Lib.toList_data, List.isEmpty_eq_false_iff]; exact hne
  clear hg0 hlen hne
  go_enter Tryz.func240, Tryz.ntmps240
  go_wp2_with fail
  go_loopw [8, 6, 7] (fun s8 s6 s7 wr => ∃ i lo hi : Nat, s8 = .int .i64 i ∧ s6 = .int .i64 lo ∧ s7 = .int .i64 hi ∧ lo = (if i = 1 then 128 else 128) ∧ hi = (if i = 1 then 191 else 191) ∧ 1 ≤ i ∧ i ≤ 3 ∧ i ≤ s.size ∧ (∀ k, 1 ≤ k → k < i → okAt s.data.toList k 128 191) ∧ wr = w) (fun s8 _ _ _ => match s8 with | .int _ x => 3 - x.toNat | _ => 0)
  case atStart => exact ⟨1, 128, 191, rfl, rfl, rfl, rfl, rfl, by omega, by omega, h0, fun k h1 h2 => by omega, rfl⟩
  case round =>
    obtain ⟨i, lo, hi, rfl, rfl, rfl, hlo, hhi, hi1, hi2, hi3, hall, rfl⟩ := hrel
    have HLO := Lib.hid hlo
    have HHI := Lib.hid hhi
    have HALL := Lib.hid hall
    have hlo2 : lo ≤ 255 := by rw [hlo]; split <;> omega
    have hhi2 : hi ≤ 255 := by rw [hhi]; split <;> omega
    clear hlo hhi hall
    by_cases hlt : i < 3
    · have hlti : (i : Int) < 3 := by omega
      by_cases hle : i < s.size
      · have hlei : ((i : Int) == (s.size : Int)) = false := by simp; omega
        obtain ⟨c, hc⟩ : ∃ c, s[i]'hle = c := ⟨_, rfl⟩
        have hcg : (s.data.toList.getD i 0).toNat = c.toNat := by rw [getD_get s i hle, hc]
        have HCG := Lib.hid hcg
        have hcl := c.toNat_lt
        have hbad : (c.toNat < lo ∨ hi < c.toNat) → seqW s.data.toList = 0 := fun h => SP.out.2.2 i hi1 hlt (by unfold okAt; rw [← HLO.out, ← HHI.out, HCG.out]; omega)
        have HBAD := Lib.hid hbad
        clear hcg hbad
        by_cases hb1 : c.toNat < lo
        · have hb1i : (c.toNat : Int) < lo := by omega
          have HW := Lib.hid (HBAD.out (.inl hb1))
          go_wp2_with fail
          go_ret2
          exact ⟨by first | rfl | trivial, _, by rw [HW.out]; rfl⟩
        · have hb1i : ¬ (c.toNat : Int) < lo := by omega
          have hb1j : (lo : Int) ≤ c.toNat := by omega
          by_cases hb2 : hi < c.toNat
          · have hb2i : (hi : Int) < c.toNat := by omega
            have HW := Lib.hid (HBAD.out (.inr hb2))
            go_wp2_with fail
            go_ret2
            exact ⟨by first | rfl | trivial, _, by rw [HW.out]; rfl⟩
          · have hb2i : (c.toNat : Int) ≤ hi := by omega
            go_wp2_with fail
            go_roundw
            case rel =>
              refine ⟨i + 1, 128, 191, by simp, rfl, rfl, by rw [if_neg (by omega)], by rw [if_neg (by omega)], by omega, by omega, by omega, fun k h1 h2 => ?_, by first | rfl | trivial⟩
              by_cases hk : k = i
              · subst hk
                unfold okAt
                rw [← HLO.out, ← HHI.out, HCG.out]; omega
              · exact HALL.out k h1 (by omega)
            case measure => simp; omega
      · have hle' : i = s.size := by omega
        have HW := Lib.hid (SP.out.2.1 (by rw [← Lib.size_eq]; omega))
        have hlei : ((i : Int) == (s.size : Int)) = true := by simp; omega
        go_wp2_with fail
        go_ret2
        exact ⟨by first | rfl | trivial, _, by rw [HW.out]; rfl⟩
    · have hie : i = 3 := by omega
      subst hie
      have HW := Lib.hid (SP.out.1 (by rw [← Lib.size_eq]; omega) (fun k h1 h2 => HALL.out k h1 h2))
      go_wp2_with fail
      go_ret2
      exact ⟨by first | rfl | trivial, _, by rw [HW.out]; rfl⟩

set_option maxRecDepth 100000 in
set_option maxHeartbeats 4000000 in
theorem rseq_ED (s : ByteArray) (h0 : 0 < s.size) (hz : (237 : Int) ≤ (s[0]'h0).toNat ∧ ((s[0]'h0).toNat : Int) ≤ 237) (hs : s.size ≤ 140737488351232) (w : World) :
    Calls Tryz.prog 240 #[.string s] w fun x w' => w = w' ∧ SeqRet (seqW s.data.toList) x := by
  obtain ⟨z, hzz⟩ : ∃ z : Int, ((s[0]'h0).toNat : Int) = z := ⟨_, rfl⟩
  have hne : s.data.toList ≠ [] := ne_nil_of_size h0
  have hg0 : (s.data.toList.getD 0 0).toNat = (s[0]'h0).toNat := by rw [getD_get s 0 h0]
  have hlen : 1 ≤ s.data.toList.length := by rw [← Lib.size_eq]; exact h0
  have SP := Lib.hid (seq_spec hne (SZ := 3) (LO := 128) (HI := 159) (by omega) (by decide) (Lib.slow_ED _ _ _ _ _ hlen (getD_lt _ _) (getD_lt _ _) (getD_lt _ _) (by omega)))
  rw [hzz] at hz
  obtain ⟨z1, z2⟩ := hz
  have z1' : 0 ≤ z := by omega
  have z2' : z ≤ 255 := by omega
  obtain rfl : z = 237 := by omega
  have h0i : (0 : Int) < s.size := by omega
  have hse : s.toList.isEmpty = false := by rw [Lib.toList_data, List.isEmpty_eq_false_iff]; exact hne
  clear hg0 hlen hne
  go_enter Tryz.func240, Tryz.ntmps240
  go_wp2_with fail
  go_loopw [8, 6, 7] (fun s8 s6 s7 wr => ∃ i lo hi : Nat, s8 = .int .i64 i ∧ s6 = .int .i64 lo ∧ s7 = .int .i64 hi ∧ lo = (if i = 1 then 128 else 128) ∧ hi = (if i = 1 then 159 else 191) ∧ 1 ≤ i ∧ i ≤ 3 ∧ i ≤ s.size ∧ (∀ k, 1 ≤ k → k < i → okAt s.data.toList k 128 159) ∧ wr = w) (fun s8 _ _ _ => match s8 with | .int _ x => 3 - x.toNat | _ => 0)
  case atStart => exact ⟨1, 128, 159, rfl, rfl, rfl, rfl, rfl, by omega, by omega, h0, fun k h1 h2 => by omega, rfl⟩
  case round =>
    obtain ⟨i, lo, hi, rfl, rfl, rfl, hlo, hhi, hi1, hi2, hi3, hall, rfl⟩ := hrel
    have HLO := Lib.hid hlo
    have HHI := Lib.hid hhi
    have HALL := Lib.hid hall
    have hlo2 : lo ≤ 255 := by rw [hlo]; split <;> omega
    have hhi2 : hi ≤ 255 := by rw [hhi]; split <;> omega
    clear hlo hhi hall
    by_cases hlt : i < 3
    · have hlti : (i : Int) < 3 := by omega
      by_cases hle : i < s.size
      · have hlei : ((i : Int) == (s.size : Int)) = false := by simp; omega
        obtain ⟨c, hc⟩ : ∃ c, s[i]'hle = c := ⟨_, rfl⟩
        have hcg : (s.data.toList.getD i 0).toNat = c.toNat := by rw [getD_get s i hle, hc]
        have HCG := Lib.hid hcg
        have hcl := c.toNat_lt
        have hbad : (c.toNat < lo ∨ hi < c.toNat) → seqW s.data.toList = 0 := fun h => SP.out.2.2 i hi1 hlt (by unfold okAt; rw [← HLO.out, ← HHI.out, HCG.out]; omega)
        have HBAD := Lib.hid hbad
        clear hcg hbad
        by_cases hb1 : c.toNat < lo
        · have hb1i : (c.toNat : Int) < lo := by omega
          have HW := Lib.hid (HBAD.out (.inl hb1))
          go_wp2_with fail
          go_ret2
          exact ⟨by first | rfl | trivial, _, by rw [HW.out]; rfl⟩
        · have hb1i : ¬ (c.toNat : Int) < lo := by omega
          have hb1j : (lo : Int) ≤ c.toNat := by omega
          by_cases hb2 : hi < c.toNat
          · have hb2i : (hi : Int) < c.toNat := by omega
            have HW := Lib.hid (HBAD.out (.inr hb2))
            go_wp2_with fail
            go_ret2
            exact ⟨by first | rfl | trivial, _, by rw [HW.out]; rfl⟩
          · have hb2i : (c.toNat : Int) ≤ hi := by omega
            go_wp2_with fail
            go_roundw
            case rel =>
              refine ⟨i + 1, 128, 191, by simp, rfl, rfl, by rw [if_neg (by omega)], by rw [if_neg (by omega)], by omega, by omega, by omega, fun k h1 h2 => ?_, by first | rfl | trivial⟩
              by_cases hk : k = i
              · subst hk
                unfold okAt
                rw [← HLO.out, ← HHI.out, HCG.out]; omega
              · exact HALL.out k h1 (by omega)
            case measure => simp; omega
      · have hle' : i = s.size := by omega
        have HW := Lib.hid (SP.out.2.1 (by rw [← Lib.size_eq]; omega))
        have hlei : ((i : Int) == (s.size : Int)) = true := by simp; omega
        go_wp2_with fail
        go_ret2
        exact ⟨by first | rfl | trivial, _, by rw [HW.out]; rfl⟩
    · have hie : i = 3 := by omega
      subst hie
      have HW := Lib.hid (SP.out.1 (by rw [← Lib.size_eq]; omega) (fun k h1 h2 => HALL.out k h1 h2))
      go_wp2_with fail
      go_ret2
      exact ⟨by first | rfl | trivial, _, by rw [HW.out]; rfl⟩

set_option maxRecDepth 100000 in
set_option maxHeartbeats 4000000 in
theorem rseq_F0 (s : ByteArray) (h0 : 0 < s.size) (hz : (240 : Int) ≤ (s[0]'h0).toNat ∧ ((s[0]'h0).toNat : Int) ≤ 240) (hs : s.size ≤ 140737488351232) (w : World) :
    Calls Tryz.prog 240 #[.string s] w fun x w' => w = w' ∧ SeqRet (seqW s.data.toList) x := by
  obtain ⟨z, hzz⟩ : ∃ z : Int, ((s[0]'h0).toNat : Int) = z := ⟨_, rfl⟩
  have hne : s.data.toList ≠ [] := ne_nil_of_size h0
  have hg0 : (s.data.toList.getD 0 0).toNat = (s[0]'h0).toNat := by rw [getD_get s 0 h0]
  have hlen : 1 ≤ s.data.toList.length := by rw [← Lib.size_eq]; exact h0
  have SP := Lib.hid (seq_spec hne (SZ := 4) (LO := 144) (HI := 191) (by omega) (by decide) (Lib.slow_F0 _ _ _ _ _ hlen (getD_lt _ _) (getD_lt _ _) (getD_lt _ _) (by omega)))
  rw [hzz] at hz
  obtain ⟨z1, z2⟩ := hz
  have z1' : 0 ≤ z := by omega
  have z2' : z ≤ 255 := by omega
  obtain rfl : z = 240 := by omega
  have h0i : (0 : Int) < s.size := by omega
  have hse : s.toList.isEmpty = false := by rw [Lib.toList_data, List.isEmpty_eq_false_iff]; exact hne
  clear hg0 hlen hne
  go_enter Tryz.func240, Tryz.ntmps240
  go_wp2_with fail
  go_loopw [8, 6, 7] (fun s8 s6 s7 wr => ∃ i lo hi : Nat, s8 = .int .i64 i ∧ s6 = .int .i64 lo ∧ s7 = .int .i64 hi ∧ lo = (if i = 1 then 144 else 128) ∧ hi = (if i = 1 then 191 else 191) ∧ 1 ≤ i ∧ i ≤ 4 ∧ i ≤ s.size ∧ (∀ k, 1 ≤ k → k < i → okAt s.data.toList k 144 191) ∧ wr = w) (fun s8 _ _ _ => match s8 with | .int _ x => 4 - x.toNat | _ => 0)
  case atStart => exact ⟨1, 144, 191, rfl, rfl, rfl, rfl, rfl, by omega, by omega, h0, fun k h1 h2 => by omega, rfl⟩
  case round =>
    obtain ⟨i, lo, hi, rfl, rfl, rfl, hlo, hhi, hi1, hi2, hi3, hall, rfl⟩ := hrel
    have HLO := Lib.hid hlo
    have HHI := Lib.hid hhi
    have HALL := Lib.hid hall
    have hlo2 : lo ≤ 255 := by rw [hlo]; split <;> omega
    have hhi2 : hi ≤ 255 := by rw [hhi]; split <;> omega
    clear hlo hhi hall
    by_cases hlt : i < 4
    · have hlti : (i : Int) < 4 := by omega
      by_cases hle : i < s.size
      · have hlei : ((i : Int) == (s.size : Int)) = false := by simp; omega
        obtain ⟨c, hc⟩ : ∃ c, s[i]'hle = c := ⟨_, rfl⟩
        have hcg : (s.data.toList.getD i 0).toNat = c.toNat := by rw [getD_get s i hle, hc]
        have HCG := Lib.hid hcg
        have hcl := c.toNat_lt
        have hbad : (c.toNat < lo ∨ hi < c.toNat) → seqW s.data.toList = 0 := fun h => SP.out.2.2 i hi1 hlt (by unfold okAt; rw [← HLO.out, ← HHI.out, HCG.out]; omega)
        have HBAD := Lib.hid hbad
        clear hcg hbad
        by_cases hb1 : c.toNat < lo
        · have hb1i : (c.toNat : Int) < lo := by omega
          have HW := Lib.hid (HBAD.out (.inl hb1))
          go_wp2_with fail
          go_ret2
          exact ⟨by first | rfl | trivial, _, by rw [HW.out]; rfl⟩
        · have hb1i : ¬ (c.toNat : Int) < lo := by omega
          have hb1j : (lo : Int) ≤ c.toNat := by omega
          by_cases hb2 : hi < c.toNat
          · have hb2i : (hi : Int) < c.toNat := by omega
            have HW := Lib.hid (HBAD.out (.inr hb2))
            go_wp2_with fail
            go_ret2
            exact ⟨by first | rfl | trivial, _, by rw [HW.out]; rfl⟩
          · have hb2i : (c.toNat : Int) ≤ hi := by omega
            go_wp2_with fail
            go_roundw
            case rel =>
              refine ⟨i + 1, 128, 191, by simp, rfl, rfl, by rw [if_neg (by omega)], by rw [if_neg (by omega)], by omega, by omega, by omega, fun k h1 h2 => ?_, by first | rfl | trivial⟩
              by_cases hk : k = i
              · subst hk
                unfold okAt
                rw [← HLO.out, ← HHI.out, HCG.out]; omega
              · exact HALL.out k h1 (by omega)
            case measure => simp; omega
      · have hle' : i = s.size := by omega
        have HW := Lib.hid (SP.out.2.1 (by rw [← Lib.size_eq]; omega))
        have hlei : ((i : Int) == (s.size : Int)) = true := by simp; omega
        go_wp2_with fail
        go_ret2
        exact ⟨by first | rfl | trivial, _, by rw [HW.out]; rfl⟩
    · have hie : i = 4 := by omega
      subst hie
      have HW := Lib.hid (SP.out.1 (by rw [← Lib.size_eq]; omega) (fun k h1 h2 => HALL.out k h1 h2))
      go_wp2_with fail
      go_ret2
      exact ⟨by first | rfl | trivial, _, by rw [HW.out]; rfl⟩

set_option maxRecDepth 100000 in
set_option maxHeartbeats 4000000 in
theorem rseq_F1 (s : ByteArray) (h0 : 0 < s.size) (hz : (241 : Int) ≤ (s[0]'h0).toNat ∧ ((s[0]'h0).toNat : Int) ≤ 243) (hs : s.size ≤ 140737488351232) (w : World) :
    Calls Tryz.prog 240 #[.string s] w fun x w' => w = w' ∧ SeqRet (seqW s.data.toList) x := by
  obtain ⟨z, hzz⟩ : ∃ z : Int, ((s[0]'h0).toNat : Int) = z := ⟨_, rfl⟩
  have hne : s.data.toList ≠ [] := ne_nil_of_size h0
  have hg0 : (s.data.toList.getD 0 0).toNat = (s[0]'h0).toNat := by rw [getD_get s 0 h0]
  have hlen : 1 ≤ s.data.toList.length := by rw [← Lib.size_eq]; exact h0
  have SP := Lib.hid (seq_spec hne (SZ := 4) (LO := 128) (HI := 191) (by omega) (by decide) (Lib.slow_F1 _ _ _ _ _ hlen (getD_lt _ _) (getD_lt _ _) (getD_lt _ _) (by omega)))
  rw [hzz] at hz
  obtain ⟨z1, z2⟩ := hz
  have z1' : 0 ≤ z := by omega
  have z2' : z ≤ 255 := by omega
  have m224 : ¬ z = 224 := by omega
  have mm224 : (z == 224) = false := by simpa using m224
  have m237 : ¬ z = 237 := by omega
  have mm237 : (z == 237) = false := by simpa using m237
  have m240 : ¬ z = 240 := by omega
  have mm240 : (z == 240) = false := by simpa using m240
  have m244 : ¬ z = 244 := by omega
  have mm244 : (z == 244) = false := by simpa using m244
  have h0i : (0 : Int) < s.size := by omega
  have hse : s.toList.isEmpty = false := by rw [Lib.toList_data, List.isEmpty_eq_false_iff]; exact hne
  clear hg0 hlen hne
  go_enter Tryz.func240, Tryz.ntmps240
  go_wp2_with fail
  go_loopw [8, 6, 7] (fun s8 s6 s7 wr => ∃ i lo hi : Nat, s8 = .int .i64 i ∧ s6 = .int .i64 lo ∧ s7 = .int .i64 hi ∧ lo = (if i = 1 then 128 else 128) ∧ hi = (if i = 1 then 191 else 191) ∧ 1 ≤ i ∧ i ≤ 4 ∧ i ≤ s.size ∧ (∀ k, 1 ≤ k → k < i → okAt s.data.toList k 128 191) ∧ wr = w) (fun s8 _ _ _ => match s8 with | .int _ x => 4 - x.toNat | _ => 0)
  case atStart => exact ⟨1, 128, 191, rfl, rfl, rfl, rfl, rfl, by omega, by omega, h0, fun k h1 h2 => by omega, rfl⟩
  case round =>
    obtain ⟨i, lo, hi, rfl, rfl, rfl, hlo, hhi, hi1, hi2, hi3, hall, rfl⟩ := hrel
    have HLO := Lib.hid hlo
    have HHI := Lib.hid hhi
    have HALL := Lib.hid hall
    have hlo2 : lo ≤ 255 := by rw [hlo]; split <;> omega
    have hhi2 : hi ≤ 255 := by rw [hhi]; split <;> omega
    clear hlo hhi hall
    by_cases hlt : i < 4
    · have hlti : (i : Int) < 4 := by omega
      by_cases hle : i < s.size
      · have hlei : ((i : Int) == (s.size : Int)) = false := by simp; omega
        obtain ⟨c, hc⟩ : ∃ c, s[i]'hle = c := ⟨_, rfl⟩
        have hcg : (s.data.toList.getD i 0).toNat = c.toNat := by rw [getD_get s i hle, hc]
        have HCG := Lib.hid hcg
        have hcl := c.toNat_lt
        have hbad : (c.toNat < lo ∨ hi < c.toNat) → seqW s.data.toList = 0 := fun h => SP.out.2.2 i hi1 hlt (by unfold okAt; rw [← HLO.out, ← HHI.out, HCG.out]; omega)
        have HBAD := Lib.hid hbad
        clear hcg hbad
        by_cases hb1 : c.toNat < lo
        · have hb1i : (c.toNat : Int) < lo := by omega
          have HW := Lib.hid (HBAD.out (.inl hb1))
          go_wp2_with fail
          go_ret2
          exact ⟨by first | rfl | trivial, _, by rw [HW.out]; rfl⟩
        · have hb1i : ¬ (c.toNat : Int) < lo := by omega
          have hb1j : (lo : Int) ≤ c.toNat := by omega
          by_cases hb2 : hi < c.toNat
          · have hb2i : (hi : Int) < c.toNat := by omega
            have HW := Lib.hid (HBAD.out (.inr hb2))
            go_wp2_with fail
            go_ret2
            exact ⟨by first | rfl | trivial, _, by rw [HW.out]; rfl⟩
          · have hb2i : (c.toNat : Int) ≤ hi := by omega
            go_wp2_with fail
            go_roundw
            case rel =>
              refine ⟨i + 1, 128, 191, by simp, rfl, rfl, by rw [if_neg (by omega)], by rw [if_neg (by omega)], by omega, by omega, by omega, fun k h1 h2 => ?_, by first | rfl | trivial⟩
              by_cases hk : k = i
              · subst hk
                unfold okAt
                rw [← HLO.out, ← HHI.out, HCG.out]; omega
              · exact HALL.out k h1 (by omega)
            case measure => simp; omega
      · have hle' : i = s.size := by omega
        have HW := Lib.hid (SP.out.2.1 (by rw [← Lib.size_eq]; omega))
        have hlei : ((i : Int) == (s.size : Int)) = true := by simp; omega
        go_wp2_with fail
        go_ret2
        exact ⟨by first | rfl | trivial, _, by rw [HW.out]; rfl⟩
    · have hie : i = 4 := by omega
      subst hie
      have HW := Lib.hid (SP.out.1 (by rw [← Lib.size_eq]; omega) (fun k h1 h2 => HALL.out k h1 h2))
      go_wp2_with fail
      go_ret2
      exact ⟨by first | rfl | trivial, _, by rw [HW.out]; rfl⟩

set_option maxRecDepth 100000 in
set_option maxHeartbeats 4000000 in
theorem rseq_F4 (s : ByteArray) (h0 : 0 < s.size) (hz : (244 : Int) ≤ (s[0]'h0).toNat ∧ ((s[0]'h0).toNat : Int) ≤ 244) (hs : s.size ≤ 140737488351232) (w : World) :
    Calls Tryz.prog 240 #[.string s] w fun x w' => w = w' ∧ SeqRet (seqW s.data.toList) x := by
  obtain ⟨z, hzz⟩ : ∃ z : Int, ((s[0]'h0).toNat : Int) = z := ⟨_, rfl⟩
  have hne : s.data.toList ≠ [] := ne_nil_of_size h0
  have hg0 : (s.data.toList.getD 0 0).toNat = (s[0]'h0).toNat := by rw [getD_get s 0 h0]
  have hlen : 1 ≤ s.data.toList.length := by rw [← Lib.size_eq]; exact h0
  have SP := Lib.hid (seq_spec hne (SZ := 4) (LO := 128) (HI := 143) (by omega) (by decide) (Lib.slow_F4 _ _ _ _ _ hlen (getD_lt _ _) (getD_lt _ _) (getD_lt _ _) (by omega)))
  rw [hzz] at hz
  obtain ⟨z1, z2⟩ := hz
  have z1' : 0 ≤ z := by omega
  have z2' : z ≤ 255 := by omega
  obtain rfl : z = 244 := by omega
  have h0i : (0 : Int) < s.size := by omega
  have hse : s.toList.isEmpty = false := by rw [Lib.toList_data, List.isEmpty_eq_false_iff]; exact hne
  clear hg0 hlen hne
  go_enter Tryz.func240, Tryz.ntmps240
  go_wp2_with fail
  go_loopw [8, 6, 7] (fun s8 s6 s7 wr => ∃ i lo hi : Nat, s8 = .int .i64 i ∧ s6 = .int .i64 lo ∧ s7 = .int .i64 hi ∧ lo = (if i = 1 then 128 else 128) ∧ hi = (if i = 1 then 143 else 191) ∧ 1 ≤ i ∧ i ≤ 4 ∧ i ≤ s.size ∧ (∀ k, 1 ≤ k → k < i → okAt s.data.toList k 128 143) ∧ wr = w) (fun s8 _ _ _ => match s8 with | .int _ x => 4 - x.toNat | _ => 0)
  case atStart => exact ⟨1, 128, 143, rfl, rfl, rfl, rfl, rfl, by omega, by omega, h0, fun k h1 h2 => by omega, rfl⟩
  case round =>
    obtain ⟨i, lo, hi, rfl, rfl, rfl, hlo, hhi, hi1, hi2, hi3, hall, rfl⟩ := hrel
    have HLO := Lib.hid hlo
    have HHI := Lib.hid hhi
    have HALL := Lib.hid hall
    have hlo2 : lo ≤ 255 := by rw [hlo]; split <;> omega
    have hhi2 : hi ≤ 255 := by rw [hhi]; split <;> omega
    clear hlo hhi hall
    by_cases hlt : i < 4
    · have hlti : (i : Int) < 4 := by omega
      by_cases hle : i < s.size
      · have hlei : ((i : Int) == (s.size : Int)) = false := by simp; omega
        obtain ⟨c, hc⟩ : ∃ c, s[i]'hle = c := ⟨_, rfl⟩
        have hcg : (s.data.toList.getD i 0).toNat = c.toNat := by rw [getD_get s i hle, hc]
        have HCG := Lib.hid hcg
        have hcl := c.toNat_lt
        have hbad : (c.toNat < lo ∨ hi < c.toNat) → seqW s.data.toList = 0 := fun h => SP.out.2.2 i hi1 hlt (by unfold okAt; rw [← HLO.out, ← HHI.out, HCG.out]; omega)
        have HBAD := Lib.hid hbad
        clear hcg hbad
        by_cases hb1 : c.toNat < lo
        · have hb1i : (c.toNat : Int) < lo := by omega
          have HW := Lib.hid (HBAD.out (.inl hb1))
          go_wp2_with fail
          go_ret2
          exact ⟨by first | rfl | trivial, _, by rw [HW.out]; rfl⟩
        · have hb1i : ¬ (c.toNat : Int) < lo := by omega
          have hb1j : (lo : Int) ≤ c.toNat := by omega
          by_cases hb2 : hi < c.toNat
          · have hb2i : (hi : Int) < c.toNat := by omega
            have HW := Lib.hid (HBAD.out (.inr hb2))
            go_wp2_with fail
            go_ret2
            exact ⟨by first | rfl | trivial, _, by rw [HW.out]; rfl⟩
          · have hb2i : (c.toNat : Int) ≤ hi := by omega
            go_wp2_with fail
            go_roundw
            case rel =>
              refine ⟨i + 1, 128, 191, by simp, rfl, rfl, by rw [if_neg (by omega)], by rw [if_neg (by omega)], by omega, by omega, by omega, fun k h1 h2 => ?_, by first | rfl | trivial⟩
              by_cases hk : k = i
              · subst hk
                unfold okAt
                rw [← HLO.out, ← HHI.out, HCG.out]; omega
              · exact HALL.out k h1 (by omega)
            case measure => simp; omega
      · have hle' : i = s.size := by omega
        have HW := Lib.hid (SP.out.2.1 (by rw [← Lib.size_eq]; omega))
        have hlei : ((i : Int) == (s.size : Int)) = true := by simp; omega
        go_wp2_with fail
        go_ret2
        exact ⟨by first | rfl | trivial, _, by rw [HW.out]; rfl⟩
    · have hie : i = 4 := by omega
      subst hie
      have HW := Lib.hid (SP.out.1 (by rw [← Lib.size_eq]; omega) (fun k h1 h2 => HALL.out k h1 h2))
      go_wp2_with fail
      go_ret2
      exact ⟨by first | rfl | trivial, _, by rw [HW.out]; rfl⟩

set_option maxRecDepth 100000 in
set_option maxHeartbeats 4000000 in
theorem rseq_any (s : ByteArray) (hs : s.size ≤ 140737488351232) {n : Nat} (hn : seqW s.data.toList = n) (w : World) :
    Calls Tryz.prog 240 #[.string s] w fun x w' => w = w' ∧ SeqRet n x := by
  subst hn
  by_cases h0 : 0 < s.size
  · have hne : s.data.toList ≠ [] := ne_nil_of_size h0
    have hg0 : (s.data.toList.getD 0 0).toNat = (s[0]'h0).toNat := by rw [getD_get s 0 h0]
    have hr := (s[0]'h0).toNat_lt
    by_cases c1 : (s[0]'h0).toNat < 128
    · have hw : seqW s.data.toList = 1 := by
        cases hx : s.data.toList with
        | nil => exact absurd hx hne
        | cons c r =>
          rw [hx] at hg0
          unfold seqW
          dsimp only
          rw [if_pos (by simp at hg0; omega)]
      have HW := Lib.hid hw
      have c1i : ((s[0]'h0).toNat : Int) < 128 := by omega
      have h0i : (0 : Int) < s.size := by omega
      have hse : s.toList.isEmpty = false := by rw [Lib.toList_data, List.isEmpty_eq_false_iff]; exact hne
      clear hg0 hne hw
      generalize ((s[0]'h0).toNat : Int) = z at *
      go_enter Tryz.func240, Tryz.ntmps240
      go_wp2_with fail
      go_ret2
      exact ⟨rfl, _, by rw [HW.out]; rfl⟩
    · by_cases c2 : (s[0]'h0).toNat < 194 ∨ 244 < (s[0]'h0).toNat
      · have HW := Lib.hid (seq_odd hne (by omega) (fun k => getD_lt _ _))
        obtain ⟨z, hz⟩ : ∃ z : Int, ((s[0]'h0).toNat : Int) = z := ⟨_, rfl⟩
        have h0i : (0 : Int) < s.size := by omega
        have hse : s.toList.isEmpty = false := by rw [Lib.toList_data, List.isEmpty_eq_false_iff]; exact hne
        have z0 : 128 ≤ z := by omega
        have z3 : z ≤ 255 := by omega
        clear hg0 hne
        rcases c2 with c2 | c2
        · have z1 : z < 194 := by omega
          clear c1 c2 hr
          go_enter Tryz.func240, Tryz.ntmps240
          go_wp2_with fail
          go_ret2
          exact ⟨rfl, _, by rw [HW.out]; rfl⟩
        · have z1 : 244 < z := by omega
          clear c1 c2 hr
          go_enter Tryz.func240, Tryz.ntmps240
          go_wp2_with fail
          go_ret2
          exact ⟨rfl, _, by rw [HW.out]; rfl⟩
      · by_cases c3 : (s[0]'h0).toNat < 224
        · exact rseq_C2 s h0 (by omega) hs w
        by_cases c4 : (s[0]'h0).toNat = 224
        · exact rseq_E0 s h0 (by omega) hs w
        by_cases c5 : (s[0]'h0).toNat = 237
        · exact rseq_ED s h0 (by omega) hs w
        by_cases c6 : (s[0]'h0).toNat < 240
        · exact rseq_E1 s h0 (by omega) (by omega) hs w
        by_cases c7 : (s[0]'h0).toNat = 240
        · exact rseq_F0 s h0 (by omega) hs w
        by_cases c8 : (s[0]'h0).toNat = 244
        · exact rseq_F4 s h0 (by omega) hs w
        exact rseq_F1 s h0 (by omega) hs w
  · have hsn := nil_of_size h0
    subst hsn
    go_enter Tryz.func240, Tryz.ntmps240
    go_wp2_with fail
    go_ret2
    exact ⟨rfl, _, rfl⟩

end Toc

namespace Toc
open Go Go.RowKit Go.Proofs

/-- The first k of the hex digits from a place on, as a number. -/
def hexN : Nat → Bytes → Option Nat
  | 0, _ => some 0
  | k + 1, l => match hexN k l with
    | none => none
    | some n => match l[k]? with
      | none => none
      | some c => (hexL c).map fun x => 16 * n + x
theorem hexN_succ (k : Nat) (l : Bytes) (n : Nat) (h : hexN k l = some n) (c : UInt8) (hc : l[k]? = some c) : hexN (k + 1) l = (hexL c).map fun x => 16 * n + x := by
  unfold hexN; rw [h]; dsimp only; rw [hc]
theorem hexN_stop {k : Nat} {l : Bytes} (h : hexN k l = none) : ∀ j, k ≤ j → hexN j l = none := by
  intro j hj
  induction j with
  | zero => have : k = 0 := by omega
            subst this; exact h
  | succ j ih =>
    rcases Nat.lt_or_ge j k with h1 | h1
    · have : k = j + 1 := by omega
      subst this; exact h
    · unfold hexN; rw [ih h1]
theorem hexL_le {c : UInt8} {x : Nat} (h : hexL c = some x) : x ≤ 15 := by
  unfold hexL at h
  split at h
  · rename_i hd
    unfold digitB at hd
    simp only [Bool.and_eq_true, decide_eq_true_eq] at hd
    have := UInt8.le_iff_toNat_le.1 hd.2
    have e : (57 : UInt8).toNat = 57 := rfl
    cases h; omega
  · split at h
    · rename_i hd
      simp only [Bool.and_eq_true, decide_eq_true_eq] at hd
      have := UInt8.le_iff_toNat_le.1 hd.2
      have e : (102 : UInt8).toNat = 102 := rfl
      cases h; omega
    · split at h
      · rename_i hd
        simp only [Bool.and_eq_true, decide_eq_true_eq] at hd
        have := UInt8.le_iff_toNat_le.1 hd.2
        have e : (70 : UInt8).toNat = 70 := rfl
        cases h; omega
      · cases h
theorem hexN_le : ∀ (k : Nat) (l : Bytes) (n : Nat), hexN k l = some n → n < 16 ^ k
  | 0, _, n, h => by cases h; decide
  | k + 1, l, n, h => by
    unfold hexN at h
    cases hk : hexN k l with
    | none => rw [hk] at h; cases h
    | some m =>
      rw [hk] at h
      dsimp only at h
      have ih := hexN_le k l m hk
      cases hc : l[k]? with
      | none => rw [hc] at h; cases h
      | some c =>
        rw [hc] at h
        dsimp only at h
        obtain ⟨x, hx, he⟩ := Option.map_eq_some_iff.1 h
        have := hexL_le hx
        rw [Nat.pow_succ]; omega

/-- What a byte is as a hex digit, by its number. -/
theorem hexL_cases (c : UInt8) : (48 ≤ c.toNat ∧ c.toNat ≤ 57 ∧ hexL c = some (c.toNat - 48)) ∨ (97 ≤ c.toNat ∧ c.toNat ≤ 102 ∧ hexL c = some (c.toNat - 87)) ∨ (65 ≤ c.toNat ∧ c.toNat ≤ 70 ∧ hexL c = some (c.toNat - 55)) ∨
    (¬ (48 ≤ c.toNat ∧ c.toNat ≤ 57) ∧ ¬ (97 ≤ c.toNat ∧ c.toNat ≤ 102) ∧ ¬ (65 ≤ c.toNat ∧ c.toNat ≤ 70) ∧ hexL c = none) := by
  have : ∀ k : Fin 256, (48 ≤ k.val ∧ k.val ≤ 57 ∧ hexL (UInt8.ofNat k.val) = some (k.val - 48)) ∨ (97 ≤ k.val ∧ k.val ≤ 102 ∧ hexL (UInt8.ofNat k.val) = some (k.val - 87)) ∨ (65 ≤ k.val ∧ k.val ≤ 70 ∧ hexL (UInt8.ofNat k.val) = some (k.val - 55)) ∨
    (¬ (48 ≤ k.val ∧ k.val ≤ 57) ∧ ¬ (97 ≤ k.val ∧ k.val ≤ 102) ∧ ¬ (65 ≤ k.val ∧ k.val ≤ 70) ∧ hexL (UInt8.ofNat k.val) = none) := by decide +kernel
  have h := this ⟨c.toNat, c.toNat_lt⟩
  simpa using h

/-- What hex gives: the number, or that there is none. -/
def HexRet (o : Option Nat) (x : Ending) : Prop :=
  match o with
  | some n => x = .returned (.tuple #[.int .i64 n, .bool false])
  | none => x = .returned (.tuple #[.int .i64 0, .bool true]) ∨ x = .returned (.tuple #[.int .i64 (-1), .bool false])

set_option maxRecDepth 100000 in
set_option maxHeartbeats 8000000 in
theorem rhex_any (C : RC) (w : World) (i d : Nat) (h : Rd C w i d) (a : Nat) (ha : a ≤ 10000) {o : Option Nat} (ho : hexN 4 (C.bs.drop a) = o) :
    Calls Tryz.prog 307 #[ptrV C.pb, .int .i64 a, .int .i64 4] w fun x w' => w = w' ∧ HexRet o x := by
  have HO := Lib.hid ho
  obtain ⟨c0, _, _, _, _⟩ := h.cells
  have hsm := h.small
  clear ho h
  go_enter Tryz.func307, Tryz.ntmps307
  go_wp2_with fail
  go_loopw [8, 9] (fun s8 s9 wr => ∃ k n : Nat, s8 = .int .i64 n ∧ s9 = .int .i64 ((a + k : Nat) : Int) ∧ k ≤ 4 ∧ hexN k (C.bs.drop a) = some n ∧ n < 65536 ∧ wr = w) (fun _ s9 _ => match s9 with | .int _ x => a + 4 - x.toNat | _ => 0)
  case atStart => exact ⟨0, 0, rfl, by simp, by omega, rfl, by omega, rfl⟩
  case round =>
    obtain ⟨k, n, rfl, rfl, hk, hN, hn, rfl⟩ := hrel
    have HN := Lib.hid hN
    clear hN
    by_cases hlt : k < 4
    · have hlti : ((a : Int) + k) < a + 4 := by omega
      by_cases hin : a + k < C.s.size
      · have hini : ((a + k : Nat) : Int) < C.s.size := by omega
        obtain ⟨c, hc⟩ : ∃ c, C.s[a + k]'hin = c := ⟨_, rfl⟩
        have hcl : (C.bs.drop a)[k]? = some c := by
          rw [List.getElem?_drop, ← hc]; exact List.getElem?_eq_getElem (by rw [← Lib.size_eq]; exact hin)
        have hs := hexN_succ k _ n HN.out c hcl
        have HS := Lib.hid hs
        have hcr := c.toNat_lt
        have hnk : n < 16 ^ k := hexN_le _ _ _ HN.out
        have hnk3 : 16 ^ k ≤ 16 ^ 3 := Nat.pow_le_pow_right (by omega) (by omega)
        have hn4 : n < 4096 := by omega
        clear hcl hs hnk hnk3
        rcases hexL_cases c with ⟨b1, b2, b3⟩ | ⟨b1, b2, b3⟩ | ⟨b1, b2, b3⟩ | ⟨b1, b2, b3, b4⟩
        · have i1 : (48 : Int) ≤ c.toNat := by omega
          have i2 : (c.toNat : Int) ≤ 57 := by omega
          have HV := Lib.hid (HS.out.trans (by rw [b3]; rfl : _ = some (16 * n + (c.toNat - 48))))
          go_wp2_with fail
          go_roundw
          case rel => exact ⟨k + 1, 16 * n + (c.toNat - 48), by congr 1; omega, by congr 1, hlt, HV.out, by omega, by first | rfl | trivial⟩
          case measure => simp; omega
        · have i1 : (97 : Int) ≤ c.toNat := by omega
          have i2 : (c.toNat : Int) ≤ 102 := by omega
          have i3 : ¬ (c.toNat : Int) ≤ 57 := by omega
          have i4 : (48 : Int) ≤ c.toNat := by omega
          have HV := Lib.hid (HS.out.trans (by rw [b3]; rfl : _ = some (16 * n + (c.toNat - 87))))
          go_wp2_with fail
          go_roundw
          case rel => exact ⟨k + 1, 16 * n + (c.toNat - 87), by congr 1; omega, by congr 1, hlt, HV.out, by omega, by first | rfl | trivial⟩
          case measure => simp; omega
        · have i1 : (65 : Int) ≤ c.toNat := by omega
          have i2 : (c.toNat : Int) ≤ 70 := by omega
          have i3 : ¬ (c.toNat : Int) ≤ 57 := by omega
          have i4 : (48 : Int) ≤ c.toNat := by omega
          have i5 : ¬ (97 : Int) ≤ c.toNat := by omega
          have HV := Lib.hid (HS.out.trans (by rw [b3]; rfl : _ = some (16 * n + (c.toNat - 55))))
          go_wp2_with fail
          go_roundw
          case rel => exact ⟨k + 1, 16 * n + (c.toNat - 55), by congr 1; omega, by congr 1, hlt, HV.out, by omega, by first | rfl | trivial⟩
          case measure => simp; omega
        · have HV := Lib.hid (HS.out.trans (by rw [b4]; rfl : _ = none))
          have ho : o = none := by rw [← HO.out]; exact hexN_stop HV.out 4 (by omega)
          subst ho
          have j1 : (decide ((48 : Int) ≤ c.toNat) && decide ((c.toNat : Int) ≤ 57)) = false := by
            rw [Bool.and_eq_false_iff, decide_eq_false_iff_not, decide_eq_false_iff_not]; omega
          rcases Nat.lt_or_ge c.toNat 48 with g1 | g1
          · have i1 : ¬ (48 : Int) ≤ c.toNat := by omega
            have i2 : ¬ (97 : Int) ≤ c.toNat := by omega
            have i3 : ¬ (65 : Int) ≤ c.toNat := by omega
            go_wp2_with fail
            go_ret2
            exact ⟨by first | rfl | trivial, .inr rfl⟩
          · have i1 : (48 : Int) ≤ c.toNat := by omega
            have i1' : ¬ (c.toNat : Int) ≤ 57 := by omega
            rcases Nat.lt_or_ge c.toNat 97 with g2 | g2
            · have i2 : ¬ (97 : Int) ≤ c.toNat := by omega
              rcases Nat.lt_or_ge c.toNat 65 with g3 | g3
              · have i3 : ¬ (65 : Int) ≤ c.toNat := by omega
                go_wp2_with fail
                go_ret2
                exact ⟨by first | rfl | trivial, .inr rfl⟩
              · have i3 : (65 : Int) ≤ c.toNat := by omega
                have i4 : ¬ (c.toNat : Int) ≤ 70 := by omega
                go_wp2_with fail
                go_ret2
                exact ⟨by first | rfl | trivial, .inr rfl⟩
            · have i2 : (97 : Int) ≤ c.toNat := by omega
              have i2' : ¬ (c.toNat : Int) ≤ 102 := by omega
              have i3 : (65 : Int) ≤ c.toNat := by omega
              have i4 : ¬ (c.toNat : Int) ≤ 70 := by omega
              go_wp2_with fail
              go_ret2
              exact ⟨by first | rfl | trivial, .inr rfl⟩
      · have hini : (C.s.size : Int) ≤ ((a + k : Nat) : Int) := by omega
        have ho : o = none := by
          rw [← HO.out]
          refine hexN_stop (k := k + 1) ?_ 4 (by omega)
          unfold hexN; rw [HN.out]; dsimp only
          rw [List.getElem?_drop, List.getElem?_eq_none (by rw [← Lib.size_eq]; omega)]
        subst ho
        go_wp2_with fail
        go_ret2
        exact ⟨by first | rfl | trivial, .inl rfl⟩
    · have hk4 : k = 4 := by omega
      subst hk4
      have ho : o = some n := by rw [← HO.out]; exact HN.out
      subst ho
      go_wp2_with fail
      go_ret2
      exact ⟨by first | rfl | trivial, rfl⟩

end Toc

namespace Toc
open Go Go.RowKit Go.Proofs

theorem hexN_len {l : Bytes} {a : Nat} {n : Nat} (h : hexN 4 (l.drop a) = some n) : a + 4 ≤ l.length := by
  rcases Nat.lt_or_ge l.length (a + 4) with hlt | hge
  · exfalso
    unfold hexN at h
    cases hk : hexN 3 (l.drop a) with
    | none => rw [hk] at h; cases h
    | some m =>
      rw [hk] at h
      dsimp only at h
      rw [List.getElem?_drop, List.getElem?_eq_none (by omega)] at h
      cases h
  · exact hge

theorem unitL_hexN (r : Bytes) : unitL (92 :: 117 :: r) = hexN 4 r := by
  have hshort : r.length < 4 → hexN 4 r = none := fun h => by
    cases hx : hexN 4 r with
    | none => rfl
    | some n => have := hexN_len (l := r) (a := 0) hx; omega
  rcases r with _ | ⟨a, r⟩
  · exact (hshort (by simp)).symm
  rcases r with _ | ⟨b, r⟩
  · exact (hshort (by simp)).symm
  rcases r with _ | ⟨c, r⟩
  · exact (hshort (by simp)).symm
  rcases r with _ | ⟨d, r⟩
  · exact (hshort (by simp)).symm
  clear hshort
  show (match hexL a, hexL b, hexL c, hexL d with | some w, some x, some y, some z => some (4096 * w + 256 * x + 16 * y + z) | _, _, _, _ => none) = _
  generalize hl : a :: b :: c :: d :: r = l
  have g0 : l[0]? = some a := by rw [← hl]; rfl
  have g1 : l[1]? = some b := by rw [← hl]; rfl
  have g2 : l[2]? = some c := by rw [← hl]; rfl
  have g3 : l[3]? = some d := by rw [← hl]; rfl
  cases ha : hexL a with
  | none => rw [hexN_stop (k := 1) (by rw [hexN_succ 0 l 0 rfl a g0, ha]; rfl) 4 (by omega)]
  | some w =>
    have k1 := hexN_succ 0 l 0 rfl a g0
    rw [ha] at k1
    cases hb : hexL b with
    | none => rw [hexN_stop (k := 2) (by rw [hexN_succ 1 l _ k1 b g1, hb]; rfl) 4 (by omega)]
    | some x =>
      have k2 := hexN_succ 1 l _ k1 b g1
      rw [hb] at k2
      cases hc : hexL c with
      | none => rw [hexN_stop (k := 3) (by rw [hexN_succ 2 l _ k2 c g2, hc]; rfl) 4 (by omega)]
      | some y =>
        have k3 := hexN_succ 2 l _ k2 c g2
        rw [hc] at k3
        have k4 := hexN_succ 3 l _ k3 d g3
        rw [k4]
        cases hd : hexL d with
        | none => rfl
        | some z =>
          show some _ = some _
          congr 1
          show 4096 * w + 256 * x + 16 * y + z = 16 * (16 * (16 * (16 * 0 + w) + x) + y) + z
          omega
theorem unitL_other {l : Bytes} (h : ¬ (l[0]? = some 92 ∧ l[1]? = some 117)) : unitL l = none := by
  unfold unitL
  split
  · exfalso; exact h ⟨rfl, rfl⟩
  · rfl

abbrev escG (C : RC) (a hi : Nat) (o2 : Option Nat) : Option (Nat × Bytes) :=
  match o2 with
  | none => none
  | some lo => if 56320 ≤ lo ∧ lo ≤ 57343 then some (65536 + (hi - 55296) * 1024 + (lo - 56320), C.bs.drop (a + 12)) else none
abbrev escF (C : RC) (a : Nat) (o1 : Option Nat) : Option (Nat × Bytes) :=
  match o1 with
  | none => none
  | some hi => if 55296 ≤ hi ∧ hi ≤ 56319 then escG C a hi (unitL (C.bs.drop (a + 6))) else if 56320 ≤ hi ∧ hi ≤ 57343 then none else some (hi, C.bs.drop (a + 6))
theorem escU_F (C : RC) (a : Nat) : escU (C.bs.drop a) = escF C a (unitL (C.bs.drop a)) := by
  unfold escU
  cases unitL (C.bs.drop a) with
  | none => rfl
  | some hi =>
    dsimp only
    rw [List.drop_drop, List.drop_drop]
    rfl

/-- What point gives. -/
def PointRet (C : RC) (a : Nat) (o : Option (Nat × Bytes)) (x : Ending) : Prop :=
  match o with
  | some (n, t) => ∃ size : Nat, x = .returned (.tuple #[.int .i64 n, .int .i64 size, .bool false]) ∧ (size = 6 ∨ size = 12) ∧ C.bs.drop (a + size) = t ∧ a + size ≤ C.s.size
  | none => ∃ cut, x = .returned (.tuple #[.int .i64 0, .int .i64 0, .bool cut])

set_option maxRecDepth 100000 in
set_option maxHeartbeats 8000000 in
theorem rpoint_any (C : RC) (w : World) (i d : Nat) (h : Rd C w i d) (a : Nat) (ha : a ≤ 4096) (h0 : C.bs[a]? = some 92) (h1 : C.bs[a + 1]? = some 117) {o : Option (Nat × Bytes)} (ho : escU (C.bs.drop a) = o) :
    Calls Tryz.prog 294 #[ptrV C.pb, .int .i64 a] w fun x w' => Below w.heap.size w w' ∧ PointRet C a o x := by
  have hda : C.bs.drop a = 92 :: 117 :: C.bs.drop (a + 2) := by
    obtain ⟨l0, e0⟩ := List.getElem?_eq_some_iff.1 h0
    obtain ⟨l1, e1⟩ := List.getElem?_eq_some_iff.1 h1
    rw [List.drop_eq_getElem_cons l0, e0, List.drop_eq_getElem_cons l1, e1]
  obtain ⟨o1, ho1⟩ : ∃ x, hexN 4 (C.bs.drop (a + 2)) = x := ⟨_, rfl⟩
  have hu : unitL (C.bs.drop a) = o1 := by rw [hda, unitL_hexN]; exact ho1
  have hesc : escU (C.bs.drop a) = escF C a o1 := by rw [← hu]; exact escU_F C a
  rw [ho] at hesc
  have HE := Lib.hid hesc
  have H := Lib.hid h
  have hsm := h.small
  obtain ⟨c0, _, _, _, _⟩ := h.cells
  have HX1 := Lib.hid (rhex_any C w i d h (a + 2) (by omega) ho1)
  have HO1 := Lib.hid ho1
  clear hesc hu hda h ho ho1
  go_enter Tryz.func294, Tryz.ntmps294
  go_wp2_with fail
  refine HX1.out.mono ?_
  rintro e w1 ⟨rfl, hret⟩
  have HB0 := Lib.hid (Below.refl w.heap.size w)
  cases o1 with
  | none =>
    have hoo : o = none := HE.out
    subst hoo
    rcases hret with rfl | rfl
    · go_wp2_with fail
      go_ret3
      exact ⟨HB0.out, _, rfl⟩
    · go_wp2_with fail
      go_ret3
      exact ⟨HB0.out, _, rfl⟩
  | some n =>
    obtain ⟨zn, hzn⟩ : ∃ z : Int, (n : Int) = z := ⟨_, rfl⟩
    have hret' : e = .returned (.tuple #[.int .i64 zn, .bool false]) := by rw [← hzn]; exact hret
    subst hret'
    have hlen := hexN_len HO1.out
    have hn4 := hexN_le _ _ _ HO1.out
    have hn : n < 65536 := hn4
    have HZN := Lib.hid hzn
    have z0 : 0 ≤ zn := by omega
    clear hret hn4
    by_cases hlo : 56320 ≤ n ∧ n ≤ 57343
    · have hoo : o = none := by
        rw [HE.out]; unfold escF; dsimp only; rw [if_neg (by omega), if_pos hlo]
      subst hoo
      have i1 : (56320 : Int) ≤ zn := by omega
      have i2 : zn < 57344 := by omega
      clear hzn hn hlo
      go_wp2_with fail
      go_ret3
      exact ⟨HB0.out, _, rfl⟩
    · by_cases hhi : 55296 ≤ n ∧ n ≤ 56319
      · have i1 : zn < 56320 := by omega
        have i2 : (55296 : Int) ≤ zn := by omega
        have i3 : zn ≤ 57343 := by omega
        have HE2 := Lib.hid (show o = escG C a n (unitL (C.bs.drop (a + 6))) from HE.out.trans (if_pos hhi))
        have HHI := Lib.hid hhi
        clear hzn hn hlo hhi
        go_wp2_with fail
        go_loopw [9] (fun s9 wr => ∃ k : Nat, s9 = .int .i64 k ∧ (k = 6 ∨ k = 7 ∨ k = 8) ∧ (6 < k → C.bs[a + 6]? = some 92) ∧ (7 < k → C.bs[a + 7]? = some 117) ∧ Below w.heap.size w wr) (fun s9 _ => match s9 with | .int _ x => 8 - x.toNat | _ => 0)
        case atStart => exact ⟨6, rfl, .inl rfl, fun h => by omega, fun h => by omega, HB0.out⟩
        case round =>
          obtain ⟨k, rfl, hk, hb6, hb7, hB⟩ := hrel
          have HB := Lib.hid hB
          have hR := H.out.below hB
          have HR := Lib.hid hR
          obtain ⟨c0, _, _, _, _⟩ := hR.cells
          have H6 := Lib.hid hb6
          have H7 := Lib.hid hb7
          clear hB hR hb6 hb7
          rcases hk with rfl | rfl | rfl
          · by_cases hin : a + 6 < C.s.size
            · obtain ⟨ax, hax⟩ : ∃ x, a + 6 = x := ⟨_, rfl⟩
              have hcast : (a : Int) + 6 = (ax : Int) := by omega
              rw [hax] at hin
              have hini : (ax : Int) < C.s.size := by omega
              obtain ⟨c, hc⟩ : ∃ c, C.s[ax]'hin = c := ⟨_, rfl⟩
              have hcl : C.bs[a + 6]? = some c := by rw [hax, ← hc]; exact List.getElem?_eq_getElem (by rw [← Lib.size_eq]; exact hin)
              have HCL := Lib.hid hcl
              clear hcl hax
              have j0 : ((⟨#[92, 117]⟩ : ByteArray)[0]'(by decide)).toNat = 92 := rfl
              by_cases h92 : c = 92
              · have j1 : ((c.toNat : Int) != 92) = false := by rw [h92]; rfl
                go_wp2_with fail
                go_quiet (fail)
                go_wp2_with fail
                all_goals exact ⟨⟨7, rfl, .inr (.inl rfl), fun _ => by rw [HCL.out, h92], fun h => by omega, below_trans HB.out (below_drewN _ _)⟩, by decide⟩
              · have j1 : ((c.toNat : Int) != 92) = true := by
                  simp only [bne_iff_ne, ne_eq]; intro e; exact h92 (UInt8.toNat_inj.1 (by have : (92 : UInt8).toNat = 92 := rfl; omega))
                have hoo : o = none := by
                  rw [HE2.out, unitL_other]
                  rw [List.getElem?_drop]
                  rintro ⟨h, _⟩
                  rw [show a + 6 + 0 = a + 6 by omega, HCL.out] at h
                  exact h92 (Option.some.inj h)
                subst hoo
                go_wp2_with fail
                go_quiet (fail)
                go_wp2_with fail
                go_ret3
                exact ⟨below_trans HB.out (below_drewN _ _), _, rfl⟩
            · have hini : (C.s.size : Int) ≤ (a : Int) + 6 := by omega
              have hoo : o = none := by
                rw [HE2.out, unitL_other]
                rw [List.getElem?_drop, List.getElem?_eq_none (by rw [← Lib.size_eq]; omega)]
                rintro ⟨h, _⟩; cases h
              subst hoo
              go_wp2_with fail
              go_ret3
              exact ⟨HB.out, _, rfl⟩
          · by_cases hin : a + 7 < C.s.size
            · obtain ⟨ax, hax⟩ : ∃ x, a + 7 = x := ⟨_, rfl⟩
              have hcast : (a : Int) + 7 = (ax : Int) := by omega
              rw [hax] at hin
              have hini : (ax : Int) < C.s.size := by omega
              obtain ⟨c, hc⟩ : ∃ c, C.s[ax]'hin = c := ⟨_, rfl⟩
              have hcl : C.bs[a + 7]? = some c := by rw [hax, ← hc]; exact List.getElem?_eq_getElem (by rw [← Lib.size_eq]; exact hin)
              have HCL := Lib.hid hcl
              clear hcl hax
              have j0 : ((⟨#[92, 117]⟩ : ByteArray)[1]'(by decide)).toNat = 117 := rfl
              by_cases h92 : c = 117
              · have j1 : ((c.toNat : Int) != 117) = false := by rw [h92]; rfl
                go_wp2_with fail
                go_quiet (fail)
                go_wp2_with fail
                all_goals exact ⟨⟨8, rfl, .inr (.inr rfl), fun _ => H6.out (by omega), fun _ => by rw [HCL.out, h92], below_trans HB.out (below_drewN _ _)⟩, by decide⟩
              · have j1 : ((c.toNat : Int) != 117) = true := by
                  simp only [bne_iff_ne, ne_eq]; intro e; exact h92 (UInt8.toNat_inj.1 (by have : (117 : UInt8).toNat = 117 := rfl; omega))
                have hoo : o = none := by
                  rw [HE2.out, unitL_other]
                  rw [List.getElem?_drop, List.getElem?_drop]
                  rintro ⟨_, h⟩
                  rw [show a + 6 + 1 = a + 7 by omega, HCL.out] at h
                  exact h92 (Option.some.inj h)
                subst hoo
                go_wp2_with fail
                go_quiet (fail)
                go_wp2_with fail
                go_ret3
                exact ⟨below_trans HB.out (below_drewN _ _), _, rfl⟩
            · have hini : (C.s.size : Int) ≤ (a : Int) + 7 := by omega
              have hoo : o = none := by
                rw [HE2.out, unitL_other]
                rw [List.getElem?_drop, List.getElem?_drop, show a + 6 + 1 = a + 7 by omega, List.getElem?_eq_none (by rw [← Lib.size_eq]; omega : C.bs.length ≤ a + 7)]
                rintro ⟨_, h⟩; cases h
              subst hoo
              go_wp2_with fail
              go_ret3
              exact ⟨HB.out, _, rfl⟩
          · obtain ⟨o2, ho2⟩ : ∃ x, hexN 4 (C.bs.drop (a + 8)) = x := ⟨_, rfl⟩
            have hd6 : C.bs.drop (a + 6) = 92 :: 117 :: C.bs.drop (a + 8) := by
              obtain ⟨l0, e0⟩ := List.getElem?_eq_some_iff.1 (H6.out (by omega))
              obtain ⟨l1, e1⟩ := List.getElem?_eq_some_iff.1 (H7.out (by omega))
              rw [List.drop_eq_getElem_cons l0, e0, List.drop_eq_getElem_cons l1, e1]
            have hu2 : unitL (C.bs.drop (a + 6)) = o2 := by rw [hd6, unitL_hexN]; exact ho2
            have he3 := HE2.out
            rw [hu2] at he3
            have HE3 := Lib.hid he3
            have HX2 := Lib.hid (rhex_any C wr i d HR.out (a + 8) (by omega) ho2)
            have HO2 := Lib.hid ho2
            clear hd6 hu2 he3 ho2
            go_wp2_with fail
            refine HX2.out.mono ?_
            rintro e w2 ⟨rfl, hret⟩
            cases o2 with
            | none =>
              have hoo : o = none := HE3.out
              subst hoo
              rcases hret with rfl | rfl
              · go_wp2_with fail
                go_ret3
                exact ⟨HB.out, _, rfl⟩
              · go_wp2_with fail
                go_ret3
                exact ⟨HB.out, _, rfl⟩
            | some m =>
              obtain ⟨zm, hzm⟩ : ∃ z : Int, (m : Int) = z := ⟨_, rfl⟩
              have hret' : e = .returned (.tuple #[.int .i64 zm, .bool false]) := by rw [← hzm]; exact hret
              subst hret'
              have hlen2 := hexN_len HO2.out
              have hm : m < 65536 := hexN_le _ _ _ HO2.out
              clear hret
              by_cases hm1 : 56320 ≤ m
              · have m1 : (56320 : Int) ≤ zm := by omega
                by_cases hm2 : m ≤ 57343
                · have m2 : zm ≤ 57343 := by omega
                  have hoo : o = some (65536 + (n - 55296) * 1024 + (m - 56320), C.bs.drop (a + 12)) := by
                    rw [HE3.out]; unfold escG; dsimp only; rw [if_pos ⟨hm1, hm2⟩]
                  subst hoo
                  have HZ := Lib.hid (show (65536 + 1024 * (zn - 55296) + zm - 56320 : Int) = ((65536 + (n - 55296) * 1024 + (m - 56320) : Nat) : Int) by have := HZN.out; have := HHI.out; omega)
                  clear hzm hm hm1 hm2
                  go_wp2_with fail
                  go_ret3
                  refine ⟨HB.out, 12, ?_, .inr rfl, rfl, by rw [Lib.size_eq]; omega⟩
                  rw [← HZ.out]
                  rfl
                · have m2 : (57343 : Int) < zm := by omega
                  have hoo : o = none := by
                    rw [HE3.out]; unfold escG; dsimp only; rw [if_neg (by omega)]
                  subst hoo
                  clear hzm hm hm1 hm2
                  go_wp2_with fail
                  go_ret3
                  exact ⟨HB.out, _, rfl⟩
              · have m1 : zm < 56320 := by omega
                have hoo : o = none := by
                  rw [HE3.out]; unfold escG; dsimp only; rw [if_neg (by omega)]
                subst hoo
                clear hzm hm hm1
                go_wp2_with fail
                go_ret3
                exact ⟨HB.out, _, rfl⟩
      · have hoo : o = some (n, C.bs.drop (a + 6)) := by
          rw [HE.out]; unfold escF; dsimp only; rw [if_neg hhi, if_neg hlo]
        subst hoo
        rcases Nat.lt_or_ge n 55296 with g | g
        · have i1 : zn < 55296 := by omega
          have i2 : zn < 56320 := by omega
          clear hzn hn hlo hhi g
          go_wp2_with fail
          go_ret3
          exact ⟨HB0.out, 6, by rw [HZN.out]; rfl, .inl rfl, rfl, by rw [Lib.size_eq]; omega⟩
        · have i1 : (57343 : Int) < zn := by omega
          have i2 : (56320 : Int) ≤ zn := by omega
          have i3 : (57344 : Int) ≤ zn := by omega
          have i4 : (55296 : Int) ≤ zn := by omega
          clear hzn hn hlo hhi g
          go_wp2_with fail
          go_ret3
          exact ⟨HB0.out, 6, by rw [HZN.out]; rfl, .inl rfl, rfl, by rw [Lib.size_eq]; omega⟩

/-- A row of bytes, made now. -/
def BytesRet (L : Bytes) (w : World) (x : Ending) (w' : World) : Prop :=
  ∃ g cs, x = .returned (.slice (some ⟨g, 0, none⟩) L.length L.length) ∧ w.heap.size ≤ g ∧ w'.heap[g]? = some (.cells cs 5 (0, 0)) ∧ cs.toList = Lib.byteCells L

theorem bytesRet_of {L : Bytes} {w w0 : World} {vs : List Int} (h : Lib.byteCells L = vs.map fun x => Value.int .u8 x) (hw : w0.heap.size ≤ w.heap.size) {n : Nat} (hn : L.length = n) :
    BytesRet L w0 (.returned (.slice (some ⟨w.heap.size, 0, none⟩) n n)) (w.alloc (.cells (vs.map fun x => Value.int .u8 x).toArray 5)) :=
  ⟨_, _, by rw [hn], hw, blk_new w _, by rw [h]⟩

theorem encode_one {z : Int} (h0 : 0 ≤ z) (h1 : z < 128) : Lib.byteCells (Lib.encodeRune z) = [z].map (fun x => Value.int .u8 x) ∧ (Lib.encodeRune z).length = 1 := by
  rw [Lib.byteCells_encodeRune]
  unfold Lib.runeCells Lib.encodeRune
  rw [Lib.encodeRuneZ_one h0 (by omega)]
  exact ⟨rfl, rfl⟩

set_option maxRecDepth 100000 in
set_option maxHeartbeats 4000000 in
theorem rencoded_any (z : Int) (h0 : 0 ≤ z) (h1 : z ≤ 1114111) (h2 : z < 55296 ∨ 57343 < z) (w : World) :
    Calls Tryz.prog 295 #[.int .i64 z] w fun x w' => BytesRet (Lib.encodeRune z) w x w' ∧ Below w.heap.size w w' := by
  have hL : Lib.byteCells (Lib.encodeRune z) = (Lib.encodeRuneZ z).map (fun x => Value.int .u8 x) := by rw [Lib.byteCells_encodeRune]; rfl
  have hln : (Lib.encodeRune z).length = (Lib.encodeRuneZ z).length := by unfold Lib.encodeRune; rw [List.length_map]
  by_cases c1 : z < 128
  · rw [Lib.encodeRuneZ_one h0 (by omega)] at hL hln
    have HL := Lib.hid (And.intro hL hln)
    clear hL hln
    go_enter Tryz.func295, Tryz.ntmps295
    go_wp2_with fail
    go_ret
    exact ⟨bytesRet_of HL.out.1 (Nat.le_refl _) HL.out.2, (Below.refl _ _).alloc (Nat.le_refl _) _⟩
  by_cases c2 : z < 2048
  · rw [Lib.encodeRuneZ_two (by omega) (by omega)] at hL hln
    have HL := Lib.hid (And.intro hL hln)
    have g1 : 128 ≤ z := by omega
    have e1 : z.tdiv 64 = z / 64 := by rw [Int.tdiv_eq_ediv_of_nonneg h0]
    have e2 : z.tmod 64 = z % 64 := Int.tmod_eq_emod_of_nonneg h0
    have b1 : 0 ≤ z / 64 ∧ z / 64 < 32 := by omega
    have b2 : 0 ≤ z % 64 ∧ z % 64 < 64 := by omega
    clear hL hln
    go_enter Tryz.func295, Tryz.ntmps295
    go_wp2_with fail
    go_ret
    exact ⟨bytesRet_of HL.out.1 (Nat.le_refl _) HL.out.2, (Below.refl _ _).alloc (Nat.le_refl _) _⟩
  by_cases c3 : z < 65536
  · rw [Lib.encodeRuneZ_three (by omega)] at hL hln
    have HL := Lib.hid (And.intro hL hln)
    have g1 : 2048 ≤ z := by omega
    clear hL hln
    go_enter Tryz.func295, Tryz.ntmps295
    go_wp2_with fail
    go_ret
    exact ⟨bytesRet_of HL.out.1 (Nat.le_refl _) HL.out.2, (Below.refl _ _).alloc (Nat.le_refl _) _⟩
  · rw [Lib.encodeRuneZ_four (by omega) (by omega)] at hL hln
    have HL := Lib.hid (And.intro hL hln)
    have g1 : 65536 ≤ z := by omega
    clear hL hln
    go_enter Tryz.func295, Tryz.ntmps295
    go_wp2_with fail
    go_ret
    exact ⟨bytesRet_of HL.out.1 (Nat.le_refl _) HL.out.2, (Below.refl _ _).alloc (Nat.le_refl _) _⟩

end Toc

namespace Toc
open Go Go.RowKit Go.Proofs

theorem unitL_lt {l : Bytes} {n : Nat} (h : unitL l = some n) : n < 65536 := by
  have hb : l[0]? = some 92 ∧ l[1]? = some 117 := Classical.byContradiction fun hc => by rw [unitL_other hc] at h; cases h
  obtain ⟨r, rfl⟩ : ∃ r, l = 92 :: 117 :: r := by
    rcases l with _ | ⟨a, _ | ⟨b, r⟩⟩
    · cases hb.1
    · cases hb.2
    · have h1 := Option.some.inj hb.1
      have h2 := Option.some.inj hb.2
      exact ⟨r, by rw [h1, h2]⟩
  rw [unitL_hexN] at h
  exact hexN_le _ _ _ h
set_option maxRecDepth 100000 in
theorem escU_range {l : Bytes} {n : Nat} {t : Bytes} (h : escU l = some (n, t)) : n ≤ 1114111 ∧ (n < 55296 ∨ 57343 < n) := by
  unfold escU at h
  cases hu : unitL l with
  | none => rw [hu] at h; cases h
  | some hi =>
    rw [hu] at h
    dsimp only at h
    have h1 := unitL_lt hu
    split at h
    · cases hu2 : unitL (l.drop 6) with
      | none => rw [hu2] at h; cases h
      | some lo =>
        rw [hu2] at h
        dsimp only at h
        split at h
        · have h2 := (Prod.mk.inj (Option.some.inj h)).1
          omega
        · cases h
    · split at h
      · cases h
      · have h2 := (Prod.mk.inj (Option.some.inj h)).1
        omega

/-- What an escape gives. -/
def EscRetR (C : RC) (w : World) (d : Nat) (o : Option (Nat × Bytes)) (x : Ending) (w' : World) : Prop :=
  Turns [C.pb] w w' ∧
  match o with
  | some (r, t) => ∃ j, Rd C w' j d ∧ C.bs.drop j = t ∧ BytesRet (Lib.encodeRune r) w x w'
  | none => x = .returned nilS ∧ Bd C w' d

/-- The signs of one letter. -/
theorem escaped_cases (c : UInt8) : (c = 34 ∧ escapedL c = some 34) ∨ (c = 92 ∧ escapedL c = some 92) ∨ (c = 47 ∧ escapedL c = some 47) ∨ (c = 98 ∧ escapedL c = some 8) ∨ (c = 102 ∧ escapedL c = some 12) ∨ (c = 110 ∧ escapedL c = some 10) ∨ (c = 114 ∧ escapedL c = some 13) ∨ (c = 116 ∧ escapedL c = some 9) ∨
    (c ≠ 34 ∧ c ≠ 92 ∧ c ≠ 47 ∧ c ≠ 98 ∧ c ≠ 102 ∧ c ≠ 110 ∧ c ≠ 114 ∧ c ≠ 116 ∧ escapedL c = none) := by
  by_cases h1 : c = 34
  · subst h1; exact .inl ⟨rfl, rfl⟩
  by_cases h2 : c = 92
  · subst h2; exact .inr (.inl ⟨rfl, rfl⟩)
  by_cases h3 : c = 47
  · subst h3; exact .inr (.inr (.inl ⟨rfl, rfl⟩))
  by_cases h4 : c = 98
  · subst h4; exact .inr (.inr (.inr (.inl ⟨rfl, rfl⟩)))
  by_cases h5 : c = 102
  · subst h5; exact .inr (.inr (.inr (.inr (.inl ⟨rfl, rfl⟩))))
  by_cases h6 : c = 110
  · subst h6; exact .inr (.inr (.inr (.inr (.inr (.inl ⟨rfl, rfl⟩)))))
  by_cases h7 : c = 114
  · subst h7; exact .inr (.inr (.inr (.inr (.inr (.inr (.inl ⟨rfl, rfl⟩))))))
  by_cases h8 : c = 116
  · subst h8; exact .inr (.inr (.inr (.inr (.inr (.inr (.inr (.inl ⟨rfl, rfl⟩)))))))
  refine .inr (.inr (.inr (.inr (.inr (.inr (.inr (.inr ⟨h1, h2, h3, h4, h5, h6, h7, h8, ?_⟩)))))))
  unfold escapedL
  simp [h1, h2, h3, h4, h5, h6, h7, h8]

theorem bytesRet_one {z : Int} (h0 : 0 ≤ z) (h1 : z < 128) {w w0 : World} (hw : w0.heap.size ≤ w.heap.size) :
    BytesRet (Lib.encodeRune z) w0 (.returned (.slice (some ⟨w.heap.size, 0, none⟩) 1 1)) (w.alloc (.cells #[.int .u8 z] 5)) := by
  obtain ⟨e1, e2⟩ := encode_one h0 h1
  exact bytesRet_of e1 hw e2

theorem BytesRet.mono {L : Bytes} {w w0 : World} {x : Ending} {w' : World} (h : BytesRet L w x w') (hw : w0.heap.size ≤ w.heap.size) : BytesRet L w0 x w' := by
  obtain ⟨g, cs, h1, h2, h3, h4⟩ := h
  exact ⟨g, cs, h1, Nat.le_trans hw h2, h3, h4⟩

set_option maxRecDepth 100000 in
set_option maxHeartbeats 8000000 in
theorem rescape_any (C : RC) (w : World) (i d : Nat) (h : Rd C w i d) (h0 : C.bs[i]? = some 92) {o : Option (Nat × Bytes)} (ho : escL (C.bs.drop i) = o) :
    Calls Tryz.prog 269 #[ptrV C.pb] w fun x w' => EscRetR C w d o x w' := by
  have hil : i < C.s.size := by rw [Lib.size_eq]; exact (List.getElem?_eq_some_iff.1 h0).1
  have hsm := h.small
  have H := Lib.hid h
  obtain ⟨c0, c1, _, _, z1⟩ := h.cells
  have hd0 : C.bs.drop i = 92 :: C.bs.drop (i + 1) := by
    obtain ⟨l0, e0⟩ := List.getElem?_eq_some_iff.1 h0
    rw [List.drop_eq_getElem_cons l0, e0]
  by_cases hin : i + 1 < C.s.size
  · obtain ⟨ax, hax⟩ : ∃ x, i + 1 = x := ⟨_, rfl⟩
    have hcast : (i : Int) + 1 = (ax : Int) := by omega
    rw [hax] at hin
    have hini : (ax : Int) < C.s.size := by omega
    obtain ⟨c, hc⟩ : ∃ c, C.s[ax]'hin = c := ⟨_, rfl⟩
    have hcl : C.bs[i + 1]? = some c := by rw [hax, ← hc]; exact List.getElem?_eq_getElem (by rw [← Lib.size_eq]; exact hin)
    have hd1 : C.bs.drop i = 92 :: c :: C.bs.drop (i + 2) := by
      obtain ⟨l1, e1⟩ := List.getElem?_eq_some_iff.1 hcl
      rw [hd0, List.drop_eq_getElem_cons l1, e1]
    have hesc : o = match escapedL c with | some x => some (x, C.bs.drop (i + 2)) | none => escU (C.bs.drop i) := by
      rw [← ho, hd1]; rfl
    have HE := Lib.hid hesc
    have HCL := Lib.hid hcl
    have HD1 := Lib.hid hd1
    have HH0 := Lib.hid h0
    have hstep : ∀ wx, Rd C wx i d → Rd C (wx.setCell ⟨C.pb, 1, none⟩ (.int .i64 ((i : Int) + 2))) (i + 2) d := fun wx hx => by
      rw [show (i : Int) + 2 = ((i + 2 : Nat) : Int) by omega]; exact hx.step (i + 2) (by omega)
    have HST := Lib.hid hstep
    have HAX := Lib.hid hax
    clear hcl hd1 hesc h0 hd0 ho h hstep hax
    have simple : ∀ (z : Int) (k : Nat), escapedL c = some k → (k : Int) = z → 0 ≤ z → z < 128 → ∀ (wx : World), wx = w.setCell ⟨C.pb, 1, none⟩ (.int .i64 ((i : Int) + 2)) → EscRetR C w d o (.returned (.slice (some ⟨w.heap.size, 0, none⟩) 1 1)) (wx.alloc (.cells #[.int .u8 z] 5)) := by
      rintro z k hk hkz hz0 hz1 wx rfl
      have hoo : o = some (k, C.bs.drop (i + 2)) := by rw [HE.out, hk]
      subst hoo
      have hT := turns_set C.pb 1 w (.int .i64 ((i : Int) + 2))
      refine ⟨hT.alloc _, i + 2, (HST.out w H.out).below ((Below.refl _ _).alloc (Nat.le_refl _) _), rfl, ?_⟩
      rw [hkz]
      have hbo := bytesRet_one (z := z) hz0 hz1 hT.size
      rw [show (w.setCell ⟨C.pb, 1, none⟩ (.int .i64 ((i : Int) + 2))).heap.size = w.heap.size by simp [World.setCell]] at hbo
      exact hbo
    have HS := Lib.hid simple
    clear simple
    rcases escaped_cases c with ⟨rfl, he⟩ | ⟨rfl, he⟩ | ⟨rfl, he⟩ | ⟨rfl, he⟩ | ⟨rfl, he⟩ | ⟨rfl, he⟩ | ⟨rfl, he⟩ | ⟨rfl, he⟩ | ⟨n1, n2, n3, n4, n5, n6, n7, n8, he⟩
    iterate 8
      · have HE2 := Lib.hid he
        clear he
        go_enter Tryz.func269, Tryz.ntmps269
        go_wp2_with fail
        go_ret
        first | exact HS.out 34 _ HE2.out rfl (by decide) (by decide) _ rfl | exact HS.out 92 _ HE2.out rfl (by decide) (by decide) _ rfl | exact HS.out 47 _ HE2.out rfl (by decide) (by decide) _ rfl | exact HS.out 8 _ HE2.out rfl (by decide) (by decide) _ rfl | exact HS.out 12 _ HE2.out rfl (by decide) (by decide) _ rfl | exact HS.out 10 _ HE2.out rfl (by decide) (by decide) _ rfl | exact HS.out 13 _ HE2.out rfl (by decide) (by decide) _ rfl | exact HS.out 9 _ HE2.out rfl (by decide) (by decide) _ rfl
    · have ho : o = escU (C.bs.drop i) := by rw [HE.out, he]
      have hn : ∀ k : UInt8, c ≠ k → ((c.toNat : Int) == (k.toNat : Int)) = false := fun k hk => by
        simp only [beq_eq_false_iff_ne, ne_eq]; intro e; exact hk (UInt8.toNat_inj.1 (by exact_mod_cast e))
      by_cases h117 : c = 117
      · subst h117
        have HPT := Lib.hid (rpoint_any C w i d H.out i (by omega) HH0.out HCL.out ho.symm)
        have HO := Lib.hid ho
        clear ho n1 n2 n3 n4 n5 n6 n7 n8 he hn
        go_enter Tryz.func269, Tryz.ntmps269
        go_wp2_with fail
        refine HPT.out.mono ?_
        rintro e w1 ⟨hb, hret⟩
        have hR1 := H.out.below hb
        have HR1 := Lib.hid hR1
        have HB1 := Lib.hid hb
        obtain ⟨d0, d1, _, _, y1⟩ := hR1.cells
        clear hb hR1
        cases o with
        | none =>
          obtain ⟨cut, rfl⟩ := hret
          cases cut with
          | true =>
            go_wp2_with fail
            refine (fail_good C _ i d HR1.out _ 20 (by decide)).mono ?_
            rintro e w4 ⟨rfl, hB, hT⟩
            have HT3 := Lib.hid ((Turns.below (S := [C.pb]) HB1.out).trans hT)
            have HB3 := Lib.hid hB
            clear hB hT
            go_wp2_with fail
            go_ret
            exact ⟨HT3.out, rfl, HB3.out⟩
          | false =>
            go_wp2_with fail
            refine (fail_good C _ i d HR1.out i 20 (by decide)).mono ?_
            rintro e w4 ⟨rfl, hB, hT⟩
            have HT3 := Lib.hid ((Turns.below (S := [C.pb]) HB1.out).trans hT)
            have HB3 := Lib.hid hB
            clear hB hT
            go_wp2_with fail
            go_ret
            exact ⟨HT3.out, rfl, HB3.out⟩
        | some p =>
          obtain ⟨n, t⟩ := p
          obtain ⟨size, rfl, hsz, hdt, hle⟩ := hret
          obtain ⟨r1, r2⟩ := escU_range HO.out.symm
          obtain ⟨zn, hzn⟩ : ∃ z : Int, (n : Int) = z := ⟨_, rfl⟩
          have hst2 : ∀ wx, Rd C wx i d → Rd C (wx.setCell ⟨C.pb, 1, none⟩ (.int .i64 ((i : Int) + size))) (i + size) d := fun wx hx => by
            rw [show (i : Int) + size = ((i + size : Nat) : Int) by omega]; exact hx.step (i + size) hle
          have HST2 := Lib.hid hst2
          have HZN := Lib.hid hzn
          have HEN := Lib.hid (fun wx => rencoded_any zn (by omega) (by omega) (by omega) wx)
          have hs0 : ((size : Int) == 0) = false := by simp; omega
          have HDT := Lib.hid hdt
          have hsz2 : size ≤ 12 := by omega
          rw [hzn]
          clear hzn r1 r2 hst2 hdt hle hsz
          go_wp2_with fail
          refine (HEN.out _).mono ?_
          rintro e w2 ⟨hbr, hb2⟩
          have hT := (Turns.below (S := [C.pb]) HB1.out).trans (turns_set C.pb 1 w1 (.int .i64 ((i : Int) + size)))
          have HT2 := Lib.hid (hT.trans (Turns.below hb2))
          have HBR := Lib.hid (hbr.mono hT.size)
          have HRR := Lib.hid ((HST2.out w1 HR1.out).below hb2)
          obtain ⟨g, cs, rfl, _⟩ := hbr
          clear hb2 hT
          go_wp2_with fail
          go_ret
          exact ⟨HT2.out, i + size, HRR.out, HDT.out, by rw [HZN.out]; exact HBR.out⟩
      · have hoo : o = none := by
          rw [ho, escU, unitL_other]
          rw [HD1.out]
          rintro ⟨_, h⟩
          exact h117 (Option.some.inj h)
        subst hoo
        have j0 : ((c.toNat : Int) == 117) = false := hn 117 h117
        have j1 : ((c.toNat : Int) == 34) = false := hn 34 n1
        have j2 : ((c.toNat : Int) == 92) = false := hn 92 n2
        have j3 : ((c.toNat : Int) == 47) = false := hn 47 n3
        have j4 : ((c.toNat : Int) == 98) = false := hn 98 n4
        have j5 : ((c.toNat : Int) == 102) = false := hn 102 n5
        have j6 : ((c.toNat : Int) == 110) = false := hn 110 n6
        have j7 : ((c.toNat : Int) == 114) = false := hn 114 n7
        have j8 : ((c.toNat : Int) == 116) = false := hn 116 n8
        have hr : 0 ≤ (c.toNat : Int) ∧ (c.toNat : Int) < 256 := ⟨by omega, by have := c.toNat_lt; omega⟩
        clear ho n1 n2 n3 n4 n5 n6 n7 n8 he hn h117
        go_enter Tryz.func269, Tryz.ntmps269
        go_wp2_with fail
        refine (fail_good C _ (i + 2) d (HST.out w H.out) i 20 (by decide)).mono ?_
        rintro e w4 ⟨rfl, hB, hT⟩
        have HT3 := Lib.hid ((turns_set C.pb 1 w (.int .i64 ((i : Int) + 2))).trans hT)
        have HB3 := Lib.hid hB
        clear hB hT
        go_wp2_with fail
        go_ret
        exact ⟨HT3.out, rfl, HB3.out⟩
  · have hoo : o = none := by
      rw [← ho, hd0, List.drop_eq_nil_of_le (by rw [← Lib.size_eq]; omega)]; rfl
    subst hoo
    have hini : (C.s.size : Int) ≤ (i : Int) + 1 := by omega
    clear hd0 h0 ho h
    go_enter Tryz.func269, Tryz.ntmps269
    go_wp2_with fail
    refine (fail_good C _ i d H.out _ 20 (by decide)).mono ?_
    rintro e w4 ⟨rfl, hB, hT⟩
    have HT3 := Lib.hid hT
    have HB3 := Lib.hid hB
    clear hB hT
    go_wp2_with fail
    go_ret
    exact ⟨HT3.out, rfl, HB3.out⟩

end Toc

namespace Toc
open Go Go.RowKit Go.Proofs

theorem own_turns {S : List Nat} {w w' : World} {base : Nat} {e : TypeId} {size : Nat} {v : Value} {n : Nat} {xs : List Value} (h : w.ownsRow base e size v n xs) (ho : Turns S w w') (hS : ∀ b ∈ S, b < base) : w'.ownsRow base e size v n xs := by
  refine ⟨h.1, ?_⟩
  rcases h.2 with h1 | ⟨g, cap, cur, h1, h2, h3, h4⟩
  · exact .inl h1
  · exact .inr ⟨g, cap, cur, h1, h2, ho.heap h3 (fun hm => by have := hS g hm; omega), h4⟩

theorem wpList_append_none {P : Program} {w : World} {ops : Array Oper} {rest : List Oper} {o : Oper} {a : Act} {Q : Exit → Act → World → Prop} (hgd : o.guard = none) (sl x : Operand) (t : TypeId)
    (ho : o.op = .call { callee := .builtin .append, args := #[sl, x], argTypes := #[t, t] })
    (base : Nat) (e : TypeId) (i : TypeInfo) (size : Nat) (ht : P.underlying t = some (.slice e)) (hi : P.info? e = some i)
    (v : Value) (n : Nat) (xs : List Value) (hs : a.eval sl = v) (hown : w.ownsRow base e size v n xs) (hx : a.eval x = .slice none 0 0)
    (h : wpList P ops Q rest (a.put o.dst v) w) : wpList P ops Q (o :: rest) a w := by
  refine wpList_plain hgd fun K hK => ?_
  have hr := run_append_owned_none (P := P) (w := w) base t o.type e i size ht hi v n xs hown
  unfold Oper.wp execOp
  simp only [ho, resolve, invoke, builtin, Sem.run_bind, Sem.run_pure, Result.andThen_ok, List.map_toArray, List.map_cons, List.map_nil, hs, hx, hr]
  exact hK _ _ h

/-- A text has been read; or something is wrong. -/
def RTextOf (C : RC) (w : World) (d : Nat) (o : Option (Bytes × Bytes)) (x : Ending) (w' : World) : Prop :=
  Turns [C.pb] w w' ∧
  match o with
  | some (t, r) => ∃ j, x = .returned (.string (mkS t)) ∧ Rd C w' j d ∧ C.bs.drop j = r
  | none => x = .returned (.string emptyS) ∧ Bd C w' d

/-- A string with its quote ahead. -/
def qtextL (l : Bytes) : Option (Bytes × Bytes) := match l with | 34 :: r => textL r | _ => none
theorem qtextL_hit {l : Bytes} {i : Nat} (h : l[i]? = some 34) : qtextL (l.drop i) = textL (l.drop (i + 1)) := by
  obtain ⟨l0, e0⟩ := List.getElem?_eq_some_iff.1 h
  rw [List.drop_eq_getElem_cons l0, e0]; rfl
theorem qtextL_miss {l : Bytes} {i : Nat} (h : ¬ l[i]? = some 34) : qtextL (l.drop i) = none := by
  unfold qtextL
  split
  · rename_i r e
    exfalso
    refine h ?_
    have := List.getElem?_drop (xs := l) (i := i) (j := 0)
    rw [e] at this
    simpa using this.symm
  · rfl

/-- How much there is to read (for a loop's measure). -/
def rdM (C : RC) (w : World) : Nat := match w.heap[C.pb]? with
  | some (.cells c _ _) => (if RowKit.intOf (c.getD 3 undef) = 0 then C.s.size - (RowKit.intOf (c.getD 1 undef)).toNat + 1 else 0)
  | _ => 0
theorem rdM_good {C : RC} {w : World} {i d : Nat} (h : Rd C w i d) : rdM C w = C.s.size - i + 1 := by
  simp [rdM, h.blk, rdObj, RowKit.intOf]
theorem rdM_bad {C : RC} {w : World} {d : Nat} (h : Bd C w d) : rdM C w = 0 := by
  obtain ⟨i, e, a, h1, _, _, h4⟩ := h
  simp [rdM, h4, rdObj, RowKit.intOf, h1]

def TextLoop (C : RC) (w : World) (d : Nat) (o : Option (Bytes × Bytes)) (v : Value) (wr : World) : Prop :=
  Turns [C.pb] w wr ∧ ((∃ (k : Nat) (acc : Bytes), OwnBytes wr w.heap.size v acc ∧ Rd C wr k d ∧ acc.length ≤ 4 * k ∧ (textL (C.bs.drop k)).map (fun p => (acc ++ p.1, p.2)) = o) ∨ (Bd C wr d ∧ o = none))

theorem seq_rune {l : Bytes} {c : UInt8} {r : Bytes} (hl : l = c :: r) (h34 : c ≠ 34) (h32 : ¬ c < 32) (h92 : c ≠ 92) :
    (seqW l = 0 → textL l = none) ∧ (seqW l ≠ 0 → textL l = (textL (l.drop (seqW l))).map (fun p => (l.take (seqW l) ++ p.1, p.2)) ∧ seqW l ≤ l.length ∧ 1 ≤ seqW l) := by
  subst hl
  have hw : seqW (c :: r) = if c.toNat < 128 then 1 else if (headRune (c :: r)).2 = 1 then 0 else (headRune (c :: r)).2 := rfl
  obtain ⟨ru, wd, hh⟩ : ∃ ru wd, headRune (c :: r) = (ru, wd) := ⟨_, _, rfl⟩
  have hpos := headRune_pos (c :: r)
  have hle := headRune_le (c :: r) (by simp)
  rw [hh] at hpos hle
  dsimp only at hpos hle
  by_cases h128 : c.toNat < 128
  · rw [if_pos h128] at hw
    have hh1 : headRune (c :: r) = (c.toNat, 1) := by
      unfold headRune Lib.decodeN
      rw [if_pos (by simpa using h128)]; rfl
    refine ⟨(fun h => by rw [hw] at h; cases h), fun _ => ⟨?_, by rw [hw]; simp, by rw [hw]; exact Nat.le_refl _⟩⟩
    rw [hw]
    exact textL_rune h34 h32 h92 hh1 (.inl (by omega))
  · rw [if_neg h128, hh] at hw
    dsimp only at hw
    have h1 : wd = 1 → ru = 65533 := by
      intro h
      subst h
      unfold headRune Lib.decodeN at hh
      rw [if_neg (by simpa using h128)] at hh
      repeat' split at hh
      all_goals first | (exact (Prod.mk.inj hh).1.symm) | (have := (Prod.mk.inj hh).2; omega)
    by_cases hwd : wd = 1
    · rw [if_pos hwd] at hw
      refine ⟨fun _ => textL_bad h34 h92 (by rw [hh, h1 hwd, hwd]), fun h => absurd hw h⟩
    · rw [if_neg hwd] at hw
      refine ⟨(fun h => by rw [hw] at h; omega), fun _ => ⟨?_, by rw [hw]; exact hle, by rw [hw]; exact hpos⟩⟩
      rw [hw]
      exact textL_rune h34 h32 h92 hh (.inr hwd)

set_option maxRecDepth 100000 in
set_option maxHeartbeats 8000000 in
theorem rtext_good (C : RC) (w : World) (i d : Nat) (h : Rd C w i d) {o : Option (Bytes × Bytes)} (ho : qtextL (C.bs.drop i) = o) :
    Calls Tryz.prog 222 #[ptrV C.pb] w fun x w' => RTextOf C w d o x w' := by
  obtain ⟨i0, hi5, hz0, hz1, hz2⟩ := info_parts (show (Tryz.prog.info? 5).map (fun i => (i.zero, i.size, i.bytes)) = some (some (.int .u8 0), 1, 1) by kernel_rfl)
  have hpb : C.pb < w.heap.size := blk_lt h.blk
  have hsm := h.small
  have HM := Lib.hid (rmust_good C w i d h 34)
  have HO := Lib.hid ho
  have HLE := Lib.hid h.le
  clear h ho
  go_enter Tryz.func222, Tryz.ntmps222
  go_wp2_with fail
  refine HM.out.mono ?_
  rintro e w1 ⟨rfl, hT1, hmt⟩
  have h0 : TextLoop C w d o nilS w1 := by
    refine ⟨hT1, ?_⟩
    by_cases h34 : C.bs[i]? = some 34
    · rw [if_pos h34] at hmt
      refine .inl ⟨i + 1, [], World.ownsRow_nil _ _ _ _, hmt, by simp, ?_⟩
      rw [← HO.out, qtextL_hit h34]
      cases textL (C.bs.drop (i + 1)) <;> simp
    · rw [if_neg h34] at hmt
      exact .inr ⟨hmt, by rw [← HO.out, qtextL_miss h34]⟩
  have HL0 := Lib.hid h0
  clear hT1 hmt h0
  go_wp2_with fail
  go_loopw [3] (fun s3 wr => ∃ v, v = s3 ∧ TextLoop C w d o v wr) (fun _ wr => rdM C wr)
  case atStart => exact ⟨_, rfl, HL0.out⟩
  case round =>
    obtain ⟨v, rfl, hT, hg | ⟨hB, rfl⟩⟩ := hrel
    · obtain ⟨k, acc, hown, hR, hacc, htx⟩ := hg
      have HT := Lib.hid hT
      have HW := Lib.hid hown
      have HR := Lib.hid hR
      have HX := Lib.hid htx
      have hle := hR.le
      obtain ⟨c0, c1, _, c3, z1⟩ := hR.cells
      obtain ⟨z, hz⟩ : ∃ z, nextV C.bs k = z := ⟨_, rfl⟩
      have HN := Lib.hid (next_good C wr k d hR hz)
      have hzr := nextV_rangeR C.bs k
      rw [hz] at hzr
      obtain ⟨hz1', hz2'⟩ := hzr
      clear hT hown hR htx HL0
      cases hck : C.bs[k]? with
      | none =>
        have hzz : z = -1 := by rw [← hz, nextV_none (List.getElem?_eq_none_iff.1 hck)]
        subst hzz
        have hoo : o = none := by
          rw [← HX.out, List.drop_eq_nil_of_le (List.getElem?_eq_none_iff.1 hck)]; rfl
        subst hoo
        clear hck hz
        go_wp2_with fail
        refine HN.out.mono ?_
        rintro e w2 ⟨rfl, hb⟩
        have hR2 := HR.out.below hb
        have HR2 := Lib.hid hR2
        have HT2 := Lib.hid (HT.out.trans (Turns.below hb))
        obtain ⟨d0, d1, _, d3, y1⟩ := hR2.cells
        clear hb hR2
        go_wp2_with fail
        refine (fail_good C _ k d HR2.out k 20 (by decide)).mono ?_
        rintro e w4 ⟨rfl, hB, hT⟩
        have HT3 := Lib.hid (HT2.out.trans hT)
        have HB3 := Lib.hid hB
        clear hB hT
        go_wp2_with fail
        go_ret
        exact ⟨HT3.out, rfl, HB3.out⟩
      | some c =>
        have hzc : z = c.toNat := by rw [← hz, nextV_some hck]
        subst hzc
        have hlt : k < C.s.size := by rw [Lib.size_eq]; exact (List.getElem?_eq_some_iff.1 hck).1
        have hdk : C.bs.drop k = c :: C.bs.drop (k + 1) := by
          obtain ⟨l0, e0⟩ := List.getElem?_eq_some_iff.1 hck
          rw [List.drop_eq_getElem_cons l0, e0]
        have HD := Lib.hid hdk
        have HCK := Lib.hid hck
        clear hck hz hdk
        by_cases h34 : c = 34
        · subst h34
          have hx := HX.out
          rw [HD.out, textL_quote rfl] at hx
          subst hx
          have HCV := Lib.hid (fun (wx : World) (hx : Turns [C.pb] wr wx) => OwnBytes.conv (base := w.heap.size) (own_turns HW.out hx (by simpa using hpb)))
          go_wp2_with fail
          refine HN.out.mono ?_
          rintro e w2 ⟨rfl, hb⟩
          have hR2 := HR.out.below hb
          have HR2 := Lib.hid hR2
          have HT2 := Lib.hid (HT.out.trans (Turns.below hb))
          obtain ⟨d0, d1, _, d3, y1⟩ := hR2.cells
          have hcv := HCV.out _ ((Turns.below (S := [C.pb]) hb).trans (turns_set C.pb 1 w2 (.int .i64 ((k : Int) + 1))))
          have HST := Lib.hid (show Rd C (w2.setCell ⟨C.pb, 1, none⟩ (.int .i64 ((k : Int) + 1))) (k + 1) d from hR2.step (k + 1) hlt)
          clear hb hR2
          go_wp2_with fail
          go_ret
          refine ⟨HT2.out.trans (turns_set _ _ _ _), k + 1, ?_, HST.out, rfl⟩
          simp
        · have h34' : ((c.toNat : Int) == 34) = false := by
            simp only [beq_eq_false_iff_ne, ne_eq]; intro e; exact h34 (UInt8.toNat_inj.1 (by have : (34 : UInt8).toNat = 34 := rfl; omega))
          by_cases h32 : c < 32
          · have h32' : (c.toNat : Int) < 32 := by have := UInt8.lt_iff_toNat_lt.1 h32; have e : (32 : UInt8).toNat = 32 := rfl; omega
            have hx := HX.out
            rw [HD.out, textL_low h32] at hx
            subst hx
            go_wp2_with fail
            refine HN.out.mono ?_
            rintro e w2 ⟨rfl, hb⟩
            have hR2 := HR.out.below hb
            have HR2 := Lib.hid hR2
            have HT2 := Lib.hid (HT.out.trans (Turns.below hb))
            obtain ⟨d0, d1, _, d3, y1⟩ := hR2.cells
            clear hb hR2
            go_wp2_with fail
            refine (fail_good C _ k d HR2.out k 20 (by decide)).mono ?_
            rintro e w4 ⟨rfl, hB, hT⟩
            have HT3 := Lib.hid (HT2.out.trans hT)
            have HB3 := Lib.hid hB
            clear hB hT
            go_wp2_with fail
            go_ret
            exact ⟨HT3.out, rfl, HB3.out⟩
          · have h32' : (32 : Int) ≤ c.toNat := by
              rcases Nat.lt_or_ge c.toNat 32 with g | g
              · exact absurd (UInt8.lt_iff_toNat_lt.2 (by have e : (32 : UInt8).toNat = 32 := rfl; omega)) h32
              · omega
            by_cases h92 : c = 92
            · subst h92
              obtain ⟨oe, hoe⟩ : ∃ x, escL (C.bs.drop k) = x := ⟨_, rfl⟩
              have HESC := Lib.hid (fun wx (hx : Rd C wx k d) => rescape_any C wx k d hx HCK.out hoe)
              have HOE := Lib.hid hoe
              clear hoe
              go_wp2_with fail
              refine HN.out.mono ?_
              rintro e w2 ⟨rfl, hb⟩
              have HR2 := Lib.hid (HR.out.below hb)
              have HT2 := Lib.hid (HT.out.trans (Turns.below hb))
              have HW2 := Lib.hid (own_turns HW.out (Turns.below (S := []) hb) (by simp))
              have hsz2 := hb.size
              clear hb
              go_wp2_with fail
              refine (HESC.out w2 HR2.out).mono ?_
              rintro e w3 ⟨hT3, hret⟩
              have HT3 := Lib.hid (HT2.out.trans hT3)
              have HW3 := Lib.hid (own_turns HW2.out hT3 (by simpa using hpb))
              have hsz3 := hT3.size
              cases oe with
              | none =>
                obtain ⟨rfl, hB⟩ := hret
                have hx := HX.out
                rw [HD.out, textL_noesc rfl (by rw [← HD.out]; exact HOE.out)] at hx
                subst hx
                have HB3 := Lib.hid hB
                clear hB hT3
                go_wp2_with (at_builtin; refine wpList_append_none rfl _ _ 34 rfl w.heap.size 5 i0 1 Tryz.underlying34 hi5 v acc.length _ rfl HW3.out rfl ?_)
                go_roundw
                case rel => exact ⟨_, rfl, HT3.out, .inr ⟨HB3.out, rfl⟩⟩
                case measure => rw [rdM_good HR.out, rdM_bad HB3.out]; omega
              | some p =>
                obtain ⟨r, l'⟩ := p
                obtain ⟨j, hRj, hj, g, cs, rfl, hg, hgb, hcs⟩ := hret
                have HRJ := Lib.hid hRj
                have HJ := Lib.hid hj
                have HGB := Lib.hid hgb
                have HCS := Lib.hid hcs
                have hrl := Lib.runeCells_le (r : Int)
                rw [Lib.runeCells_length] at hrl
                obtain ⟨m, hm⟩ : ∃ m, (Lib.encodeRune (r : Int)).length = m := ⟨_, rfl⟩
                rw [hm] at hrl
                obtain ⟨hm1, hm4⟩ := hrl
                have HMM := Lib.hid hm
                have hx := HX.out
                rw [HD.out, textL_esc rfl (by rw [← HD.out]; exact HOE.out), Option.map_map] at hx
                have HX2 := Lib.hid hx
                have hel := escL_len HOE.out
                rw [← hj, List.length_drop, List.length_drop] at hel
                have hjs := hRj.le
                have hjk : k + 1 ≤ j := by rw [← Lib.size_eq] at hel; omega
                have hlen : (Lib.byteCells (Lib.encodeRune (r : Int))).length = m * 1 := by rw [Lib.byteCells_length, hm, Nat.mul_one]
                have HNW := Lib.hid (fun jj u (h : (Lib.byteCells (Lib.encodeRune (r : Int)))[jj]? = some u) => World.news_of_block HGB.out jj u (by rw [HCS.out]; exact h))
                have hone : ∀ u ∈ Lib.byteCells (Lib.encodeRune (r : Int)), u.oneCell' = true := fun u hu => by
                  simp only [Lib.byteCells, List.mem_map] at hu
                  obtain ⟨y, _, rfl⟩ := hu
                  rfl
                have HL := Lib.hid hlen
                have HO1 := Lib.hid hone
                rw [hm]
                clear hRj hj hgb hcs hm hx hel hlen hone hT3
                go_wp2_with (at_builtin; refine wpList_append_lies _ rfl _ _ 34 rfl w.heap.size 5 i0 (.int .u8 0) 1 1 Tryz.underlying34 hi5 hz0 hz1 hz2 rfl (by decide) _ _ _ rfl HW3.out ⟨g, 0, none⟩ m m (Lib.byteCells (Lib.encodeRune (r : Int))) rfl HL.out HNW.out HO1.out (by omega) (by unfold maxLen; omega) (by omega) (by have := HT3.out.size; exact this) _ rfl ?_)
                intro g2 cap2 w4 hown4 hgr _ _
                have hT4 : Turns [C.pb] w w4 := HT3.out.grown hgr (fun b hb => .inr (own_row HW3.out (Nat.le_refl _) b hb))
                have hR4 : Rd C w4 j d := ⟨(hgr.block _ (blk_lt HRJ.out.blk) (fun e => by have := (HW3.out.lt C.pb e.symm).1; omega)).trans HRJ.out.blk, HRJ.out.le, HRJ.out.small⟩
                have hown4' : OwnBytes w4 w.heap.size (.slice (some ⟨g2, 0, none⟩) (acc.length + m) cap2) (acc ++ Lib.encodeRune (r : Int)) := by
                  unfold OwnBytes
                  rw [Lib.byteCells_append, List.length_append, HMM.out]
                  exact hown4
                have HT4 := Lib.hid hT4
                have HR4 := Lib.hid hR4
                have HW4 := Lib.hid hown4'
                clear hT4 hR4 hown4 hown4' hgr
                go_wp2_with fail
                go_roundw
                case rel => exact ⟨_, rfl, HT4.out, .inl ⟨j, acc ++ Lib.encodeRune (r : Int), HW4.out, HR4.out, by rw [List.length_append, HMM.out]; omega, by rw [← HX2.out, HJ.out]; congr 1; funext p; simp⟩⟩
                case measure => rw [rdM_good HR.out, rdM_good HR4.out]; omega
            · have h92' : ((c.toNat : Int) == 92) = false := by
                simp only [beq_eq_false_iff_ne, ne_eq]; intro e; exact h92 (UInt8.toNat_inj.1 (by have : (92 : UInt8).toNat = 92 := rfl; omega))
              obtain ⟨sx, hsx⟩ : ∃ x, C.s.extract k C.s.size = x := ⟨_, rfl⟩
              have hsl : sx.data.toList = C.bs.drop k := by rw [← hsx, extract_drop]
              obtain ⟨wd, hwd⟩ : ∃ n, seqW sx.data.toList = n := ⟨_, rfl⟩
              have HSQ := Lib.hid (fun wx => rseq_any sx (by rw [← hsx]; exact Nat.le_trans (extract_size_le _ _ _) (by omega)) hwd wx)
              have hru := seq_rune HD.out h34 h32 h92
              rw [← hsl, hwd, hsl] at hru
              have HRU := Lib.hid hru
              have hki : (k : Int) ≤ C.s.size := by omega
              clear hsl hwd hru
              go_wp2_with fail
              refine HN.out.mono ?_
              rintro e w2 ⟨rfl, hb⟩
              have hR2 := HR.out.below hb
              have HR2 := Lib.hid hR2
              have HT2 := Lib.hid (HT.out.trans (Turns.below hb))
              have HW2 := Lib.hid (own_turns HW.out (Turns.below (S := []) hb) (by simp))
              obtain ⟨d0, d1, _, d3, y1⟩ := hR2.cells
              have hsz2 := hb.size
              clear hb hR2
              go_wp2_with fail
              have s0 : w2.drew.cell? ⟨C.pb, 0, none⟩ = some (.string C.s) ∧ w2.drew.cell? ⟨C.pb, 1, none⟩ = some (.int .i64 k) := ⟨d0, d1⟩
              go_region_held3 (fun x => x.cell? ⟨C.pb, 0, none⟩ = some (.string C.s) ∧ x.cell? ⟨C.pb, 1, none⟩ = some (.int .i64 k))
                (first | (with_reducible exact s0))
                (first
                  | (go_at_call 240
                     refine (HSQ.out _).mono ?_
                     rintro e wq ⟨rfl, cut, rfl⟩))
              have HR3 := Lib.hid (HR2.out.below ((Below.refl w2.heap.size w2).drew))
              have HT3 := Lib.hid (HT2.out.drew)
              have HW3 := Lib.hid (own_turns HW2.out ((Turns.refl [] w2).drew) (by simp))
              obtain ⟨b0, b1⟩ := s0
              have b3 : w2.drew.cell? ⟨C.pb, 3, none⟩ = some (.int .i64 0) := d3
              have y3 : ∀ o, w2.drew.frozen? ⟨C.pb, o, none⟩ = false := y1
              have hsz3 : w2.drew.heap.size = w2.heap.size := rfl
              clear d0 d1 d3 y1 HR2 HT2 HW2
              generalize w2.drew = w3 at *
              by_cases hwz : wd = 0
              · have hwi : (wd : Int) = 0 := by omega
                have hoo : o = none := by rw [← HX.out, HRU.out.1 hwz]; rfl
                subst hoo
                cases cut with
                | true =>
                  go_wp2_with fail
                  refine (fail_good C _ k d HR3.out _ 20 (by decide)).mono ?_
                  rintro e w4 ⟨rfl, hB, hT⟩
                  have HT4 := Lib.hid (HT3.out.trans hT)
                  have HB4 := Lib.hid hB
                  obtain ⟨ii, ee, aa, q1, q2, q3, q4⟩ := hB
                  have e1 : w4.cell? ⟨C.pb, 1, none⟩ = some (.int .i64 ii) := blk_cell q4 1
                  clear hT q4
                  go_wp2_with fail
                  refine (fail_bad C _ d HB4.out ii 10).mono ?_
                  rintro e w5 ⟨rfl, rfl⟩
                  go_wp2_with fail
                  go_ret
                  exact ⟨HT4.out, rfl, HB4.out⟩
                | false =>
                  go_wp2_with fail
                  refine (fail_good C _ k d HR3.out k 10 (by decide)).mono ?_
                  rintro e w4 ⟨rfl, hB, hT⟩
                  have HT4 := Lib.hid (HT3.out.trans hT)
                  have HB4 := Lib.hid hB
                  clear hB hT
                  go_wp2_with fail
                  go_ret
                  exact ⟨HT4.out, rfl, HB4.out⟩
              · have hwi : ((wd : Int) == 0) = false := by simp; omega
                obtain ⟨hx1, hx2, hx3⟩ := HRU.out.2 hwz
                have hx := HX.out
                rw [hx1, Option.map_map, List.drop_drop] at hx
                have HX2 := Lib.hid hx
                rw [List.length_drop, ← Lib.size_eq] at hx2
                clear hx hx1
                obtain ⟨kw, hkw⟩ : ∃ x, k + wd = x := ⟨_, rfl⟩
                have hcast : (k : Int) + wd = (kw : Int) := by omega
                have hkwi : k ≤ kw := by omega
                have hkws : kw ≤ C.s.size := by omega
                obtain ⟨st, hst⟩ : ∃ x, C.s.extract k kw = x := ⟨_, rfl⟩
                have hstl : st.data.toList = (C.bs.drop k).take wd := by rw [← hst, slice_take, show kw - k = wd by omega]
                have HSTL := Lib.hid hstl
                have hwr : IntKind.i64.wrap (kw : Int) = kw := IntWalk.i64_in _ (by omega)
                have hsts : st.size = wd := by rw [Lib.size_eq, hstl, List.length_take, List.length_drop, ← Lib.size_eq]; omega
                have HKW := Lib.hid hkw
                clear hkw hstl
                go_wp2_with fail
                go_still_tail 16, (by kernel_rfl)
                change wpList _ _ _ _ _ w3.drew
                have HR4 := Lib.hid (HR3.out.below ((Below.refl w3.heap.size w3).drew))
                have HT4 := Lib.hid (HT3.out.drew)
                have HW4 := Lib.hid (own_turns HW3.out ((Turns.refl [] w3).drew) (by simp))
                clear b0 b1 b3 y3 HR3 HT3 HW3
                generalize w3.drew = w4 at *
                go_wp2_with (at_builtin; refine Lib.wpList_append_own_string _ rfl _ _ 34 9 rfl w.heap.size 5 i0 Tryz.underlying34 Tryz.underlying9 hi5 hz0 hz1 hz2 _ _ _ rfl HW4.out st rfl (by unfold maxLen; omega) (by omega) (by have := HT4.out.size; exact this) ?_)
                intro v5 w5 hown5 hgr _
                have hT5 : Turns [C.pb] w w5 := HT4.out.grown hgr (fun b hb => .inr (own_row HW4.out (Nat.le_refl _) b hb))
                have hR5 : Rd C w5 k d := ⟨(hgr.block _ (blk_lt HR4.out.blk) (fun e => by have := (HW4.out.lt C.pb e.symm).1; omega)).trans HR4.out.blk, HR4.out.le, HR4.out.small⟩
                have hown5' : OwnBytes w5 w.heap.size v5 (acc ++ (C.bs.drop k).take wd) := by
                  unfold OwnBytes
                  rw [Lib.byteCells_append, List.length_append, ← HSTL.out, ← Lib.size_eq st, hsts]
                  exact hown5
                have HT5 := Lib.hid hT5
                have HR5 := Lib.hid hR5
                have HW5 := Lib.hid hown5'
                obtain ⟨_, f1, _, _, g1⟩ := hR5.cells
                have HST := Lib.hid (hR5.step kw (by omega))
                clear hT5 hR5 hown5 hown5' hgr
                go_wp2_with fail
                go_roundw
                case rel => exact ⟨_, rfl, HT5.out.trans (turns_set _ _ _ _), .inl ⟨kw, acc ++ (C.bs.drop k).take wd, own_turns HW5.out (turns_set _ _ _ _) (by simpa using hpb), HST.out, by rw [List.length_append, List.length_take]; have := HKW.out; omega, by rw [← HX2.out, HKW.out]; congr 1; funext p; simp⟩⟩
                case measure => rw [rdM_good HR.out, rdM_good HST.out]; have := HKW.out; omega
    · have HB := Lib.hid hB
      have HT := Lib.hid hT
      obtain ⟨ii, ee, aa, q1, q2, q3, q4⟩ := HB.out
      have c3 : wr.cell? ⟨C.pb, 3, none⟩ = some (.int .i64 ee) := blk_cell q4 3
      have hee : (ee == 0) = false := by simpa using q1
      clear hB hT q4 q1
      go_wp2_with fail
      go_ret
      exact ⟨HT.out, rfl, HB.out⟩

end Toc
