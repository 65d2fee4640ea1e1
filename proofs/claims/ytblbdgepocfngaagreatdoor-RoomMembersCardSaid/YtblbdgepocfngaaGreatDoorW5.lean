/-
  Text: Rows of bytes of the call's own, and a text's plain law.
  Text2: The walk of jsonval's parser over a text.
  Row: The walk of jsonval's parser over a row: what stands between brackets, one by one.
  Item: The closure that reads a list's item.
-/
import Derived.Test.YtblbdgepocfngaaGreatDoorW4
import Derived.Laws.AppendOwn
import Derived.Lib.UnsafeStr
import Derived.Laws.BytesArg
import Derived.Shelf.Unicode.DecodeLastEight
import Derived.Deep.AppendLies
import Derived.Deep.RegionLaw
namespace Toc
open Go Go.RowKit Go.Proofs

/-! ### rows of the call's own -/
theorem Only.grown {S : List Nat} {a w w' : World} {row : Option Nat} (h : Only S a w) (hg : w.grownBy w' row) (hr : ∀ k, row = some k → a.heap.size ≤ k) : Only S a w' :=
  ⟨hg.os.trans h.os, hg.tape.trans h.tape, hg.output.trans h.output, Nat.le_trans h.size hg.size, fun k hk hn => (hg.block k (Nat.lt_of_lt_of_le hk h.size) (fun e => by have := hr k e.symm; omega)).trans (h.block k hk hn), fun b c T fr hb => by
    obtain ⟨c1, h1, h2⟩ := h.deep b c T fr hb
    have hlt := heap_lt hb
    exact ⟨c1, (hg.block b (heap_lt h1) (fun e => by have := hr b e.symm; omega)).trans h1, h2⟩⟩
theorem own_only {S : List Nat} {w w' : World} {base : Nat} {e : TypeId} {size : Nat} {v : Value} {n : Nat} {xs : List Value} (h : w.ownsRow base e size v n xs) (ho : Only S w w') (hS : ∀ b ∈ S, b < base) : w'.ownsRow base e size v n xs := by
  refine ⟨h.1, ?_⟩
  rcases h.2 with h1 | ⟨g, cap, cur, h1, h2, h3, h4⟩
  · exact .inl h1
  · exact .inr ⟨g, cap, cur, h1, h2, ho.heap h3 (fun hm => by have := hS g hm; omega), h4⟩
theorem own_set {w : World} {base : Nat} {e : TypeId} {size : Nat} {v : Value} {n : Nat} {xs : List Value} (h : w.ownsRow base e size v n xs) {p : Addr} (hp : p.block < base) (u : Value) : (w.setCell p u).ownsRow base e size v n xs := by
  refine ⟨h.1, ?_⟩
  rcases h.2 with h1 | ⟨g, cap, cur, h1, h2, h3, h4⟩
  · exact .inl h1
  · exact .inr ⟨g, cap, cur, h1, h2, (Below.heap_setCell _ _ _ _ (by omega)).trans h3, h4⟩
theorem own_row {w : World} {base : Nat} {e : TypeId} {size : Nat} {v : Value} {n : Nat} {xs : List Value} (h : w.ownsRow base e size v n xs) {B : Nat} (hB : B ≤ base) : ∀ k, v.ownBlock = some k → B ≤ k := fun k hk => Nat.le_trans hB (h.lt k hk).1

abbrev OwnBytes (w : World) (base : Nat) (v : Value) (acc : Bytes) : Prop := w.ownsRow base 5 1 v acc.length (Lib.byteCells acc)

theorem OwnBytes.conv {w : World} {base : Nat} {v : Value} {acc : Bytes} (h : OwnBytes w base v acc) : (convert 34 9 v).run Tryz.prog w = .ok (.string (mkS acc)) w := by
  rcases h.2 with ⟨rfl, h0⟩ | ⟨g, cap, cur, rfl, h2, h3, h4, h5, h6, h7⟩
  · have : acc = [] := List.length_eq_zero_iff.1 h0
    subst this
    exact run_convert_bytes_nil w 34 5 Tryz.underlying34 Tryz.underlying5 0 0 9 Tryz.underlying9
  · have hb : Lib.Bytes w g 0 (mkS acc) := by
      intro k hk
      rw [size_mkS] at hk
      rw [blk_cell h3, Nat.zero_add]
      have e1 : cur[k]? = (cur.toList.take (acc.length * 1))[k]? := by
        rw [List.getElem?_take_of_lt (by omega), Array.getElem?_toList]
      rw [e1, h7]
      simp only [Lib.byteCells, List.getElem?_map]
      rw [List.getElem?_eq_getElem hk, Option.map_some, getElem_mkS acc k (by rw [size_mkS]; exact hk)]
    have h8 := Lib.run_convert_whole (P := Tryz.prog) w 34 5 9 Tryz.underlying34 Tryz.underlying5 Tryz.underlying9 g 0 (mkS acc) hb cap
    rw [size_mkS] at h8
    exact h8

theorem window_from {bb off n cap j : Nat} (hj : j < n) (hn : n ≤ cap) (W : World) :
    (Instr.slice 34 (.slice (some ⟨bb, off, none⟩) n cap) (some (.int .i64 (j : Int))) none none).run Tryz.prog W = .ok (.slice (some ⟨bb, off + j, none⟩) (n - j) (cap - j)) W := by
  have ht : Tryz.prog.underlying 34 = some (.slice (Tryz.prog.elem 34)) := by simp [Program.elem, Tryz.underlying34]
  have he : Tryz.prog.elem 34 = 5 := by simp [Program.elem, Tryz.underlying34]
  rw [run_slice_l W 34 _ _ _ ht .i64 _ (by omega) (by omega), he, Tryz.sizeOf5]
  have hne : ¬ cap = j := by omega
  by_cases h0 : j = 0
  · subst h0
    simp [Result.andThen, sliced, Addr.add, hne]
  · simp [Result.andThen, sliced, Addr.add, hne, h0]
theorem window_to {bb off n cap k : Nat} (h0 : 0 < k) (hk : k ≤ cap) (W : World) :
    (Instr.slice 34 (.slice (some ⟨bb, off, none⟩) n cap) none (some (.int .i64 (k : Int))) none).run Tryz.prog W = .ok (.slice (some ⟨bb, off, none⟩) k cap) W := by
  have ht : Tryz.prog.underlying 34 = some (.slice (Tryz.prog.elem 34)) := by simp [Program.elem, Tryz.underlying34]
  have he : Tryz.prog.elem 34 = 5 := by simp [Program.elem, Tryz.underlying34]
  rw [run_slice_h W 34 _ _ _ ht .i64 _ (by omega) (by omega), he, Tryz.sizeOf5]
  have hne : ¬ cap = 0 := by omega
  simp [Result.andThen, sliced, Addr.add, hne]

/-! ### a text -/
theorem headRune_pos (l : Bytes) : 1 ≤ (headRune l).2 := by
  unfold headRune Lib.decodeN
  repeat' split
  all_goals simp
theorem headRune_le (l : Bytes) (h : l ≠ []) : (headRune l).2 ≤ l.length := by
  have h0 : 1 ≤ l.length := List.length_pos_iff.2 h
  unfold headRune Lib.decodeN
  repeat' split
  all_goals (simp; try omega)
theorem escU_len {l : Bytes} {r : Nat} {t : Bytes} (h : escU l = some (r, t)) : t.length + 6 ≤ l.length ∧ (t = l.drop 6 ∨ t = l.drop 12) := by
  unfold escU at h
  split at h
  · cases h
  · rename_i hi hu
    have h6 := unitL_len hu
    split at h
    · split at h
      · cases h
      · rename_i lo hl
        have h7 := unitL_len hl
        split at h
        · obtain ⟨_, rfl⟩ := Prod.mk.inj (Option.some.inj h)
          rw [List.length_drop] at h7 ⊢
          exact ⟨by omega, .inr rfl⟩
        · cases h
    · split at h
      · cases h
      · obtain ⟨_, rfl⟩ := Prod.mk.inj (Option.some.inj h)
        rw [List.length_drop]
        exact ⟨by omega, .inl rfl⟩
theorem escL_len {l : Bytes} {r : Nat} {t : Bytes} (h : escL l = some (r, t)) : t.length + 2 ≤ l.length := by
  unfold escL at h
  split at h
  · rename_i a x m
    split at h
    · obtain ⟨_, rfl⟩ := Prod.mk.inj (Option.some.inj h)
      simp
    · have := (escU_len h).1; omega
  · cases h

theorem textF_nil (f : Nat) : textF f [] = none := by cases f <;> rfl
theorem textF_fuel : ∀ (f g : Nat) (l : Bytes), l.length ≤ f → l.length ≤ g → textF f l = textF g l
  | f, g, [], _, _ => by rw [textF_nil, textF_nil]
  | 0, g, c :: l, h, _ => by simp at h
  | f + 1, 0, c :: l, _, h => by simp at h
  | f + 1, g + 1, c :: l, hf, hg => by
    simp only [List.length_cons] at hf hg
    rw [textF, textF]
    split
    · rfl
    · split
      · rfl
      · split
        · split
          · rfl
          · rename_i r l' he
            have := escL_len he
            simp only [List.length_cons] at this
            rw [textF_fuel f g l' (by omega) (by omega)]
        · split
          · rfl
          · have hp := headRune_pos (c :: l)
            rw [textF_fuel f g _ (by rw [List.length_drop, List.length_cons]; omega) (by rw [List.length_drop, List.length_cons]; omega)]

theorem textL_nil : textL [] = none := rfl
theorem textL_quote {c : UInt8} {l : Bytes} (h : c = 34) : textL (c :: l) = some ([], l) := by subst h; rfl
theorem textL_low {c : UInt8} {l : Bytes} (h : c < 32) : textL (c :: l) = none := by
  have h1 : (c == 34) = false := by rw [beq_eq_false_iff_ne]; intro e; subst e; exact absurd h (by decide)
  unfold textL; rw [List.length_cons, textF]; simp [h1, h]
theorem textL_esc {c : UInt8} {l : Bytes} (h : c = 92) {r : Nat} {t : Bytes} (he : escL (c :: l) = some (r, t)) : textL (c :: l) = (textL t).map fun p => (Lib.encodeRune r ++ p.1, p.2) := by
  subst h
  have hl := escL_len he
  simp only [List.length_cons] at hl
  unfold textL
  rw [List.length_cons, textF]
  simp only [he]
  rw [textF_fuel l.length t.length t (by omega) (by omega)]
  rfl
theorem textL_noesc {c : UInt8} {l : Bytes} (h : c = 92) (he : escL (c :: l) = none) : textL (c :: l) = none := by
  subst h
  unfold textL
  rw [List.length_cons, textF]
  simp only [he]
  rfl
theorem textL_bad {c : UInt8} {l : Bytes} (h1 : c ≠ 34) (h3 : c ≠ 92) (hh : headRune (c :: l) = (65533, 1)) : textL (c :: l) = none := by
  unfold textL
  rw [List.length_cons, textF]
  simp [h1, h3, hh]
theorem textL_rune {c : UInt8} {l : Bytes} (h1 : c ≠ 34) (h2 : ¬ c < 32) (h3 : c ≠ 92) {r wd : Nat} (hh : headRune (c :: l) = (r, wd)) (hb : r ≠ 65533 ∨ wd ≠ 1) : textL (c :: l) = (textL ((c :: l).drop wd)).map fun p => ((c :: l).take wd ++ p.1, p.2) := by
  have hp := headRune_pos (c :: l)
  rw [hh] at hp
  have hb' : (r == 65533 && wd == 1) = false := by
    rw [Bool.and_eq_false_iff, beq_eq_false_iff_ne, beq_eq_false_iff_ne]; exact hb
  unfold textL
  rw [List.length_cons, textF, hh]
  dsimp only
  rw [hb']
  simp only [beq_iff_eq, h1, h2, h3, if_false, Bool.false_eq_true]
  rw [textF_fuel l.length ((c :: l).drop wd).length _ (by rw [List.length_drop, List.length_cons]; omega) (Nat.le_refl _)]

end Toc

namespace Toc
open Go Go.RowKit Go.Proofs

theorem getD_mkS (l : Bytes) (j : Nat) : (mkS l).get! j = l.getD j 0 := by
  rcases Nat.lt_or_ge j l.length with h | h
  · rw [Utf8W.get!_of_lt (mkS l) j (by rw [size_mkS]; exact h), getElem_mkS l j (by rw [size_mkS]; exact h)]
    simp [List.getD, h]
  · have : (mkS l).get! j = default := by
      show (mkS l).data[j]! = default
      rw [getElem!_neg]
      simpa [mkS] using h
    rw [this]
    simp [List.getD, h]
    rfl
theorem decodeGo_mkS {l : Bytes} (h : l ≠ []) : Lib.decodeGo (mkS l) = headRune l := by
  have h0 : ¬ (mkS l).size = 0 := by rw [size_mkS]; exact fun e => h (List.length_eq_zero_iff.1 e)
  unfold Lib.decodeGo
  rw [if_neg h0, Lib.decode_at, size_mkS, getD_mkS, getD_mkS, getD_mkS, getD_mkS]
  rfl

theorem Stands.more {C : PC} {w w1 w2 : World} {k d : Nat} (s : Stands C w w1 k d) (h : Only [] w1 w2) : Stands C w w2 k d :=
  ⟨h.heap s.at_ (by simp), s.only.trans (h.mono (by simp)), s.pos⟩
theorem Stands.grown {C : PC} {w w1 w2 : World} {k d : Nat} (s : Stands C w w1 k d) (hpb : C.pb < w.heap.size) {row : Option Nat} (hg : w1.grownBy w2 row) (hr : ∀ k, row = some k → w.heap.size ≤ k) : Stands C w w2 k d :=
  ⟨(hg.block _ (blk_lt s.at_) (fun e => by have := hr _ e.symm; omega)).trans s.at_, s.only.grown hg hr, s.pos⟩

theorem escapedL_lt {c : UInt8} {n : Nat} (h : escapedL c = some n) : n < 256 := by
  unfold escapedL at h
  have := c.toNat_lt
  repeat' split at h
  all_goals first | (cases h; omega) | (cases h; done) | (have := Option.some.inj h; omega)
theorem escL_lt {l : Bytes} {r : Nat} {t : Bytes} (h : escL l = some (r, t)) : r < 1114112 := by
  unfold escL at h
  split at h
  · split at h
    · rename_i n he
      obtain ⟨rfl, _⟩ := Prod.mk.inj (Option.some.inj h)
      have := escapedL_lt he; omega
    · unfold escU at h
      split at h
      · cases h
      · rename_i hi hu
        have := unitG_lt _ _ hu
        split at h
        · split at h
          · cases h
          · split at h
            · obtain ⟨rfl, _⟩ := Prod.mk.inj (Option.some.inj h)
              omega
            · cases h
        · split at h
          · cases h
          · obtain ⟨rfl, _⟩ := Prod.mk.inj (Option.some.inj h)
            omega
  · cases h

def TextRes (C : PC) (w : World) (d : Nat) (o : Option (Bytes × Bytes)) (e : Ending) (w' : World) : Prop :=
  match o with
  | some p => ∃ j, e = .returned (.string (mkS p.1)) ∧ Stands C w w' j d ∧ C.bs.drop j = p.2
  | none => Fails C w e w'

theorem TextRes.fails {C : PC} {w w1 : World} {d : Nat} {e : Ending} {w' : World} {o : Option (Bytes × Bytes)} (ho : o = none) (h : Only [C.pb] w w1) (k : Fails C w1 e w') : TextRes C w d o e w' := by
  subst ho; exact Fails.before h k

theorem u8_lt {c : UInt8} {n : Nat} (hn : n < 256) : (c < UInt8.ofNat n) ↔ (c.toNat : Int) < n := by
  rw [UInt8.lt_iff_toNat_lt, UInt8.toNat_ofNat', Nat.mod_eq_of_lt (by simpa using hn)]; omega

set_option maxRecDepth 100000 in
set_option maxHeartbeats 4000000 in
theorem text_any (C : PC) (w : World) (i d : Nat) (hp : PW C w i d) (hi : i < C.bs.length) {o : Option (Bytes × Bytes)} (ho : textL (C.bs.drop (i + 1)) = o) :
    Calls Tryz.prog 135 #[ptrV C.pb] w fun e w' => TextRes C w d o e w' := by
  have hsm := hp.small
  have hroom := hp.room
  have hpb := blk_lt hp.at_
  obtain ⟨c0, c1, c2, z1, z2⟩ := hp.cells
  have HP := Lib.hid hp
  have HO := Lib.hid ho
  have HST0 := Lib.hid ((Stands.refl hp).step0 (i + 1) (by omega))
  clear hp ho
  obtain ⟨i0, hi5, hz0, hz1, hz2⟩ := info_parts (show (Tryz.prog.info? 5).map (fun i => (i.zero, i.size, i.bytes)) = some (some (.int .u8 0), 1, 1) by kernel_rfl)
  go_enter Tryz.func135, Tryz.ntmps135
  go_wp2
  clear c0 c1 c2 z1 z2
  go_loopw [3] (fun v wr => ∃ (t : Value) (k : Nat) (acc : Bytes), t = v ∧ OwnBytes wr w.heap.size t acc ∧ Stands C w wr k d ∧ acc.length ≤ 4 * k ∧ (textL (C.bs.drop k)).map (fun p => (acc ++ p.1, p.2)) = o) (fun _ wr => C.bs.length - atOf C wr)
  case atStart =>
    refine ⟨_, i + 1, [], rfl, World.ownsRow_nil _ _ _ _, HST0.out, by simp, ?_⟩
    rw [HO.out]; cases o <;> simp
  case round =>
    obtain ⟨t, k, acc, rfl, hown, hst, hacc, htx⟩ := hrel
    have HW := Lib.hid hown
    have HS := Lib.hid hst
    have HT := Lib.hid htx
    obtain ⟨c0, c1, c2, z1, z2⟩ := (hst.pw HP.out).cells
    have hpos := hst.pos
    clear hst hown htx
    by_cases hlt : k < C.bs.length
    · have hcell := (HS.out.pw HP.out).bytes.cell k hlt
      have hdk := List.drop_eq_getElem_cons hlt
      generalize C.bs[k]'hlt = c at hcell hdk
      have HD := Lib.hid hdk
      clear hdk
      have i0' : (0 : Int) ≤ k := by omega
      have i1 : (k : Int) < C.bs.length := by omega
      by_cases h34 : c = 34
      · subst h34
        have hcv : ∀ q x, (convert 34 9 t).run Tryz.prog ((wr.drewN q).setCell ⟨C.pb, 1, none⟩ x) = .ok (.string (mkS acc)) ((wr.drewN q).setCell ⟨C.pb, 1, none⟩ x) := fun q x =>
          OwnBytes.conv (base := w.heap.size) (own_only HW.out (((Only.refl [C.pb] wr).drewN q).setCell (by simp) x) (by simpa using hpb))
        go_wp2_with fail
        go_quiet (fail)
        go_wp2_with fail
        go_quiet (fail)
        go_wp2_with fail
        go_ret
        have hx := HT.out
        rw [HD.out, textL_quote rfl] at hx
        subst hx
        exact ⟨k + 1, by simp, HS.out.step _ (k + 1) (by omega), by rfl⟩
      · have h34' : ((c.toNat : Int) == 34) = false := by rw [Bool.eq_false_iff]; exact fun hh => h34 ((u8_eq c 34 (by omega)).1 hh)
        by_cases h32 : c < 32
        · have h32' : (c.toNat : Int) < 32 := (u8_lt (c := c) (n := 32) (by omega)).1 h32
          go_wp2_with fail
          go_quiet (fail)
          go_wp2_with fail
          go_quiet (fail)
          go_wp2_with fail
          refine (wrong_any C _ _ _ _).mono ?_
          rintro e w2 ⟨f, p, q, b, h1, rfl, h3, h4, h5⟩
          have hx := HT.out
          rw [HD.out, textL_low h32] at hx
          go_wp2
          exact ⟨rfl, TextRes.fails hx.symm (HS.out.drewN _).only ⟨f, p, q, b, h1, rfl, h3, h4, h5⟩⟩
        · have h32' : (32 : Int) ≤ (c.toNat : Int) := by
            have := mt (u8_lt (c := c) (n := 32) (by omega)).2 h32; simpa using this
          by_cases h92 : c = 92
          · subst h92
            cases he : escL (C.bs.drop k) with
            | none =>
              go_wp2_with fail
              go_quiet (fail)
              go_wp2_with fail
              go_quiet (fail)
              go_wp2_with fail
              refine (escape_no C _ k d ((HS.out.drewN _).pw HP.out) HD.out (by rw [← HD.out]; exact he)).mono ?_
              rintro e w2 ⟨f, p, q, b, h1, rfl, h3, h4, h5⟩
              have hx := HT.out
              rw [HD.out, textL_noesc rfl (by rw [← HD.out]; exact he)] at hx
              go_wp2
              exact ⟨rfl, TextRes.fails hx.symm (HS.out.drewN _).only ⟨f, p, q, b, h1, rfl, h3, h4, h5⟩⟩
            | some p =>
              obtain ⟨r, l'⟩ := p
              have HE := Lib.hid he
              clear he
              go_wp2_with fail
              go_quiet (fail)
              go_wp2_with fail
              go_quiet (fail)
              go_wp2_with fail
              refine (escape_ok C _ k d ((HS.out.drewN _).pw HP.out) HD.out (by rw [← HD.out]; exact HE.out)).mono ?_
              rintro e w2 ⟨j, rfl, hst2, hj⟩
              have HST2 := Lib.hid hst2
              have HJ := Lib.hid hj
              clear hst2 hj
              go_wp2_with fail
              have hown2 : OwnBytes w2 w.heap.size t acc := own_only (own_only HW.out ((Only.refl [C.pb] wr).drewN _) (by simpa using hpb)) HST2.out.only (by simpa using hpb)
              have hr := escL_lt HE.out
              have hz : (r : Int) ≤ 2147483647 := by omega
              refine (Tryz.utf8_AppendRune_plain w.heap.size t acc.length (Lib.byteCells acc) r (by omega) hz w2 hown2 (by omega) (Nat.le_trans HS.out.only.size HST2.out.only.size)).mono ?_
              rintro e w3 ⟨t', rfl, hown3, ob, hgr⟩
              have hown3' : OwnBytes w3 w.heap.size t' (acc ++ Lib.encodeRune r) := by
                have hl := Lib.runeCells_length (r : Int)
                unfold OwnBytes
                rw [Lib.byteCells_append, Lib.byteCells_encodeRune, List.length_append, ← hl]
                exact hown3
              have hlen := (Lib.runeCells_le (r : Int)).2
              rw [Lib.runeCells_length] at hlen
              have hst3 : Stands C w w3 j d := ((((HS.out.drewN _).trans HST2.out).more ((Only.refl [] w2).alloc ob)).grown hpb hgr (own_row hown2 (Nat.le_refl _)))
              have hel := escL_len HE.out
              rw [← HJ.out, List.length_drop, List.length_drop] at hel
              have hx := HT.out
              rw [HD.out, textL_esc rfl (by rw [← HD.out]; exact HE.out), Option.map_map] at hx
              have HW3 := Lib.hid hown3'
              have HST3 := Lib.hid hst3
              have HX := Lib.hid hx
              clear hown2 hown3 hown3' hst3 hx hgr hz
              go_wp2_with fail
              go_roundw
              case rel => exact ⟨_, j, acc ++ Lib.encodeRune r, rfl, HW3.out, HST3.out, by rw [List.length_append]; omega, by rw [← HX.out, HJ.out]; congr 1; funext p; simp⟩
              case measure => exact atOf_lt HS.out.at_ HST3.out.at_ (by have := HST3.out.pos; omega) hlt
          · have h92' : ((c.toNat : Int) == 92) = false := by rw [Bool.eq_false_iff]; exact fun hh => h92 ((u8_eq c 92 (by omega)).1 hh)
            obtain ⟨m, hm⟩ : ∃ m, C.bs.length - k = m := ⟨_, rfl⟩
            have hwf := fun W => window_from (bb := C.bb) (off := C.off) (cap := C.cap) hlt hroom W
            rw [hm] at hwf
            have hne : C.bs.drop k ≠ [] := by rw [HD.out]; simp
            have hdec := decodeGo_mkS hne
            obtain ⟨r, wd, hh⟩ : ∃ r wd, headRune (C.bs.drop k) = (r, wd) := ⟨_, _, rfl⟩
            have hwp := headRune_pos (C.bs.drop k)
            have hwl := headRune_le (C.bs.drop k) hne
            rw [List.length_drop, hm] at hwl
            rw [hh] at hdec hwp hwl
            dsimp only at hwp hwl
            have hmm : (mkS (C.bs.drop k)).size = m := by rw [size_mkS, List.length_drop, hm]
            have hdr := fun q => Tryz.utf8_DecodeRune (mkS (C.bs.drop k)) C.bb (C.off + k) (C.cap - k) (wr.drewN q) ((HS.out.drewN q).pw HP.out).glob.u8 (by
              intro j hj
              rw [size_mkS, List.length_drop] at hj
              have h1 := ((HS.out.drewN q).pw HP.out).bytes.cell (k + j) (by omega)
              rw [Nat.add_assoc, h1, getD_mkS]
              simp [List.getD, hj])
            rw [hmm, hdec] at hdr
            have HDR := Lib.hid hdr
            obtain ⟨z, hz⟩ : ∃ z : Int, (r : Int) = z := ⟨_, rfl⟩
            rw [hz] at HDR
            dsimp only at HDR
            have HZ := Lib.hid hz
            have HH := Lib.hid hh
            clear hdr hdec hh hne hmm hz
            go_wp2_with fail
            go_quiet (fail)
            go_wp2_with fail
            go_quiet (fail)
            go_wp2_with fail
            go_quiet (fail)
            go_wp2_with fail
            refine (HDR.out _).mono ?_
            rintro e w2 ⟨rfl, hb2⟩
            have hst2 := (HS.out.drewN _).more (Only.of_below hb2 [])
            have hown2 : OwnBytes w2 w.heap.size t acc := own_only (own_only HW.out ((Only.refl [] wr).drewN _) (by simp)) (Only.of_below hb2 []) (by simp)
            have HST2 := Lib.hid hst2
            have HOW2 := Lib.hid hown2
            clear hst2 hown2 hb2 HDR
            go_wp2_with fail
            refine (fullRune_any C w2 k d m (C.cap - k) (HST2.out.pw HP.out) hlt hm).mono ?_
            rintro e w3 ⟨f, rfl, hb3, hf⟩
            have HF := Lib.hid hf
            have HST3 := Lib.hid (HST2.out.more (Only.of_below hb3 []))
            have HOW3 := Lib.hid (own_only HOW2.out (Only.of_below hb3 []) (by simp))
            obtain ⟨c0, c1, c2, z1, z2⟩ := (HST3.out.pw HP.out).cells
            clear hf hb3 HOW2 HST2
            have bad : headRune (C.bs.drop k) = (65533, 1) → none = o := fun hb => by
              have hx := HT.out
              rw [HD.out] at hb
              rw [HD.out, textL_bad h34 h92 hb] at hx
              exact hx
            have BAD := Lib.hid bad
            clear bad
            cases f with
            | false =>
              go_wp2_with fail
              refine (wrong_any C _ _ _ _).mono ?_
              rintro e w4 ⟨f, p, q, b, h1, rfl, h3, h4, h5⟩
              go_wp2
              exact ⟨rfl, TextRes.fails (BAD.out (HF.out trivial)).symm HST3.out.only ⟨f, p, q, b, h1, rfl, h3, h4, h5⟩⟩
            | true =>
              rcases (show (((z == 65533) = true ∧ ((wd : Int) == 1) = true)) ∨ ((z == 65533) = false ∨ ((z == 65533) = true ∧ ((wd : Int) == 1) = false)) by
                cases z == 65533 <;> cases (wd : Int) == 1 <;> simp) with ⟨hz1', hw1'⟩ | hgood
              · go_wp2_with fail
                refine (wrong_any C _ _ _ _).mono ?_
                rintro e w4 ⟨f, p, q, b, h1, rfl, h3, h4, h5⟩
                have hb : headRune (C.bs.drop k) = (65533, 1) := by
                  rw [HH.out]
                  have e1 : z = 65533 := by simpa using hz1'
                  have e2 : wd = 1 := by have : (wd : Int) = 1 := by simpa using hw1'
                                         omega
                  have e3 := HZ.out
                  rw [e1] at e3
                  have e4 : r = 65533 := by omega
                  rw [e4, e2]
                go_wp2
                exact ⟨rfl, TextRes.fails (BAD.out hb).symm HST3.out.only ⟨f, p, q, b, h1, rfl, h3, h4, h5⟩⟩
              · have hgd : r ≠ 65533 ∨ wd ≠ 1 := by
                  have e3 := HZ.out
                  rcases hgood with h | ⟨_, h⟩
                  · left; intro e; subst e; rw [← e3] at h; exact absurd h (by decide)
                  · right; intro e; subst e; exact absurd h (by decide)
                have hx := HT.out
                rw [HD.out, textL_rune h34 h32 h92 (by rw [← HD.out]; exact HH.out) hgd, ← HD.out, Option.map_map, List.drop_drop] at hx
                have HX := Lib.hid hx
                have hwt := fun W => window_to (bb := C.bb) (off := C.off + k) (n := m) (cap := C.cap - k) (k := wd) (by omega) (by omega) W
                have w0 : (0 : Int) < wd := by omega
                have hnews : ∀ j u, (Lib.byteCells ((C.bs.drop k).take wd))[j]? = some u → w3.cell? ((⟨C.bb, C.off + k, none⟩ : Addr).add j) = some u := fun j u hj => by
                  simp only [Lib.byteCells, List.getElem?_map, Option.map_eq_some_iff] at hj
                  obtain ⟨y, hy, rfl⟩ := hj
                  have hjl := (List.getElem?_eq_some_iff.1 hy).1
                  rw [List.length_take] at hjl
                  rw [List.getElem?_take_of_lt (by omega), List.getElem?_drop] at hy
                  obtain ⟨hl2, hy⟩ := List.getElem?_eq_some_iff.1 hy
                  have h1 := (HST3.out.pw HP.out).bytes.cell (k + j) hl2
                  rw [hy, ← Nat.add_assoc] at h1
                  have ha : ((⟨C.bb, C.off + k, none⟩ : Addr).add j) = ⟨C.bb, C.off + k + j, none⟩ := by
                    unfold Addr.add
                    split
                    · rename_i h0; subst h0; rfl
                    · rfl
                  rw [ha]; exact h1
                have hlen : (Lib.byteCells ((C.bs.drop k).take wd)).length = wd * 1 := by
                  rw [Lib.byteCells_length, List.length_take, List.length_drop]; omega
                have hone : ∀ u ∈ Lib.byteCells ((C.bs.drop k).take wd), u.oneCell' = true := fun u hu => by
                  simp only [Lib.byteCells, List.mem_map] at hu
                  obtain ⟨y, _, rfl⟩ := hu
                  rfl
                have hwd4 : wd ≤ 4096 := by omega
                have HN := Lib.hid hnews
                have HL := Lib.hid hlen
                have HO1 := Lib.hid hone
                clear hx hnews hlen hone hgd
                rcases hgood with hgood | ⟨hgood, hgood'⟩
                all_goals
                  go_wp2_with (at_builtin; refine wpList_append_own _ rfl _ _ 34 rfl w.heap.size 5 i0 (.int .u8 0) 1 1 Tryz.underlying34 hi5 hz0 hz1 hz2 rfl (by decide) _ _ _ rfl HOW3.out ⟨C.bb, C.off + k, none⟩ wd (C.cap - k) (Lib.byteCells ((C.bs.drop k).take wd)) rfl HL.out HN.out HO1.out ?c3 ?c4 ?c5 ?_)
                  case c3 => unfold maxLen; omega
                  case c4 => omega
                  case c5 => exact HST3.out.only.size
                  intro t' w4 hown4 hgr _
                  have hst4 := HST3.out.grown hpb hgr (own_row HOW3.out (Nat.le_refl _))
                  obtain ⟨c0, c1, c2, z1, z2⟩ := (hst4.pw HP.out).cells
                  have HST4 := Lib.hid hst4
                  have hown4' : OwnBytes w4 w.heap.size t' (acc ++ (C.bs.drop k).take wd) := by
                    have hl : ((C.bs.drop k).take wd).length = wd := by rw [List.length_take, List.length_drop]; omega
                    unfold OwnBytes
                    rw [Lib.byteCells_append, List.length_append, hl]
                    exact hown4
                  have HOW4 := Lib.hid hown4'
                  clear hst4 hown4 hown4' hgr
                  go_wp2_with fail
                  go_roundw
                  case rel => exact ⟨_, k + wd, acc ++ (C.bs.drop k).take wd, rfl, own_only HOW4.out ((Only.refl [C.pb] w4).setCell (by simp) _) (by simpa using hpb), HST4.out.step0 (k + wd) (by omega), by rw [List.length_append, List.length_take]; omega, by rw [← HX.out]; congr 1; funext p; simp⟩
                  case measure => exact atOf_lt HS.out.at_ (HST4.out.step0 (k + wd) (by omega)).at_ (by omega) hlt
    · have i1 : (C.bs.length : Int) ≤ k := by omega
      go_wp2_with fail
      go_quiet (fail)
      go_wp2_with fail
      refine (wrong_any C _ _ _ _).mono ?_
      rintro e w2 ⟨f, p, q, b, h1, rfl, h3, h4, h5⟩
      have hx := HT.out
      rw [List.drop_eq_nil_of_le (by omega), textL_nil] at hx
      go_wp2
      exact ⟨rfl, TextRes.fails hx.symm (HS.out.drewN _).only ⟨f, p, q, b, h1, rfl, h3, h4, h5⟩⟩

end Toc

namespace Toc
open Go Go.RowKit Go.Proofs

theorem dropWhile_head {p : UInt8 → Bool} : ∀ {l : Bytes} {c : UInt8} {t : Bytes}, l.dropWhile p = c :: t → p c = false
  | [], _, _, h => by cases h
  | x :: xs, c, t, h => by
    rw [List.dropWhile_cons] at h
    split at h
    · exact dropWhile_head h
    · rename_i hx; cases h; simpa using hx
theorem mustL_idem {l r : Bytes} (h : mustL l = some r) : mustL r = some r := by
  obtain ⟨c, t, rfl, hs⟩ := mustL_some h
  unfold mustL
  have h1 : isWsB c = false := dropWhile_head hs
  have : skipWs (c :: t) = c :: t := by unfold skipWs; rw [List.dropWhile_cons, h1]; rfl
  rw [this]

/-- What one round, or the whole row, leaves. -/
def RowRes {σ : Type} (C : PC) (w0 : World) (d : Nat) (Inv : σ → World → Prop) (o : Option (σ × Bytes)) (e : Ending) (w' : World) : Prop :=
  match o with
  | some p => ∃ j, e = .returned (.tuple #[]) ∧ Stands C w0 w' j d ∧ C.bs.drop j = p.2 ∧ Inv p.1 w'
  | none => Fails C w0 e w'

theorem Stands.pw' {C : PC} {w0 w : World} {i0 d0 i d : Nat} (s : Stands C w0 w i d) (h : PW C w0 i0 d0) (hd : d ≤ 10) : PW C w i d := h.only s.only s.at_ s.pos hd

set_option maxRecDepth 100000 in
set_option maxHeartbeats 4000000 in
theorem row_any {σ : Type} (C : PC) (w0 : World) (i0 d0 d : Nat) (hp0 : PW C w0 i0 d0) (hd : d ≤ 10) (one : σ → Bytes → Option (σ × Bytes)) (Inv : Nat → σ → World → Prop)
    (hInv : ∀ k s w w', Inv k s w → Only [C.pb] w w' → Inv k s w') (f : Nat) (capt : Array Value) (hcall : ∀ w, (callFunc f capt).run Tryz.prog w = .ok (.enter f capt) w)
    (hone : ∀ k s w i, k < 64 → Inv k s w → Stands C w0 w i d → i < C.bs.length → Calls Tryz.prog f capt w fun e w' => RowRes C w0 d (Inv (k + 1)) (one s (C.bs.drop i)) e w')
    (close : UInt8) (hc : close ≠ 44) (s : σ) (w : World) (i : Nat) (hi : Inv 0 s w) (hst : Stands C w0 w i d) {o : Option (σ × Bytes)} (ho : rowTop one close s (C.bs.drop i) = o) :
    Calls Tryz.prog 137 #[ptrV C.pb, .int .u8 close.toNat, .func (.func f) #[] capt] w fun e w' => RowRes C w0 d (fun s w => ∃ m, m ≤ 64 ∧ Inv m s w) o e w' := by
  have hsm := hp0.small
  have HP := Lib.hid hp0
  have HI := Lib.hid hi
  have HV := Lib.hid hInv
  have HONE := Lib.hid hone
  have HST := Lib.hid hst
  clear hp0 hi hInv hone hst
  cases hm : mustL (C.bs.drop i) with
  | none =>
    have hon : o = none := by rw [← ho]; unfold rowTop; rw [hm]
    subst hon
    clear ho
    go_enter Tryz.func137, Tryz.ntmps137
    go_wp2_with fail
    refine (must_no C w i d (HST.out.pw' HP.out hd) hm).mono ?_
    rintro e w2 ⟨f, p, q, b, h1, rfl, h3, h4, h5⟩
    go_wp2
    exact ⟨rfl, Fails.before HST.out.only ⟨f, p, q, b, h1, rfl, h3, h4, h5⟩⟩
  | some r =>
    obtain ⟨c, t, rfl, _⟩ := mustL_some hm
    by_cases hcc : c = close
    · subst hcc
      have hon : o = some (s, t) := by rw [← ho]; unfold rowTop; rw [hm]; simp
      subst hon
      have HM := Lib.hid (must_ok C w i d (HST.out.pw' HP.out hd) hm)
      clear ho hm
      go_enter Tryz.func137, Tryz.ntmps137
      go_wp2_with fail
      refine HM.out.mono ?_
      rintro e w2 ⟨j, rfl, hst2, hj⟩
      have hst3 := HST.out.trans hst2
      obtain ⟨c0, c1, c2, z1, z2⟩ := (hst3.pw' HP.out hd).cells
      have hlt := drop_lt hj
      have HST3 := Lib.hid hst3
      have HST2 := Lib.hid hst2
      have HJ := Lib.hid hj
      clear hst2 hst3 hj
      go_wp2_with fail
      refine bodyPost_ret (results_none rfl _ _ _) rfl ?_
      exact ⟨j + 1, rfl, HST3.out.step0 (j + 1) (by omega), drop_next HJ.out, 0, by omega, HV.out _ _ _ _ HI.out (HST2.out.only.setCell (by simp) _)⟩
    · have hcc' : ((c.toNat : Int) == close.toNat) = false := by
        rw [beq_eq_false_iff_ne]; intro e; exact hcc (UInt8.toNat_inj.1 (by omega))
      have hrow : rowL one close 64 s (c :: t) = o := by
        rw [← ho]; unfold rowTop; rw [hm]
        dsimp only
        rw [beq_eq_false_iff_ne.2 hcc, rowL, rowL, mustL_idem hm, hm]
        rfl
      have HM := Lib.hid (must_ok C w i d (HST.out.pw' HP.out hd) hm)
      have HROW := Lib.hid hrow
      clear ho hm hrow
      go_enter Tryz.func137, Tryz.ntmps137
      go_wp2_with fail
      refine HM.out.mono ?_
      rintro e w2 ⟨j, rfl, hst2, hj⟩
      have HST2 := Lib.hid hst2
      have HJ := Lib.hid hj
      clear hst2 hj HM
      go_wp2_with fail
      go_loopw [6] (fun v wr => ∃ (k : Nat) (s : σ) (i : Nat), v = .int .i64 k ∧ k ≤ 64 ∧ Inv k s wr ∧ Stands C w0 wr i d ∧ rowL one close (64 - k) s (C.bs.drop i) = o) (fun v _ => 64 - (RowKit.intOf v).toNat)
      case atStart => exact ⟨0, s, j, rfl, by omega, HV.out _ _ _ _ HI.out HST2.out.only, HST.out.trans HST2.out, by rw [HJ.out]; exact HROW.out⟩
      case round =>
        obtain ⟨k, s, i, rfl, hk, hinv, hst, hrow⟩ := hrel
        have HIN := Lib.hid hinv
        have HSTR := Lib.hid hst
        have HR := Lib.hid hrow
        clear hinv hst hrow
        cases hm : mustL (C.bs.drop i) with
        | none =>
          have hon : o = none := by
            rw [← HR.out]
            cases h64 : 64 - k with
            | zero => rfl
            | succ m => rw [rowL, hm]
          go_wp2_with fail
          refine (must_no C wr i d (HSTR.out.pw' HP.out hd) hm).mono ?_
          rintro e w3 ⟨f, p, q, b, h1, rfl, h3, h4, h5⟩
          subst hon
          go_wp2
          exact ⟨rfl, Fails.before HSTR.out.only ⟨f, p, q, b, h1, rfl, h3, h4, h5⟩⟩
        | some r =>
          obtain ⟨c1, t1, rfl, _⟩ := mustL_some hm
          go_wp2_with fail
          refine (must_ok C wr i d (HSTR.out.pw' HP.out hd) hm).mono ?_
          rintro e w3 ⟨j1, rfl, hst3, hj1⟩
          have HST3 := Lib.hid (HSTR.out.trans hst3)
          have HIN3 := Lib.hid (HV.out _ _ _ _ HIN.out hst3.only)
          have HJ1 := Lib.hid hj1
          obtain ⟨c0, c1', c2, z1, z2⟩ := (HST3.out.pw' HP.out hd).cells
          clear hst3 hj1
          by_cases h64 : k = 64
          · subst h64
            have hon : o = none := by rw [← HR.out]; rfl
            subst hon
            go_wp2_with fail
            refine (wrong_any C _ _ _ _).mono ?_
            rintro e w4 ⟨f, p, q, b, h1, rfl, h3, h4, h5⟩
            go_wp2
            exact ⟨rfl, Fails.before HST3.out.only ⟨f, p, q, b, h1, rfl, h3, h4, h5⟩⟩
          · have h64' : ((k : Int) == 64) = false := by rw [beq_eq_false_iff_ne]; omega
            have hr2 : o = match one s (c1 :: t1) with
                | none => none
                | some (s', l2) => match mustL l2 with
                  | some (c :: l4) => if c == close then some (s', l4) else if c == 44 then rowL one close (64 - (k + 1)) s' l4 else none
                  | _ => none := by
              rw [← HR.out, show 64 - k = (64 - (k + 1)) + 1 by omega, rowL, hm]
              rfl
            have HR2 := Lib.hid hr2
            clear hr2
            go_wp2_with fail
            have h1 := HONE.out k s w3 j1 (by omega) HIN3.out HST3.out (drop_lt HJ1.out)
            rw [HJ1.out] at h1
            cases hone1 : one s (c1 :: t1) with
            | none =>
              rw [hone1] at h1
              have hon := HR2.out
              rw [hone1] at hon
              dsimp only at hon
              subst hon
              refine h1.mono ?_
              rintro e w4 ⟨f, p, q, b, h1, rfl, h3, h4, h5⟩
              go_wp2
              exact ⟨rfl, ⟨f, p, q, b, h1, rfl, h3, h4, h5⟩⟩
            | some r1 =>
              obtain ⟨s', l2⟩ := r1
              rw [hone1] at h1
              have hr3 := HR2.out
              rw [hone1] at hr3
              dsimp only at hr3
              have HR3 := Lib.hid hr3
              clear hr3 hone1
              refine h1.mono ?_
              rintro e w4 ⟨j4, rfl, hst4, hj4, hin4⟩
              dsimp only at hj4 hin4
              have HST4 := Lib.hid hst4
              have HIN4 := Lib.hid hin4
              clear hst4 hin4
              cases hm4 : mustL l2 with
              | none =>
                have hon := HR3.out
                rw [hm4] at hon
                dsimp only at hon
                subst hon
                go_wp2_with fail
                refine (must_no C w4 j4 d (HST4.out.pw' HP.out hd) (by rw [hj4]; exact hm4)).mono ?_
                rintro e w5 ⟨f, p, q, b, h1, rfl, h3, h4, h5⟩
                go_wp2
                exact ⟨rfl, Fails.before HST4.out.only ⟨f, p, q, b, h1, rfl, h3, h4, h5⟩⟩
              | some r4 =>
                obtain ⟨c5, l5, rfl, _⟩ := mustL_some hm4
                have hr5 := HR3.out
                rw [hm4] at hr5
                dsimp only at hr5
                have HR5 := Lib.hid hr5
                have HM4 := Lib.hid (must_ok C w4 j4 d (HST4.out.pw' HP.out hd) (by rw [hj4]; exact hm4))
                clear hr5 hm4
                go_wp2_with fail
                refine HM4.out.mono ?_
                rintro e w5 ⟨j5, rfl, hst5, hj5⟩
                have HST5 := Lib.hid (HST4.out.trans hst5)
                have HIN5 := Lib.hid (HV.out _ _ _ _ HIN4.out hst5.only)
                have HJ5 := Lib.hid hj5
                have hlt5 := drop_lt hj5
                obtain ⟨c0, c1', c2, z1, z2⟩ := (HST5.out.pw' HP.out hd).cells
                clear hst5 hj5 HM4 hj4
                by_cases h5 : c5 = close
                · subst h5
                  have hon := HR5.out
                  rw [if_pos (by simp)] at hon
                  subst hon
                  go_wp2_with fail
                  refine bodyPost_ret (results_none rfl _ _ _) rfl ?_
                  exact ⟨j5 + 1, rfl, HST5.out.step0 (j5 + 1) (by omega), drop_next HJ5.out, k + 1, by omega, HV.out _ _ _ _ HIN5.out ((Only.refl [C.pb] w5).setCell (by simp) _)⟩
                · have h5' : ((c5.toNat : Int) != close.toNat) = true := by
                    rw [bne_iff_ne]; intro e; exact h5 (UInt8.toNat_inj.1 (by omega))
                  have h5'' : ((c5.toNat : Int) == close.toNat) = false := by
                    rw [beq_eq_false_iff_ne]; intro e; exact h5 (UInt8.toNat_inj.1 (by omega))
                  by_cases h44 : c5 = 44
                  · subst h44
                    have hon := HR5.out
                    rw [if_neg (by simpa using h5), if_pos (by rfl)] at hon
                    have HR6 := Lib.hid hon
                    have h44' : ((44 : Int) == close.toNat) = false := by
                      rw [beq_eq_false_iff_ne]; intro e; exact hc (UInt8.toNat_inj.1 (by show close.toNat = 44; omega))
                    clear hon
                    go_wp2_with fail
                    · exact absurd (UInt8.toNat_inj.1 (show close.toNat = 44 by omega)) hc
                    refine ⟨⟨k + 1, s', j5 + 1, by go_num, by omega, HV.out _ _ _ _ HIN5.out ((Only.refl [C.pb] w5).setCell (by simp) _), HST5.out.step0 (j5 + 1) (by omega), by rw [drop_next HJ5.out]; exact HR6.out.symm⟩, ?_⟩
                    simp only [RowKit.intOf]; omega
                  · have h44' : ((c5.toNat : Int) != 44) = true := by
                      rw [bne_iff_ne]; intro e; exact h44 (UInt8.toNat_inj.1 (by show c5.toNat = 44; omega))
                    have hon := HR5.out
                    rw [if_neg (by simpa using h5), if_neg (by simpa using h44)] at hon
                    subst hon
                    go_wp2_with fail
                    refine (wrong_any C _ _ _ _).mono ?_
                    rintro e w6 ⟨f, p, q, b, h1, rfl, h3, h4, h5⟩
                    go_wp2
                    exact ⟨rfl, Fails.before HST5.out.only ⟨f, p, q, b, h1, rfl, h3, h4, h5⟩⟩

end Toc

namespace Toc
open Go Go.RowKit Go.Proofs

def ValOf (C : PC) (w : World) (d : Nat) (o : Option (JV × Bytes)) (e : Ending) (w' : World) : Prop :=
  match o with
  | some p => ValRet C w d p.1 p.2 e w'
  | none => Fails C w e w'

/-- Where a value's parts lie. -/
structure Places (C : PC) (w0 : World) (b1 q b4 base : Nat) : Prop where
  pb : C.pb < w0.heap.size
  h0 : w0.heap.size ≤ q
  h1 : C.pb < b1
  hq : b1 < q
  h4 : q < b4
  hb : b4 < base

structure ListInv (C : PC) (base b1 q b4 : Nat) (k : Nat) (xs : List JV) (w : World) : Prop where
  len : xs.length = k
  size : base ≤ w.heap.size
  box : w.cell? ⟨b1, 0, none⟩ = some (ptrV C.pb)
  ptr : w.cell? ⟨b4, 0, none⟩ = some (ptrV q)
  row : ∃ (sv : Value) (qs : List Nat) (r : Ro), w.heap[q]? = some (vObj 4 false 0 emptyS sv nilS) ∧ w.ownsRow base 29 1 sv k (qs.map ptrV) ∧ qs.length = k ∧ r.from base ∧ Has r w ∧ (∀ g, sv.ownBlock = some g → r g = none) ∧
    ∀ i (h : i < qs.length) (h' : i < xs.length), IsV r (qs[i]'h) (xs[i]'h')

theorem Only.cell {S : List Nat} {w w' : World} (h : Only S w w') {p : Addr} {v : Value} (hc : w.cell? p = some v) (hn : p.block ∉ S) : w'.cell? p = some v := by
  have hlt : p.block < w.heap.size := by
    rcases Nat.lt_or_ge p.block w.heap.size with h1 | h1
    · exact h1
    · unfold World.cell? at hc
      rw [Array.getElem?_eq_none h1] at hc
      cases hc
  rw [World.cell?_of_block (h.block _ hlt hn), hc]

theorem after_append {w1 w2 : World} {o x : Obj} {q base : Nat} {sv : Value} {e : TypeId} {n : Nat} {xs : List Value} (hq : w1.heap[q]? = some x) (hb : q < base) (hown : w1.ownsRow base e 1 sv n xs) (hgr : (w1.alloc o).grownBy w2 sv.ownBlock) : w2.heap[q]? = some x := by
  refine (hgr.block q ?_ ?_).trans (blk_old hq o)
  · have := blk_lt hq; simp; omega
  · intro e; have := (hown.lt q e.symm).1; omega

theorem Stands.setNew {C : PC} {w0 w : World} {k d : Nat} (s : Stands C w0 w k d) {p : Addr} (hp : w0.heap.size ≤ p.block) (hpb : C.pb < w0.heap.size) (v : Value) : Stands C w0 (w.setCell p v) k d :=
  ⟨(Below.heap_setCell _ _ _ _ (by omega)).trans s.at_, s.only.setNew hp v, s.pos⟩
theorem Has.grown {r : Ro} {w w' : World} {row : Option Nat} (h : Has r w) (hg : w.grownBy w' row) (hr : ∀ g, row = some g → r g = Option.none) : Has r w' := fun b o hb =>
  (hg.block b (blk_lt (h b o hb)) (fun e => by have := hr b e.symm; rw [this] at hb; cases hb)).trans (h b o hb)
theorem Has.setCell {r : Ro} {w : World} (h : Has r w) {p : Addr} (hp : r p.block = Option.none) (v : Value) : Has r (w.setCell p v) := fun b o hb =>
  (Below.heap_setCell _ _ _ _ (fun e => by rw [e, hp] at hb; cases hb)).trans (h b o hb)
theorem Has.alloc {r : Ro} {w : World} (h : Has r w) (x : Obj) : Has r (w.alloc x) := fun b o hb => blk_old (h b o hb) x
theorem cell_set_other {w : World} {p q : Addr} (v : Value) (h : p.block ≠ q.block) : (w.setCell q v).cell? p = w.cell? p := World.cell?_of_block (Below.heap_setCell _ _ _ _ h)

theorem item_end {C : PC} {w0 w w1 w2 : World} {d i j : Nat} {b1 q b4 base k : Nat} {xs : List JV} {qs : List Nat} {sv : Value} {r : Ro} {v : JV} {t : Bytes} {qv g cap : Nat} {ob : Obj}
    (hpl : Places C w0 b1 q b4 base) (hinv : ListInv C base b1 q b4 k xs w) (hS : Stands C w0 w i d) (hW : w.ownsRow base 29 1 sv k (qs.map ptrV)) (hql : qs.length = k)
    (hR : r.from base ∧ Has r w ∧ (∀ g, sv.ownBlock = some g → r g = none) ∧ ∀ i (h : i < qs.length) (h' : i < xs.length), IsV r (qs[i]'h) (xs[i]'h'))
    (only1 : Only [C.pb] w w1) (hst1 : Stands C w w1 j d) (hj : C.bs.drop j = t) (hm1 : Made w.heap.size w1 qv v)
    (hown2 : w2.ownsRow base 29 1 (.slice (some ⟨g, 0, none⟩) (k + 1) cap) (k + 1) (qs.map ptrV ++ [ptrV qv])) (hgr : (w1.alloc ob).grownBy w2 sv.ownBlock)
    (hat : sv.ownBlock = some g ∨ g = (w1.alloc ob).heap.size) (hq2 : w2.heap[q]? = some (vObj 4 false 0 emptyS sv nilS)) (hb2 : w2.cell? ⟨b1, 0, none⟩ = some (ptrV C.pb)) (h42 : w2.cell? ⟨b4, 0, none⟩ = some (ptrV q)) :
    RowRes C w0 d (ListInv C base b1 q b4 (k + 1)) (some (xs ++ [v], t)) (.returned (.tuple #[])) (w2.setCell ⟨q, 4, none⟩ (.slice (some ⟨g, 0, none⟩) (k + 1) cap)) := by
  have hpb := hpl.pb
  have h0 := hpl.h0
  have h1 := hpl.h1
  have hq := hpl.hq
  have h4 := hpl.h4
  have hb := hpl.hb
  obtain ⟨hrf, hhas, hrg, hisv⟩ := hR
  obtain ⟨r1, hr1f, hr1h, hr1v⟩ := hm1
  have hsz := hinv.size
  have hownlt := hW.lt
  have hr1g : ∀ g, sv.ownBlock = some g → r1 g = none := fun g hg => Ro.from_ne hr1f (hownlt g hg).2
  have hr1 : Has r w1 := hhas.only only1 (fun b hb => by simp at hb; subst hb; exact Ro.from_ne hrf (by omega))
  have hrq : r q = none := Ro.from_ne hrf (by omega)
  have hr1q : r1 q = none := Ro.from_ne hr1f (by omega)
  have ha : Has r (w2.setCell ⟨q, 4, none⟩ (.slice (some ⟨g, 0, none⟩) (k + 1) cap)) := ((hr1.alloc ob).grown hgr hrg).setCell hrq _
  have hb' : Has r1 (w2.setCell ⟨q, 4, none⟩ (.slice (some ⟨g, 0, none⟩) (k + 1) cap)) := ((hr1h.alloc ob).grown hgr hr1g).setCell hr1q _
  have hnone : ∀ (r : Ro), Has r w1 → (∀ g, sv.ownBlock = some g → r g = none) → r g = none := fun r hr hrg => by
    rcases hat with h | h
    · exact hrg g h
    · cases hx : r g with
      | none => rfl
      | some o => have := blk_lt (hr g o hx); simp at h; omega
  have hs3 : Stands C w0 (w2.setCell ⟨q, 4, none⟩ (.slice (some ⟨g, 0, none⟩) (k + 1) cap)) j d :=
    ((((hS.trans hst1).more ((Only.refl [] w1).alloc ob)).grown hpb hgr (fun k hk => by have := (hownlt k hk).1; omega)).setNew (by show w0.heap.size ≤ q; omega) hpb _)
  refine ⟨j, rfl, hs3, hj, ?_⟩
  refine ⟨by simp [hinv.len], ?_, ?_, ?_, .slice (some ⟨g, 0, none⟩) (k + 1) cap, qs ++ [qv], r.or r1, ?_, ?_, by simp [hql], Ro.from_or hrf (Ro.from_mono hr1f hsz), ha.or hb', ?_, ?_⟩
  · have := only1.size; have := hgr.size; simp [World.setCell] at *; omega
  · rw [cell_set_other _ (by show b1 ≠ q; omega)]; exact hb2
  · rw [cell_set_other _ (by show b4 ≠ q; omega)]; exact h42
  · have := blk_set (v := .slice (some ⟨g, 0, none⟩) (k + 1) cap) hq2 4
    simpa [vObj] using this
  · have := own_set hown2 (p := ⟨q, 4, none⟩) (by show q < base; omega) (.slice (some ⟨g, 0, none⟩) (k + 1) cap)
    simpa using this
  · intro g' hg'
    cases hg'
    unfold Ro.or
    rw [hnone r hr1 hrg, hnone r1 hr1h hr1g]; rfl
  · intro i h h'
    simp only [List.length_append, List.length_singleton] at h h'
    have hlen := hinv.len
    rcases Nat.lt_or_ge i k with hi | hi
    · have := (hisv i (by omega) (by omega)).mono (Ro.le_left r r1)
      simpa [List.getElem_append, hql, hlen, hi] using this
    · have e : i = k := by omega
      subst e
      have := hr1v.mono (Ro.le_right ha hb')
      simpa [List.getElem_append, hql, hlen] using this


end Toc
