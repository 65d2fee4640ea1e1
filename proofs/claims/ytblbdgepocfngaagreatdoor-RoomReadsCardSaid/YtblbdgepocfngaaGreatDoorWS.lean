/-
  Rr9: The document's value: place, put.
  Rput: The document's value: put, the walk.
  Rmem: The document's reader: a value where something is wrong; a member.
  Rbad: The document's reader: text, member where something is wrong.
  Rbr: The document's reader: brackets (lists, objects).
-/
import Derived.Test.YtblbdgepocfngaaGreatDoorWR
import Derived.Test.YtblbdgepocfngaaGreatDoorWA
namespace Toc
open Go Go.RowKit Go.Proofs

/-- A store into a row of the call's own. -/
theorem own_store {w : World} {base : Nat} {e : TypeId} {g n cap : Nat} {xs : List Value} (h : w.ownsRow base e 1 (.slice (some ⟨g, 0, none⟩) n cap) n xs) {j : Nat} (_hj : j < n) (u : Value) :
    (w.setCell ⟨g, j, none⟩ u).ownsRow base e 1 (.slice (some ⟨g, 0, none⟩) n cap) n (xs.set j u) := by
  refine ⟨by rw [List.length_set]; exact h.1, ?_⟩
  rcases h.2 with ⟨h1, _⟩ | ⟨g', cap', cur, h1, h2, h3, h4, h5, h6, h7⟩
  · cases h1
  · cases h1
    refine .inr ⟨g, cap, cur.setIfInBounds j u, rfl, h2, blk_set h3 j u, h4, h5, by simp [h6], ?_⟩
    rw [← h7, Array.toList_setIfInBounds, List.take_set]
/-- A store elsewhere. -/
theorem own_other {w : World} {base : Nat} {e : TypeId} {size : Nat} {v : Value} {n : Nat} {xs : List Value} (h : w.ownsRow base e size v n xs) {p : Addr} (hp : v.ownBlock ≠ some p.block) (u : Value) : (w.setCell p u).ownsRow base e size v n xs := by
  refine ⟨h.1, ?_⟩
  rcases h.2 with h1 | ⟨g, cap, cur, h1, h2, h3, h4⟩
  · exact .inl h1
  · subst h1
    exact .inr ⟨g, cap, cur, rfl, h2, (Below.heap_setCell _ _ _ _ (fun e => hp (by rw [← e]; rfl))).trans h3, h4⟩
theorem own_cell {w : World} {base : Nat} {e : TypeId} {g n cap : Nat} {xs : List Value} (h : w.ownsRow base e 1 (.slice (some ⟨g, 0, none⟩) n cap) n xs) {j : Nat} {u : Value} (hj : xs[j]? = some u) : w.cell? ⟨g, j, none⟩ = some u ∧ w.frozen? ⟨g, j, none⟩ = false := by
  have hl := h.1
  have hjn := (List.getElem?_eq_some_iff.1 hj).1
  rcases h.2 with ⟨h1, _⟩ | ⟨g', cap', cur, h1, h2, h3, h4, h5, h6, h7⟩
  · cases h1
  · cases h1
    refine ⟨?_, blk_free h3 j⟩
    rw [blk_cell h3, ← Array.getElem?_toList]
    rw [← h7, List.getElem?_take_of_lt (by omega)] at hj
    exact hj
/-- Two rows of different kinds are two blocks. -/
theorem own_apart {w : World} {base base' : Nat} {e e' : TypeId} {s s' n n' : Nat} {v v' : Value} {xs xs' : List Value} (h : w.ownsRow base e s v n xs) (h' : w.ownsRow base' e' s' v' n' xs') (hne : e ≠ e') : ∀ g, v.ownBlock = some g → v'.ownBlock ≠ some g := by
  intro g h1 h2
  rcases h.2 with ⟨rfl, _⟩ | ⟨a, cap, cur, rfl, _, h3, _⟩
  · cases h1
  · rcases h'.2 with ⟨rfl, _⟩ | ⟨a', cap', cur', rfl, _, h4, _⟩
    · cases h2
    · cases h1; cases h2
      rw [h3] at h4
      simp only [Option.some.injEq, Obj.cells.injEq] at h4
      exact hne h4.2.1
theorem own_slice {w : World} {base : Nat} {e : TypeId} {size : Nat} {sv : Value} {n : Nat} {xs : List Value} (h : w.ownsRow base e size sv n xs) : ∃ a c, sv = .slice a n c ∧ n ≤ c := by
  rcases h.2 with ⟨h1, h0⟩ | ⟨g, cap, cur, h1, _, _, hc, _⟩
  · exact ⟨none, 0, by rw [h1, h0], by omega⟩
  · exact ⟨_, cap, h1, hc⟩

/-- A value of the document's under way: its items, its keys. -/
structure RVAt (w : World) (q base : Nat) (kind : Int) (sv kv : Value) (n : Nat) (vs : List (Option Addr)) (m : Nat) (ks : List Bytes) : Prop where
  blk : w.heap[q]? = some (rvObj kind false 0 emptyS sv kv)
  items : w.ownsRow base 76 1 sv n (vs.map Value.pointer)
  keys : w.ownsRow base 9 1 kv m (ks.map fun k => Value.string (mkS k))
  q : q < base
  size : base ≤ w.heap.size

theorem RVAt.turns {w w' : World} {S : List Nat} {q base : Nat} {kind : Int} {sv kv : Value} {n : Nat} {vs : List (Option Addr)} {m : Nat} {ks : List Bytes} (h : RVAt w q base kind sv kv n vs m ks) (ht : Turns S w w') (hq : q ∉ S) (hS : ∀ b ∈ S, b < base) : RVAt w' q base kind sv kv n vs m ks :=
  ⟨ht.heap h.blk hq, own_turns h.items ht hS, own_turns h.keys ht hS, h.q, Nat.le_trans h.size ht.size⟩

theorem bytesLess_cb : ∀ (a b : Bytes), Op.bytesLess a b = (Lib.compareBytes a b == -1)
  | [], [] => rfl
  | [], _ :: _ => rfl
  | _ :: _, [] => rfl
  | x :: xs, y :: ys => by
    unfold Op.bytesLess Lib.compareBytes
    rw [bytesLess_cb xs ys]
    by_cases h1 : x < y
    · simp [h1]
    · by_cases h2 : y < x
      · have hne : ¬ x = y := fun e => by subst e; exact h1 h2
        simp [h1, h2, hne]
      · have he : x = y := UInt8.le_antisymm (UInt8.not_lt.1 h2) (UInt8.not_lt.1 h1)
        simp [he]

/-- Where a key stands. -/
def placeK (ks : List Bytes) (k : Bytes) : Nat := (ks.takeWhile fun x => Lib.compareBytes x k == -1).length

theorem scan_to {α : Type} {p : α → Bool} {l : List α} {k : Nat} {c : α} (hc : l[k]? = some c) (hp : p c = true) (h : l.takeWhile p = l.take k ++ (l.drop k).takeWhile p) : l.takeWhile p = l.take (k + 1) ++ (l.drop (k + 1)).takeWhile p := by
  obtain ⟨h1, h2⟩ := List.getElem?_eq_some_iff.1 hc
  rw [h, List.drop_eq_getElem_cons h1, h2, List.takeWhile_cons, if_pos hp, List.take_add_one, hc]
  simp
theorem scan_at {ks : List Bytes} {key : Bytes} {k : Nat} (hp : ∀ c, ks[k]? = some c → (Lib.compareBytes c key == -1) = false) (h : (ks.takeWhile fun x => Lib.compareBytes x key == -1) = ks.take k ++ (ks.drop k).takeWhile (fun x => Lib.compareBytes x key == -1)) (hk : k ≤ ks.length) : placeK ks key = k := by
  have h0 : (ks.drop k).takeWhile (fun x => Lib.compareBytes x key == -1) = [] := by
    cases hd : ks.drop k with
    | nil => rfl
    | cons c r =>
      have hc : ks[k]? = some c := by
        have := List.getElem?_drop (xs := ks) (i := k) (j := 0)
        rw [hd] at this; simpa using this.symm
      rw [List.takeWhile_cons, if_neg (by rw [hp c hc]; simp)]
  unfold placeK
  rw [h, h0, List.append_nil, List.length_take]; omega

set_option maxRecDepth 100000 in
set_option maxHeartbeats 4000000 in
theorem rplace_any (w : World) {q base : Nat} {kind : Int} {sv kv : Value} {n : Nat} {vs : List (Option Addr)} {m : Nat} {ks : List Bytes} (h : RVAt w q base kind sv kv n vs m ks) (hm : m ≤ 64) (key : ByteArray) {p : Nat} (hp : placeK ks key.data.toList = p) :
    Calls Tryz.prog 180 #[ptrV q, .string key] w fun x w' => x = .returned (.int .i64 p) ∧ w = w' := by
  have hb := h.blk
  unfold rvObj at hb
  have c5 : w.cell? ⟨q, 5, none⟩ = some kv := blk_cell hb 5
  have hkl : ks.length = m := by have := h.keys.1; simpa using this
  have HK := Lib.hid h.keys
  have HP := Lib.hid hp
  obtain ⟨a, c, rfl, hmc⟩ := own_slice h.keys
  clear h hb hp
  go_enter Tryz.func180, Tryz.ntmps180
  go_wp2_with fail
  go_loopw [5] (fun s5 wr => ∃ j : Nat, s5 = .int .i64 j ∧ j ≤ m ∧ (ks.takeWhile fun x => Lib.compareBytes x key.data.toList == -1) = ks.take j ++ (ks.drop j).takeWhile (fun x => Lib.compareBytes x key.data.toList == -1) ∧ wr = w) (fun s5 _ => match s5 with | .int _ x => m - x.toNat | _ => 0)
  case atStart => exact ⟨0, rfl, Nat.zero_le _, by simp, rfl⟩
  case round =>
    obtain ⟨j, rfl, hj, hT, rfl⟩ := hrel
    have HT := Lib.hid hT
    clear hT
    by_cases hlt : j < m
    · obtain ⟨k, hk⟩ : ∃ k, ks[j]? = some k := ⟨_, List.getElem?_eq_getElem (by omega)⟩
      obtain ⟨g, cap, cur, hsv, _⟩ := own_form HK.out (by omega)
      cases hsv
      have hc := (own_cell HK.out (j := j) (u := .string (mkS k)) (by rw [List.getElem?_map, hk]; rfl)).1
      obtain ⟨sk, hsk⟩ : ∃ x, mkS k = x := ⟨_, rfl⟩
      rw [hsk] at hc
      have hskl : sk.toList = k := by rw [← hsk, Lib.toList_data]
      obtain ⟨b, hb⟩ : ∃ b, Op.bytesLess sk.toList key.toList = b := ⟨_, rfl⟩
      have hbc : (Lib.compareBytes k key.data.toList == -1) = b := by rw [← hb, hskl, Lib.toList_data, bytesLess_cb]
      have HBC := Lib.hid hbc
      have HKJ := Lib.hid hk
      clear hk hskl hbc
      cases b with
      | true =>
        go_wp2_with fail
        go_roundw
        case rel => exact ⟨j + 1, by simp, hlt, scan_to HKJ.out HBC.out HT.out, by first | rfl | trivial⟩
        case measure => simp; omega
      | false =>
        go_wp2_with fail
        go_ret
        have hj2 : placeK ks key.data.toList = j := scan_at (fun x hx => by rw [HKJ.out] at hx; cases hx; exact HBC.out) HT.out (by omega)
        exact ⟨congrArg (fun m : Nat => Ending.returned (.int .i64 (m : Int))) (hj2.symm.trans HP.out), rfl⟩
    · go_wp2_with fail
      go_ret
      have hj2 : placeK ks key.data.toList = j := scan_at (fun x hx => by have := (List.getElem?_eq_some_iff.1 hx).1; omega) HT.out (by omega)
      exact ⟨congrArg (fun m : Nat => Ending.returned (.int .i64 (m : Int))) (hj2.symm.trans HP.out), rfl⟩

/-- A list, its members from j on one place on; the place j is free. -/
def shiftL {α : Type} (l : List α) (x : α) (j : Nat) : List α := (l ++ [x]).take (j + 1) ++ l.drop j
theorem shiftL_start {α : Type} (l : List α) (x : α) : shiftL l x l.length = l ++ [x] := by
  unfold shiftL; rw [List.take_of_length_le (by simp), List.drop_length, List.append_nil]
theorem shiftL_len {α : Type} (l : List α) (x : α) (j : Nat) (h : j ≤ l.length) : (shiftL l x j).length = l.length + 1 := by
  unfold shiftL; simp only [List.length_append, List.length_take, List.length_drop, List.length_singleton]; omega
theorem shiftL_get {α : Type} (l : List α) (x : α) (j : Nat) (h : j < l.length) : (shiftL l x (j + 1))[j]? = l[j]? := by
  unfold shiftL
  rw [List.getElem?_append_left (by simp only [List.length_take, List.length_append, List.length_singleton]; omega), List.getElem?_take_of_lt (by omega), List.getElem?_append_left h]
theorem shiftL_step {α : Type} (l : List α) (x y : α) (j : Nat) (h : l[j]? = some y) : (shiftL l x (j + 1)).set (j + 1) y = shiftL l x j := by
  obtain ⟨h1, h2⟩ := List.getElem?_eq_some_iff.1 h
  unfold shiftL
  rw [List.set_append_left _ _ (by simp only [List.length_take, List.length_append, List.length_singleton]; omega), List.take_add_one (i := j + 1)]
  have hl : ((l ++ [x]).take (j + 1)).length = j + 1 := by simp only [List.length_take, List.length_append, List.length_singleton]; omega
  obtain ⟨z, hz⟩ : ∃ z, (l ++ [x])[j + 1]? = some z := ⟨_, List.getElem?_eq_getElem (by simp; omega)⟩
  rw [hz, List.set_append_right _ _ (by omega), hl, Nat.sub_self]
  show (l ++ [x]).take (j + 1) ++ [y] ++ l.drop (j + 1) = _
  rw [List.append_assoc, List.drop_eq_getElem_cons h1, h2]; rfl
theorem shiftL_put {α : Type} (l : List α) (x y : α) (j : Nat) (h : j ≤ l.length) : (shiftL l x j).set j y = putAt l j y := by
  unfold shiftL putAt
  have hl : ((l ++ [x]).take j).length = j := by simp only [List.length_take, List.length_append, List.length_singleton]; omega
  obtain ⟨z, hz⟩ : ∃ z, (l ++ [x])[j]? = some z := ⟨_, List.getElem?_eq_getElem (by simp; omega)⟩
  rw [List.take_add_one, hz, List.append_assoc, List.set_append_right _ _ (by omega), hl, Nat.sub_self, List.take_append_of_le_length h]
  rfl

end Toc

namespace Toc
open Go Go.RowKit Go.Proofs

/-- The rows of a value under way, written out. -/
structure RVRow (w : World) (q base : Nat) (kind : Int) (g1 c1 g2 c2 : Nat) (n : Nat) (vs : List (Option Addr)) (ks : List Bytes) : Prop where
  at_ : RVAt w q base kind (.slice (some ⟨g2, 0, none⟩) n c2) (.slice (some ⟨g1, 0, none⟩) n c1) n vs n ks
  ne : g1 ≠ g2 ∧ q ≠ g1 ∧ q ≠ g2
  cap : n ≤ c1 ∧ n ≤ c2

theorem RVRow.of {w : World} {q base : Nat} {kind : Int} {g1 c1 g2 c2 n : Nat} {vs : List (Option Addr)} {ks : List Bytes} (h : RVAt w q base kind (.slice (some ⟨g2, 0, none⟩) n c2) (.slice (some ⟨g1, 0, none⟩) n c1) n vs n ks) : RVRow w q base kind g1 c1 g2 c2 n vs ks := by
  have l1 := h.keys.lt g1 rfl
  have l2 := h.items.lt g2 rfl
  have hq := h.q
  have ha := own_apart h.keys h.items (by decide) g1 rfl
  refine ⟨h, ⟨fun e => ha (by rw [e]; rfl), by omega, by omega⟩, ?_, ?_⟩
  · obtain ⟨a, c, e, hc⟩ := own_slice h.keys; cases e; exact hc
  · obtain ⟨a, c, e, hc⟩ := own_slice h.items; cases e; exact hc
theorem RVRow.drew {w : World} {q base : Nat} {kind : Int} {g1 c1 g2 c2 n : Nat} {vs : List (Option Addr)} {ks : List Bytes} (h : RVRow w q base kind g1 c1 g2 c2 n vs ks) : RVRow w.drew q base kind g1 c1 g2 c2 n vs ks :=
  ⟨h.at_.turns ((Turns.refl [] w).drew) (by simp) (by simp), h.ne, h.cap⟩
theorem RVRow.setKey {w : World} {q base : Nat} {kind : Int} {g1 c1 g2 c2 n : Nat} {vs : List (Option Addr)} {ks : List Bytes} (h : RVRow w q base kind g1 c1 g2 c2 n vs ks) {j : Nat} (hj : j < n) (k : Bytes) : RVRow (w.setCell ⟨g1, j, none⟩ (.string (mkS k))) q base kind g1 c1 g2 c2 n vs (ks.set j k) := by
  have h1 := own_store h.at_.keys hj (.string (mkS k))
  rw [← List.map_set] at h1
  exact ⟨⟨(Below.heap_setCell _ _ _ _ h.ne.2.1).trans h.at_.blk, own_other h.at_.items (by simp [Value.ownBlock, Ne.symm h.ne.1]) _, h1, h.at_.q, by have := h.at_.size; simpa [World.setCell] using this⟩, h.ne, h.cap⟩
theorem RVRow.setVal {w : World} {q base : Nat} {kind : Int} {g1 c1 g2 c2 n : Nat} {vs : List (Option Addr)} {ks : List Bytes} (h : RVRow w q base kind g1 c1 g2 c2 n vs ks) {j : Nat} (hj : j < n) (v : Option Addr) : RVRow (w.setCell ⟨g2, j, none⟩ (.pointer v)) q base kind g1 c1 g2 c2 n (vs.set j v) ks :=
  ⟨⟨(Below.heap_setCell _ _ _ _ h.ne.2.2).trans h.at_.blk, by rw [List.map_set]; exact own_store h.at_.items hj (.pointer v), own_other h.at_.keys (by simp [Value.ownBlock, h.ne.1]) _, h.at_.q, by have := h.at_.size; simpa [World.setCell] using this⟩, h.ne, h.cap⟩
theorem RVRow.cells {w : World} {q base : Nat} {kind : Int} {g1 c1 g2 c2 n : Nat} {vs : List (Option Addr)} {ks : List Bytes} (h : RVRow w q base kind g1 c1 g2 c2 n vs ks) :
    w.cell? ⟨q, 5, none⟩ = some (.slice (some ⟨g1, 0, none⟩) n c1) ∧ w.cell? ⟨q, 4, none⟩ = some (.slice (some ⟨g2, 0, none⟩) n c2) := by
  have hb := h.at_.blk
  unfold rvObj at hb
  exact ⟨blk_cell hb 5, blk_cell hb 4⟩
theorem RVRow.key {w : World} {q base : Nat} {kind : Int} {g1 c1 g2 c2 n : Nat} {vs : List (Option Addr)} {ks : List Bytes} (h : RVRow w q base kind g1 c1 g2 c2 n vs ks) {j : Nat} (hj : j < n) : ∃ k, ks[j]? = some k ∧ w.cell? ⟨g1, j, none⟩ = some (.string (mkS k)) ∧ w.frozen? ⟨g1, j, none⟩ = false := by
  have hl := h.at_.keys.1
  rw [List.length_map] at hl
  obtain ⟨k, hk⟩ : ∃ k, ks[j]? = some k := ⟨_, List.getElem?_eq_getElem (by omega)⟩
  exact ⟨k, hk, own_cell h.at_.keys (by rw [List.getElem?_map, hk]; rfl)⟩
theorem RVRow.val {w : World} {q base : Nat} {kind : Int} {g1 c1 g2 c2 n : Nat} {vs : List (Option Addr)} {ks : List Bytes} (h : RVRow w q base kind g1 c1 g2 c2 n vs ks) {j : Nat} (hj : j < n) : ∃ v, vs[j]? = some v ∧ w.cell? ⟨g2, j, none⟩ = some (.pointer v) ∧ w.frozen? ⟨g2, j, none⟩ = false := by
  have hl := h.at_.items.1
  rw [List.length_map] at hl
  obtain ⟨v, hv⟩ : ∃ v, vs[j]? = some v := ⟨_, List.getElem?_eq_getElem (by omega)⟩
  exact ⟨v, hv, own_cell h.at_.items (by rw [List.getElem?_map, hv]; rfl)⟩

theorem own_grown {w w' : World} {row : Option Nat} {base : Nat} {e : TypeId} {size : Nat} {v : Value} {n : Nat} {xs : List Value} (h : w.ownsRow base e size v n xs) (hg : w.grownBy w' row) (hne : ∀ g, v.ownBlock = some g → row ≠ some g) : w'.ownsRow base e size v n xs := by
  refine ⟨h.1, ?_⟩
  rcases h.2 with h1 | ⟨g, cap, cur, h1, h2, h3, h4⟩
  · exact .inl h1
  · subst h1
    exact .inr ⟨g, cap, cur, rfl, h2, (hg.block g (blk_lt h3) (fun e => hne g rfl e.symm)).trans h3, h4⟩

def rvS (q : Nat) (sv kv : Value) : List Nat := q :: (sv.ownBlock.toList ++ kv.ownBlock.toList)

set_option maxRecDepth 100000 in
set_option maxHeartbeats 8000000 in
theorem rput_any (w : World) {q base : Nat} {kind : Int} {sv kv : Value} {n : Nat} {vs : List (Option Addr)} {ks : List Bytes} (h : RVAt w q base kind sv kv n vs n ks) (hn : n ≤ 64) (a : Nat) (ha : a ≤ n) (key : ByteArray) (x : Option Addr) :
    Calls Tryz.prog 182 #[ptrV q, .int .i64 a, .string key, .pointer x] w fun e w' => e = .returned (.tuple #[]) ∧ ∃ g1 c1 g2 c2, RVRow w' q base kind g1 c1 g2 c2 (n + 1) (putAt vs a x) (putAt ks a key.data.toList) ∧ Turns (rvS q sv kv) w w' ∧ (kv.ownBlock = some g1 ∨ w.heap.size ≤ g1) ∧ (sv.ownBlock = some g2 ∨ w.heap.size ≤ g2) := by
  obtain ⟨i0, hi5, hz0, hz1, hz2⟩ := info_parts (show (Tryz.prog.info? 9).map (fun i => (i.zero, i.size, i.bytes)) = some (some (.string ⟨#[]⟩), 1, 16) by kernel_rfl)
  obtain ⟨i1, ki5, kz0, kz1, kz2⟩ := info_parts (show (Tryz.prog.info? 76).map (fun i => (i.zero, i.size, i.bytes)) = some (some (.pointer none), 1, 8) by kernel_rfl)
  have hb := h.blk
  unfold rvObj at hb
  have c5 : w.cell? ⟨q, 5, none⟩ = some kv := blk_cell hb 5
  have f5 := fun o => blk_free hb o
  have H := Lib.hid h
  have hvl : vs.length = n := by have := h.items.1; rw [List.length_map] at this; omega
  have hkl : ks.length = n := by have := h.keys.1; rw [List.length_map] at this; omega
  have hqs := h.size
  have hqb := h.q
  have c5a := fun o => cell_alloc c5 o
  clear h hb
  go_enter Tryz.func182, Tryz.ntmps182
  go_wp2_with (at_builtin; refine wpList_append_lies _ rfl _ _ 57 rfl base 9 i0 (.string ⟨#[]⟩) 1 16 Tryz.underlying57 hi5 hz0 hz1 hz2 rfl (by decide) _ _ _ rfl (H.out.keys.alloc _) ⟨w.heap.size, 0, none⟩ 1 1 [.string ⟨#[]⟩] rfl rfl (World.news_of_block (blk_new w _)) (by simp [Value.oneCell']) (by decide) (by unfold maxLen; omega) (by omega) (by simp; omega) _ rfl ?_)
  intro g1 c1 w1 hown1 hgr1 hat1 hlt1
  have hq1 : w1.heap[q]? = some (rvObj kind false 0 emptyS sv kv) := (hgr1.block q (by simp; omega) (fun e => by have := (H.out.keys.lt q e.symm).1; omega)).trans (blk_old H.out.blk _)
  have hit1 : w1.ownsRow base 76 1 sv n (vs.map Value.pointer) := own_grown (H.out.items.alloc _) hgr1 (fun g h1 h2 => own_apart H.out.items H.out.keys (by decide) g h1 h2)
  have hq2 : (w1.setCell ⟨q, 5, none⟩ (.slice (some ⟨g1, 0, none⟩) (n + 1) c1)).heap[q]? = some (rvObj kind false 0 emptyS sv (.slice (some ⟨g1, 0, none⟩) (n + 1) c1)) := by
    have := blk_set (v := .slice (some ⟨g1, 0, none⟩) (n + 1) c1) hq1 5
    simpa [rvObj] using this
  have hg1b : base ≤ g1 := (hown1.lt g1 rfl).1
  have hown1' : (w1.setCell ⟨q, 5, none⟩ (.slice (some ⟨g1, 0, none⟩) (n + 1) c1)).ownsRow base 9 1 (.slice (some ⟨g1, 0, none⟩) (n + 1) c1) (n + 1) ((ks ++ [[]]).map fun k => Value.string (mkS k)) := by
    rw [List.map_append]
    exact own_other hown1 (by simp [Value.ownBlock]; omega) _
  have hit2 : (w1.setCell ⟨q, 5, none⟩ (.slice (some ⟨g1, 0, none⟩) (n + 1) c1)).ownsRow base 76 1 sv n (vs.map Value.pointer) := own_other hit1 (fun e => by have := (hit1.lt q e).1; omega) _
  have hT2 : Turns (rvS q sv kv) w (w1.setCell ⟨q, 5, none⟩ (.slice (some ⟨g1, 0, none⟩) (n + 1) c1)) :=
    (((Turns.refl (rvS q sv kv) w).alloc _).grown hgr1 (fun k hk => .inl (by simp [rvS, hk]))).setCell (.inl (by simp [rvS])) _
  have hsz1 : w.heap.size ≤ (w1.setCell ⟨q, 5, none⟩ (.slice (some ⟨g1, 0, none⟩) (n + 1) c1)).heap.size := hT2.size
  have c6 : w1.cell? ⟨q, 5, none⟩ = some kv := blk_cell hq1 5
  have f6 := fun o => blk_free hq1 o
  have HQ2 := Lib.hid hq2
  have HO1 := Lib.hid hown1'
  have HI2 := Lib.hid hit2
  have HT2 := Lib.hid hT2
  have HA1 := Lib.hid (show kv.ownBlock = some g1 ∨ w.heap.size ≤ g1 from hat1.imp id (fun e => by omega))
  have c7 : (w1.setCell ⟨q, 5, none⟩ (.slice (some ⟨g1, 0, none⟩) (n + 1) c1)).cell? ⟨q, 4, none⟩ = some sv := blk_cell hq2 4
  have c7a := fun o => cell_alloc c7 o
  clear hq1 hit1 hq2 hown1 hown1' hit2 hT2 hgr1 hat1 c5 c5a f5
  go_wp2_with (at_builtin; refine wpList_append_lies _ rfl _ _ 186 rfl base 76 i1 (.pointer none) 1 8 Tryz.underlying186 ki5 kz0 kz1 kz2 rfl (by decide) _ _ _ rfl (HI2.out.alloc _) ⟨(w1.setCell ⟨q, 5, none⟩ (.slice (some ⟨g1, 0, none⟩) (n + 1) c1)).heap.size, 0, none⟩ 1 1 [.pointer none] (by simp [Act.eval, World.setCell]) rfl (World.news_of_block (blk_new _ _)) (by simp [Value.oneCell']) (by decide) (by unfold maxLen; omega) (by omega) (by simp at hsz1 ⊢; omega) _ rfl ?_)
  intro g2 c2 w2 hown2 hgr2 hat2 hlt2
  have hq3 : w2.heap[q]? = some (rvObj kind false 0 emptyS sv (.slice (some ⟨g1, 0, none⟩) (n + 1) c1)) := (hgr2.block q (by have := blk_lt HQ2.out; simp at this ⊢; omega) (fun e => by have := (HI2.out.lt q e.symm).1; omega)).trans (blk_old HQ2.out _)
  have hk3 : w2.ownsRow base 9 1 (.slice (some ⟨g1, 0, none⟩) (n + 1) c1) (n + 1) ((ks ++ [[]]).map fun k => Value.string (mkS k)) := own_grown (HO1.out.alloc _) hgr2 (fun g h1 h2 => own_apart HO1.out HI2.out (by decide) g h1 h2)
  have hg2b : base ≤ g2 := (hown2.lt g2 rfl).1
  have hq4 : (w2.setCell ⟨q, 4, none⟩ (.slice (some ⟨g2, 0, none⟩) (n + 1) c2)).heap[q]? = some (rvObj kind false 0 emptyS (.slice (some ⟨g2, 0, none⟩) (n + 1) c2) (.slice (some ⟨g1, 0, none⟩) (n + 1) c1)) := by
    have := blk_set (v := (.slice (some ⟨g2, 0, none⟩) (n + 1) c2)) hq3 4
    simpa [rvObj] using this
  have hT3 : Turns (rvS q sv kv) w (w2.setCell ⟨q, 4, none⟩ (.slice (some ⟨g2, 0, none⟩) (n + 1) c2)) :=
    (((HT2.out.alloc _).grown hgr2 (fun k hk => .inl (by simp [rvS, hk])))).setCell (.inl (by simp [rvS])) _
  have hrow : RVRow (w2.setCell ⟨q, 4, none⟩ (.slice (some ⟨g2, 0, none⟩) (n + 1) c2)) q base kind g1 c1 g2 c2 (n + 1) (shiftL vs none n) (shiftL ks [] n) := by
    rw [show shiftL vs none n = vs ++ [none] by rw [← hvl]; exact shiftL_start _ _, show shiftL ks [] n = ks ++ [[]] by rw [← hkl]; exact shiftL_start _ _]
    exact RVRow.of ⟨hq4, by rw [List.map_append]; exact own_other hown2 (by simp [Value.ownBlock]; omega) _, own_other hk3 (by simp [Value.ownBlock]; omega) _, hqb, by have := hT3.size; omega⟩
  have c8 : w2.cell? ⟨q, 4, none⟩ = some sv := blk_cell hq3 4
  have f8 := fun o => blk_free hq3 o
  have HROW := Lib.hid hrow
  have HT3 := Lib.hid hT3
  have HA2 := Lib.hid (show sv.ownBlock = some g2 ∨ w.heap.size ≤ g2 from hat2.imp id (fun e => by have := e; simp at this hsz1; omega))
  have hd5 := (hrow.cells).1
  clear hq3 hk3 hown2 hgr2 hat2 hq4 hT3 hrow c6 f6 c7 c7a
  go_wp2_with fail
  go_loopw [8] (fun s8 wr => ∃ j : Nat, s8 = .int .i64 j ∧ a ≤ j ∧ j ≤ n ∧ RVRow wr q base kind g1 c1 g2 c2 (n + 1) (shiftL vs none j) (shiftL ks [] j) ∧ Turns (rvS q sv kv) w wr) (fun s8 _ => match s8 with | .int _ x => x.toNat | _ => 0)
  case atStart => exact ⟨n, by simp, ha, Nat.le_refl _, HROW.out, HT3.out⟩
  case round =>
    obtain ⟨j, rfl, haj, hjn, hR, hT⟩ := hrel
    have HR := Lib.hid hR
    have HT := Lib.hid hT
    clear hR hT
    have hs1 : g1 ∈ rvS q sv kv ∨ w.heap.size ≤ g1 := HA1.out.imp (fun h => by simp [rvS, h]) id
    have hs2 : g2 ∈ rvS q sv kv ∨ w.heap.size ≤ g2 := HA2.out.imp (fun h => by simp [rvS, h]) id
    by_cases hlt : a < j
    · obtain ⟨jm, rfl⟩ : ∃ x, j = x + 1 := ⟨j - 1, by omega⟩
      obtain ⟨jj, hjj⟩ : ∃ x, jm + 1 = x := ⟨_, rfl⟩
      have hcast : (jj : Int) - 1 = (jm : Int) := by omega
      have hwr : IntKind.i64.wrap (jm : Int) = jm := IntWalk.i64_in _ (by omega)
      have hltI : (a : Int) < jj := by omega
      have HJJ := Lib.hid hjj
      rw [hjj] at HR hjn
      rw [hjj]
      clear hjj hlt haj
      have hjm : jm < n + 1 := by have := HJJ.out; omega
      have hjjn : jj < n + 1 := by omega
      obtain ⟨k1, hk1, hc1, _⟩ := HR.out.drew.key hjm
      obtain ⟨k2, _, hc2, hf2⟩ := HR.out.drew.key hjjn
      obtain ⟨d5, d4⟩ := HR.out.drew.cells
      have HK1 := Lib.hid hk1
      clear hk1
      have i1 : (jm : Int) < n + 1 := by omega
      have i2 : (jj : Int) < n + 1 := by omega
      go_wp2_with fail
      go_still_tail 13, (by kernel_rfl)
      change wpList _ _ _ _ _ wr.drew
      have HRa := Lib.hid HR.out.drew
      have HTa := Lib.hid HT.out.drew
      clear HR HT
      generalize wr.drew = wa at *
      have hRb := HRa.out.setKey hjjn k1
      obtain ⟨v1, hv1, e1, _⟩ := hRb.drew.val hjm
      obtain ⟨v2, _, e2, e3⟩ := hRb.drew.val hjjn
      obtain ⟨b5, b4⟩ := hRb.drew.cells
      have HRb := Lib.hid hRb
      have HTb := Lib.hid (HTa.out.setCell (p := ⟨g1, jj, none⟩) hs1 (.string (mkS k1)))
      have HV1 := Lib.hid hv1
      clear hRb hv1
      go_wp2_with fail
      generalize wa.setCell ⟨g1, jj, none⟩ (.string (mkS k1)) = wb at *
      clear hc1 hc2 hf2 d5 d4 HRa HTa
      go_still_tail 13, (by kernel_rfl)
      change wpList _ _ _ _ _ wb.drew
      have HRc := Lib.hid HRb.out.drew
      have HTc := Lib.hid HTb.out.drew
      clear HRb HTb
      generalize wb.drew = wd at *
      have hRd := HRc.out.setVal hjjn v1
      have hvm : vs[jm]? = some v1 := by
        have h1 := HV1.out
        rw [← HJJ.out, shiftL_get _ _ _ (by have := HJJ.out; omega)] at h1
        exact h1
      have hkm : ks[jm]? = some k1 := by
        have h1 := HK1.out
        rw [← HJJ.out, shiftL_get _ _ _ (by have := HJJ.out; omega)] at h1
        exact h1
      rw [← HJJ.out, shiftL_step _ _ _ _ hvm, shiftL_step _ _ _ _ hkm, HJJ.out] at hRd
      have HRd := Lib.hid hRd
      have HTd := Lib.hid (HTc.out.setCell (p := ⟨g2, jj, none⟩) hs2 (.pointer v1))
      clear hRd hvm hkm
      go_wp2_with fail
      go_roundw
      case rel => exact ⟨jm, rfl, by have := HJJ.out; omega, by omega, HRd.out, HTd.out⟩
      case measure => simp; have := HJJ.out; omega
    · have hja : j = a := by omega
      subst hja
      have hjn1 : j < n + 1 := by omega
      obtain ⟨k2, _, hc2, hf2⟩ := HR.out.key hjn1
      obtain ⟨d5, d4⟩ := HR.out.cells
      have hRb := HR.out.setKey hjn1 key.data.toList
      rw [mkS_list] at hRb
      obtain ⟨v2, _, e2, e3⟩ := hRb.val hjn1
      obtain ⟨b5, b4⟩ := hRb.cells
      have hRc := hRb.setVal hjn1 x
      rw [shiftL_put _ _ _ _ (by omega), shiftL_put _ _ _ _ (by omega)] at hRc
      have HRC := Lib.hid hRc
      have HTC := Lib.hid ((HT.out.setCell (p := ⟨g1, j, none⟩) hs1 (.string key)).setCell (p := ⟨g2, j, none⟩) hs2 (.pointer x))
      have i1 : (j : Int) < n + 1 := by omega
      clear hRb hRc
      go_wp2_with fail
      go_end0
      exact ⟨rfl, g1, c1, g2, c2, HRC.out, HTC.out, HA1.out, HA2.out⟩

end Toc

namespace Toc
open Go Go.RowKit Go.Proofs

theorem Rd.turns {C : RC} {w w' : World} {i d : Nat} {S : List Nat} (h : Rd C w i d) (ht : Turns S w w') (hn : C.pb ∉ S) : Rd C w' i d := ⟨ht.heap h.blk hn, h.le, h.small⟩
theorem Bd.turns {C : RC} {w w' : World} {d : Nat} {S : List Nat} (h : Bd C w d) (ht : Turns S w w') (hn : C.pb ∉ S) : Bd C w' d := by
  obtain ⟨i, e, a, h1, h2, h3, h4⟩ := h
  exact ⟨i, e, a, h1, h2, h3, ht.heap h4 hn⟩

set_option maxRecDepth 100000 in
set_option maxHeartbeats 4000000 in
theorem rvalue_bad (C : RC) (w : World) (d : Nat) (h : Bd C w d) :
    Calls Tryz.prog 155 #[ptrV C.pb] w fun x w' => x = .returned (.pointer none) ∧ Below w.heap.size w w' := by
  have H := Lib.hid h
  clear h
  go_enter Tryz.func155, Tryz.ntmps155
  go_wp2_with fail
  refine (next_bad C w d H.out).mono ?_
  rintro e w1 ⟨rfl, hb1⟩
  have HB := Lib.hid hb1
  have hB1 := H.out.below hb1
  have HB1 := Lib.hid hB1
  obtain ⟨ii, ee, aa, q1, q2, q3, q4⟩ := hB1
  have e1 : w1.cell? ⟨C.pb, 1, none⟩ = some (.int .i64 ii) := blk_cell q4 1
  clear hb1 q4
  go_wp2_with fail
  refine (rletter_any (-1) (b := false) (by decide) _).mono ?_
  rintro e w2 ⟨rfl, rfl⟩
  go_wp2_with fail
  refine (rdigit_any (-1) (b := false) (by decide) _).mono ?_
  rintro e w2 ⟨rfl, rfl⟩
  go_wp2_with fail
  refine (fail_bad C _ d HB1.out ii 20).mono ?_
  rintro e w2 ⟨rfl, rfl⟩
  go_wp2_with fail
  go_ret
  exact ⟨rfl, HB.out⟩

def adr (q : Nat) : Option Addr := some ⟨q, 0, none⟩

/-- A list or an object under way, its values made. -/
structure BrInv (C : RC) (q base : Nat) (kind : Int) (n : Nat) (ks : List Bytes) (xs : List JV) (w : World) (sv kv : Value) (qs : List Nat) (r : Ro) : Prop where
  at_ : RVAt w q base kind sv kv n (qs.map adr) ks.length ks
  lenq : qs.length = n
  lenx : xs.length = n
  rf : r.from base
  has : Has r w
  off : ∀ g, sv.ownBlock = some g ∨ kv.ownBlock = some g → r g = none
  vals : ∀ (i : Nat) (qx : Nat) (x : JV), qs[i]? = some qx → xs[i]? = some x → IsR r qx x
  pb : C.pb < q

theorem BrInv.turns {C : RC} {q base : Nat} {kind : Int} {n : Nat} {ks : List Bytes} {xs : List JV} {w w' : World} {sv kv : Value} {qs : List Nat} {r : Ro} (h : BrInv C q base kind n ks xs w sv kv qs r) (ht : Turns [C.pb] w w') : BrInv C q base kind n ks xs w' sv kv qs r := by
  have h1 := h.pb
  have h2 := h.at_.q
  exact ⟨h.at_.turns ht (by simp; omega) (by simp; omega), h.lenq, h.lenx, h.rf, h.has.turns ht (fun b hb => by simp at hb; subst hb; exact Ro.from_ne h.rf (by omega)), h.off, h.vals, h.pb⟩

theorem placeK_keyPlace {α : Type} (ms : List (Bytes × α)) (k : Bytes) : placeK (ms.map (·.1)) k = keyPlace ms k := by
  unfold placeK keyPlace
  rw [List.takeWhile_map, List.length_map]; rfl
theorem placeK_le (ks : List Bytes) (k : Bytes) : placeK ks k ≤ ks.length := (List.takeWhile_prefix _).length_le

theorem has_none5 {r : Ro} {w : World} (h : Has r w) {b : Nat} (hb : w.heap.size ≤ b) : r b = none := by
  cases hr : r b with
  | none => rfl
  | some o => have := blk_lt (h b o hr); omega
theorem putAt_map {α β : Type} (f : α → β) (l : List α) (i : Nat) (x : α) : (putAt l i x).map f = putAt (l.map f) i (f x) := by
  unfold putAt
  rw [List.map_append, List.map_cons, List.map_take, List.map_drop]

theorem rvS_lt {w : World} {q base : Nat} {kind : Int} {sv kv : Value} {n : Nat} {vs : List (Option Addr)} {m : Nat} {ks : List Bytes} (h : RVAt w q base kind sv kv n vs m ks) : ∀ b ∈ rvS q sv kv, (b = q ∨ (base ≤ b ∧ (sv.ownBlock = some b ∨ kv.ownBlock = some b))) ∧ b < w.heap.size := by
  intro b hb
  unfold rvS at hb
  rcases List.mem_cons.1 hb with rfl | hb
  · exact ⟨.inl rfl, blk_lt h.blk⟩
  · rcases List.mem_append.1 hb with hb | hb
    · have e : sv.ownBlock = some b := by simpa using hb
      exact ⟨.inr ⟨(h.items.lt b e).1, .inl e⟩, (h.items.lt b e).2⟩
    · have e : kv.ownBlock = some b := by simpa using hb
      exact ⟨.inr ⟨(h.keys.lt b e).1, .inr e⟩, (h.keys.lt b e).2⟩

/-- One member more. -/
theorem br_put {C : RC} {q base n pp : Nat} {kind : Int} {ks : List Bytes} {xs : List JV} {w4 w5 w' : World} {sv kv : Value} {qs : List Nat} {r r1 : Ro} {qv : Nat} {v : JV} {key : Bytes} {g1 c1 g2 c2 : Nat}
    (h : BrInv C q base kind n ks xs w4 sv kv qs r) (hkn : ks.length = n) (ht : Turns [C.pb] w4 w5) (hpp : pp ≤ n) (h1 : r1.from w4.heap.size) (h2 : Has r1 w5) (h3 : IsR r1 qv v)
    (hrow : RVRow w' q base kind g1 c1 g2 c2 (n + 1) (putAt (qs.map adr) pp (adr qv)) (putAt ks pp key)) (hT : Turns (rvS q sv kv) w5 w') (hg1 : kv.ownBlock = some g1 ∨ w5.heap.size ≤ g1) (hg2 : sv.ownBlock = some g2 ∨ w5.heap.size ≤ g2) :
    ∃ sv kv qs r, BrInv C q base kind (n + 1) (putAt ks pp key) (putAt xs pp v) w' sv kv qs r := by
  have h5 := h.turns ht
  have hb4 := rvS_lt h.at_
  have hn1 : ∀ b ∈ rvS q sv kv, r1 b = none := fun b hb => Ro.from_ne h1 (hb4 b hb).2
  have hn0 : ∀ b ∈ rvS q sv kv, r b = none := fun b hb => by
    rcases (hb4 b hb).1 with rfl | ⟨_, e⟩
    · exact Ro.from_ne h.rf h.at_.q
    · exact h.off b e
  have hh0 := h5.has.turns hT hn0
  have hh1 := h2.turns hT hn1
  have hoff : ∀ g, (kv.ownBlock = some g ∨ sv.ownBlock = some g ∨ w5.heap.size ≤ g) → (r.or r1) g = none := fun g hg => by
    unfold Ro.or
    rcases hg with e | e | e
    · rw [h.off g (.inr e), Ro.from_ne h1 (h.at_.keys.lt g e).2]; rfl
    · rw [h.off g (.inl e), Ro.from_ne h1 (h.at_.items.lt g e).2]; rfl
    · rw [has_none5 h5.has e, has_none5 h2 e]; rfl
  have hlk : (putAt ks pp key).length = n + 1 := by rw [length_put _ _ _ (by omega), hkn]
  refine ⟨.slice (some ⟨g2, 0, none⟩) (n + 1) c2, .slice (some ⟨g1, 0, none⟩) (n + 1) c1, putAt qs pp qv, r.or r1, ?_, by rw [length_put _ _ _ (by rw [h.lenq]; exact hpp), h.lenq], by rw [length_put _ _ _ (by rw [h.lenx]; exact hpp), h.lenx], Ro.from_or h.rf (Ro.from_mono h1 h.at_.size), hh0.or hh1, ?_, ?_, h.pb⟩
  · rw [putAt_map, hlk]
    exact hrow.at_
  · intro g hg
    refine hoff g ?_
    rcases hg with e | e
    · cases e
      rcases hg2 with e | e
      · exact .inr (.inl e)
      · exact .inr (.inr e)
    · cases e
      rcases hg1 with e | e
      · exact .inl e
      · exact .inr (.inr e)
  · intro i qx x hqx hx
    rw [putAt_get _ _ _ (by rw [h.lenq]; exact hpp)] at hqx
    rw [putAt_get _ _ _ (by rw [h.lenx]; exact hpp)] at hx
    split at hqx
    · rename_i hi; rw [if_pos hi] at hx
      exact (h.vals _ _ _ hqx hx).mono (Ro.le_left r r1)
    · rename_i hi; rw [if_neg hi] at hx
      split at hqx
      · rename_i hi'; rw [if_pos hi'] at hx
        cases hqx; cases hx
        exact h3.mono (Ro.le_right hh0 hh1)
      · rename_i hi'; rw [if_neg hi'] at hx
        exact (h.vals _ _ _ hqx hx).mono (Ro.le_left r r1)

/-- What a member's reader leaves. -/
def RMemTo (C : RC) (w0 : World) (d q base : Nat) (n : Nat) (o : Option (List (Bytes × JV) × Bytes)) (w' : World) : Prop :=
  Turns [C.pb] w0 w' ∧
  match o with
  | some (ms, t) => ∃ j, Rd C w' j d ∧ C.bs.drop j = t ∧ ∃ sv kv qs r, BrInv C q base 5 (n + 1) (ms.map (·.1)) (ms.map (·.2)) w' sv kv qs r
  | none => Bd C w' d

theorem memberL_q (one : Bytes → Option (JV × Bytes)) (ms : List (Bytes × JV)) (l : Bytes) : memberL one ms l = match qtextL l with
    | none => none
    | some (key, l2) => if keyAt ms (keyPlace ms key) key then none else match mustL l2 with
      | some (58 :: l4) => (match mustL l4 with | none => none | some l5 => match one l5 with | none => none | some (v, l6) => some (putAt ms (keyPlace ms key) (key, v), l6))
      | _ => none := by
  cases l with
  | nil => rfl
  | cons c t =>
    by_cases hc : c = 34
    · subst hc; rfl
    · have h1 : memberL one ms (c :: t) = none := by
        unfold memberL
        split
        · rename_i e; cases e; exact absurd rfl hc
        · rfl
      have h2 : qtextL (c :: t) = none := by
        unfold qtextL
        split
        · rename_i e; cases e; exact absurd rfl hc
        · rfl
      rw [h1, h2]

theorem mustL_skip {l : Bytes} : mustL l = match skipWs l with | [] => none | c :: r => some (c :: r) := rfl

set_option maxRecDepth 100000 in
set_option maxHeartbeats 8000000 in
theorem rmember_any (C : RC) (w0 w : World) (i d : Nat) (h : Rd C w i d) (hT0 : Turns [C.pb] w0 w) (one : Bytes → Option (JV × Bytes)) (hone : one [] = none)
    (IH : ∀ w i, Rd C w i d → Calls Tryz.prog 155 #[ptrV C.pb] w fun x w' => RValOf C w d (one (C.bs.drop i)) x w')
    {q base n : Nat} (hq0 : w0.heap.size ≤ q) (hn : n ≤ 64) (ms : List (Bytes × JV)) {sv kv : Value} {qs : List Nat} {r : Ro} (hI : BrInv C q base 5 n (ms.map (·.1)) (ms.map (·.2)) w sv kv qs r)
    {o : Option (List (Bytes × JV) × Bytes)} (ho : memberL one ms (C.bs.drop i) = o) :
    Calls Tryz.prog 270 #[ptrV C.pb, ptrV q] w fun x w' => x = .returned (.tuple #[]) ∧ RMemTo C w0 d q base n o w' := by
  obtain ⟨ot, hot⟩ : ∃ x, qtextL (C.bs.drop i) = x := ⟨_, rfl⟩
  rw [memberL_q, hot] at ho
  have HTX := Lib.hid (rtext_good C w i d h hot)
  obtain ⟨_, c1, _, _, _⟩ := h.cells
  have HO := Lib.hid ho
  have HI := Lib.hid hI
  have HT0 := Lib.hid hT0
  have HIH := Lib.hid IH
  have hlx : (ms.map (·.1)).length = n := by have := hI.lenx; rw [List.length_map] at this ⊢; exact this
  clear h ho hot hI hT0 IH
  go_enter Tryz.func270, Tryz.ntmps270
  go_wp2_with fail
  refine HTX.out.mono ?_
  rintro e w1 ⟨hT1, hret⟩
  have HT1 := Lib.hid (HT0.out.trans hT1)
  have HI1 := Lib.hid (HI.out.turns hT1)
  cases ot with
  | none =>
    obtain ⟨rfl, hB⟩ := hret
    have hoo : o = none := HO.out.symm
    subst hoo
    have HB := Lib.hid hB
    obtain ⟨ii, ee, aa, q1, q2, q3, q4⟩ := hB
    have e3 : w1.cell? ⟨C.pb, 3, none⟩ = some (.int .i64 ee) := blk_cell q4 3
    have hee : (ee != 0) = true := by simpa using q1
    clear q1 q4 hT1
    go_wp2_with fail
    refine bodyPost_ret (results_none rfl _ _ _) rfl ?_
    exact ⟨rfl, HT1.out, HB.out⟩
  | some p =>
    obtain ⟨key, l2⟩ := p
    obtain ⟨j1, rfl, hR1, hj1⟩ := hret
    have HR1 := Lib.hid hR1
    have HJ1 := Lib.hid hj1
    obtain ⟨_, _, _, d3, _⟩ := hR1.cells
    obtain ⟨sk, hsk⟩ : ∃ x, mkS key = x := ⟨_, rfl⟩
    have hskl : sk.data.toList = key := by rw [← hsk, list_mkS]
    obtain ⟨pp, hpp⟩ : ∃ p, keyPlace ms key = p := ⟨_, rfl⟩
    have hpk : placeK (ms.map (·.1)) sk.data.toList = pp := by rw [hskl, placeK_keyPlace]; exact hpp
    have hpn : pp ≤ n := by rw [← hpk, ← hlx]; exact placeK_le _ _
    have HPL := Lib.hid (rplace_any w1 HI1.out.at_ (by rw [hlx]; omega) sk hpk)
    have ho := HO.out
    dsimp only at ho
    rw [hpp] at ho
    have HO2 := Lib.hid ho
    have HSK := Lib.hid hskl
    have HPP := Lib.hid hpp
    rw [hsk]
    clear hR1 hj1 hsk hskl hpp hpk ho hT1 HO
    go_wp2_with fail
    refine HPL.out.mono ?_
    rintro e w2 ⟨rfl, rfl⟩
    have hb1 := HI1.out.at_.blk
    unfold rvObj at hb1
    have c5 : w1.cell? ⟨q, 5, none⟩ = some kv := blk_cell hb1 5
    obtain ⟨ka, kc, rfl, hkc⟩ := own_slice HI1.out.at_.keys
    rw [hlx] at c5 hkc
    clear hb1 HPL
    -- is the key there?
    have hdup : ∀ b, keyAt ms pp key = b → b = false ∨ (b = true ∧ o = none) := fun b hb => by
      cases b with
      | false => exact .inl rfl
      | true => exact .inr ⟨rfl, by have := HO2.out; rw [hb, if_pos rfl] at this; exact this.symm⟩
    go_upto_region 4 with fail
    go_cut [39] (fun s39 wy => s39 = .bool (keyAt ms pp key) ∧ wy = w1)
    case first =>
      by_cases hlt : pp < n
      · have hlti : (pp : Int) < n := by omega
        obtain ⟨m, hm⟩ : ∃ m, ms[pp]? = some m := ⟨_, List.getElem?_eq_getElem (by rw [List.length_map] at hlx; omega)⟩
        obtain ⟨g, cap, cur, hsv, _⟩ := own_form HI1.out.at_.keys (by omega)
        rw [hlx] at hsv
        cases hsv
        have hc := (own_cell (by have := HI1.out.at_.keys; rw [hlx] at this; exact this) (j := pp) (u := .string (mkS m.1)) (by rw [List.getElem?_map, List.getElem?_map, hm]; rfl)).1
        obtain ⟨sm, hsm⟩ : ∃ x, mkS m.1 = x := ⟨_, rfl⟩
        rw [hsm] at hc
        have hka : keyAt ms pp key = (sm.toList == sk.toList) := by
          unfold keyAt
          rw [hm, ← hsm, Lib.toList_data, Lib.toList_data, HSK.out]
        have HKA := Lib.hid hka
        clear hka hsm hm
        go_wp2_with fail
        go_meet
        exact ⟨by rw [HKA.out], rfl⟩
      · have hpe : (n : Int) ≤ pp := by omega
        have hka : keyAt ms pp key = false := by
          unfold keyAt
          rw [List.getElem?_eq_none (by rw [List.length_map] at hlx; omega)]
        have HKA := Lib.hid hka
        clear hka
        go_wp2_with fail
        go_meet
        exact ⟨by rw [HKA.out], rfl⟩
    case rest =>
      obtain ⟨rfl, hw⟩ := hcut
      subst hw
      obtain ⟨b, hb⟩ : ∃ b, keyAt ms pp key = b := ⟨_, rfl⟩
      rw [hb]
      rcases hdup b hb with rfl | ⟨rfl, rfl⟩
      · have ho := HO2.out
        rw [hb, if_neg (by decide)] at ho
        have HO3 := Lib.hid ho
        have HKA := Lib.hid hb
        clear hdup ho hb c5 hkc
        go_wp2_with fail
        refine (rblanks_good C wc j1 d HR1.out).mono ?_
        rintro e w2 ⟨rfl, j2, hR2, hj2, _, hT2⟩
        have HR2 := Lib.hid hR2
        have HJ2 := Lib.hid hj2
        have HT2 := Lib.hid (HT1.out.trans hT2)
        have HI2 := Lib.hid (HI1.out.turns hT2)
        clear hR2 hj2 hT2
        go_wp2_with fail
        refine (rmust_good C w2 j2 d HR2.out 58).mono ?_
        rintro e w3 ⟨rfl, hT3, hm3⟩
        have HT3 := Lib.hid (HT2.out.trans hT3)
        have HI3 := Lib.hid (HI2.out.turns hT3)
        clear hT3
        have hk3 : (ms.map (·.1)).length = n := hlx
        by_cases h58 : C.bs[j2]? = some 58
        · rw [if_pos h58] at hm3
          have HR3 := Lib.hid hm3
          have hdk : C.bs.drop j2 = 58 :: C.bs.drop (j2 + 1) := by
            obtain ⟨l0, e0⟩ := List.getElem?_eq_some_iff.1 h58
            rw [List.drop_eq_getElem_cons l0, e0]
          have hml : mustL l2 = some (58 :: C.bs.drop (j2 + 1)) := by
            rw [mustL_skip, ← HJ1.out, ← HJ2.out, hdk]
          have ho := HO3.out
          rw [hml] at ho
          have HO4 := Lib.hid ho
          clear hm3 h58 hdk hml ho
          go_wp2_with fail
          refine (rblanks_good C w3 (j2 + 1) d HR3.out).mono ?_
          rintro e w4 ⟨rfl, j4, hR4, hj4, _, hT4⟩
          have HR4 := Lib.hid hR4
          have HT4 := Lib.hid (HT3.out.trans hT4)
          have HI4 := Lib.hid (HI3.out.turns hT4)
          have ho5 : o = match one (C.bs.drop j4) with | none => none | some (v, l6) => some (putAt ms pp (key, v), l6) := by
            rw [← HO4.out, mustL_skip, ← hj4]
            cases hd : C.bs.drop j4 with
            | nil => rw [hone]
            | cons c t => rfl
          obtain ⟨ov, hov⟩ : ∃ x, one (C.bs.drop j4) = x := ⟨_, rfl⟩
          rw [hov] at ho5
          have HV := Lib.hid (HIH.out w4 j4 hR4)
          rw [hov] at HV
          have HO5 := Lib.hid ho5
          clear hR4 hj4 hT4 ho5 hov
          go_wp2_with fail
          refine HV.out.mono ?_
          rintro e w5 ⟨hT5, hret⟩
          have HT5 := Lib.hid (HT4.out.trans hT5)
          have HI5 := Lib.hid (HI4.out.turns hT5)
          have HT45 := Lib.hid hT5
          clear hT5
          have hS5 := rvS_lt HI5.out.at_
          have hpbn : C.pb ∉ rvS q sv (.slice ka (ms.map (·.1)).length kc) := fun hm => by
            have h1 := (hS5 _ hm).1
            have h2 := HI5.out.pb
            have h3 := HI5.out.at_.q
            rcases h1 with h | ⟨h, _⟩ <;> omega
          have hS0 : ∀ b ∈ rvS q sv (.slice ka (ms.map (·.1)).length kc), b ∈ [C.pb] ∨ w0.heap.size ≤ b := fun b hm => by
            have h1 := (hS5 _ hm).1
            have h3 := HI5.out.at_.q
            rcases h1 with h | ⟨h, _⟩
            · exact .inr (by omega)
            · exact .inr (by omega)
          have HPB := Lib.hid (And.intro hpbn hS0)
          clear hpbn hS0 hS5
          have hat5 := HI5.out.at_
          rw [hlx] at hat5 HPB
          cases ov with
          | none =>
            obtain ⟨pv, rfl, hB⟩ := hret
            have hoo : o = none := HO5.out
            subst hoo
            have HB := Lib.hid hB
            have HPUT := Lib.hid (rput_any w5 hat5 (by omega) pp hpn sk pv)
            clear hB hat5
            go_wp2_with fail
            refine HPUT.out.mono ?_
            rintro e w6 ⟨rfl, g1, c1, g2, c2, hrow, hT6, _, _⟩
            have HT6 := Lib.hid (HT5.out.extend hT6 HPB.out.2)
            have HB6 := Lib.hid (HB.out.turns hT6 HPB.out.1)
            clear hrow hT6
            go_wp2_with fail
            go_end0
            exact ⟨rfl, HT6.out, HB6.out⟩
          | some pr =>
            obtain ⟨v, l6⟩ := pr
            obtain ⟨j5, qv, rfl, hR5, hj5, r1, hrf1, hrh1, hrv1⟩ := hret
            have hoo : o = some (putAt ms pp (key, v), l6) := HO5.out
            subst hoo
            have HR5 := Lib.hid hR5
            have HJ5 := Lib.hid hj5
            have HMR := Lib.hid (And.intro hrf1 (And.intro hrh1 hrv1))
            have HPUT := Lib.hid (rput_any w5 hat5 (by omega) pp hpn sk (adr qv))
            clear hR5 hj5 hrf1 hrh1 hrv1 hat5
            go_wp2_with fail
            refine HPUT.out.mono ?_
            rintro e w6 ⟨rfl, g1, c1, g2, c2, hrow, hT6, hg1, hg2⟩
            have HT6 := Lib.hid (HT5.out.extend hT6 HPB.out.2)
            have HR6 := Lib.hid (HR5.out.turns hT6 HPB.out.1)
            rw [HSK.out] at hrow
            have hbr := br_put (key := key) (v := v) HI4.out hlx HT45.out hpn HMR.out.1 HMR.out.2.1 HMR.out.2.2 hrow (by rw [hlx]; exact hT6) (by rw [hlx]; exact hg1) hg2
            have HBR := Lib.hid hbr
            clear hrow hT6 hg1 hg2 hbr
            go_wp2_with fail
            go_end0
            refine ⟨rfl, HT6.out, j5, HR6.out, HJ5.out, ?_⟩
            rw [putAt_map, putAt_map]
            exact HBR.out
        · rw [if_neg h58] at hm3
          have HB3 := Lib.hid hm3
          have hoo : o = none := by
            rw [← HO3.out, mustL_skip, ← HJ1.out, ← HJ2.out]
            cases hd : C.bs.drop j2 with
            | nil => rfl
            | cons c t =>
              have hc : C.bs[j2]? = some c := by
                have := List.getElem?_drop (xs := C.bs) (i := j2) (j := 0)
                rw [hd] at this; simpa using this.symm
              dsimp only
              split
              · rename_i l4 e
                have e2 := Option.some.inj e
                exfalso; exact h58 (by rw [hc, (List.cons.inj e2).1])
              · rfl
          subst hoo
          clear hm3 h58
          go_wp2_with fail
          refine (rblanks_bad C w3 d HB3.out).mono ?_
          rintro e w4 ⟨rfl, hb4⟩
          have HT4 := Lib.hid (HT3.out.trans (Turns.below hb4))
          have HI4 := Lib.hid (HI3.out.turns (Turns.below hb4))
          have HB4 := Lib.hid (HB3.out.below hb4)
          clear hb4
          go_wp2_with fail
          refine (rvalue_bad C w4 d HB4.out).mono ?_
          rintro e w5 ⟨rfl, hb5⟩
          have HT5 := Lib.hid (HT4.out.trans (Turns.below hb5))
          have HI5 := Lib.hid (HI4.out.turns (Turns.below hb5))
          have HB := Lib.hid (HB4.out.below hb5)
          clear hb5
          have hS5 := rvS_lt HI5.out.at_
          have hpbn : C.pb ∉ rvS q sv (.slice ka (ms.map (·.1)).length kc) := fun hm => by
            have h1 := (hS5 _ hm).1
            have h2 := HI5.out.pb
            have h3 := HI5.out.at_.q
            rcases h1 with h | ⟨h, _⟩ <;> omega
          have hS0 : ∀ b ∈ rvS q sv (.slice ka (ms.map (·.1)).length kc), b ∈ [C.pb] ∨ w0.heap.size ≤ b := fun b hm => by
            have h1 := (hS5 _ hm).1
            have h3 := HI5.out.at_.q
            rcases h1 with h | ⟨h, _⟩
            · exact .inr (by omega)
            · exact .inr (by omega)
          have HPB := Lib.hid (And.intro hpbn hS0)
          clear hpbn hS0 hS5
          have hat5 := HI5.out.at_
          rw [hlx] at hat5 HPB
          have HPUT := Lib.hid (rput_any w5 hat5 (by omega) pp hpn sk none)
          clear hat5
          go_wp2_with fail
          refine HPUT.out.mono ?_
          rintro e w6 ⟨rfl, g1, c1, g2, c2, hrow, hT6, _, _⟩
          have HT6 := Lib.hid (HT5.out.extend hT6 HPB.out.2)
          have HB6 := Lib.hid (HB.out.turns hT6 HPB.out.1)
          clear hrow hT6
          go_wp2_with fail
          go_end0
          exact ⟨rfl, HT6.out, HB6.out⟩
      · clear hdup
        go_wp2_with fail
        refine (fail_good C _ j1 d HR1.out i 24 (by decide)).mono ?_
        rintro e w4 ⟨rfl, hB, hT⟩
        have HT3 := Lib.hid (HT1.out.trans hT)
        have HB3 := Lib.hid hB
        clear hB hT
        go_wp2_with fail
        refine bodyPost_ret (results_none rfl _ _ _) rfl ?_
        exact ⟨rfl, HT3.out, HB3.out⟩

end Toc

namespace Toc
open Go Go.RowKit Go.Proofs

set_option maxRecDepth 100000 in
set_option maxHeartbeats 4000000 in
theorem rtext_bad (C : RC) (w : World) (d : Nat) (h : Bd C w d) :
    Calls Tryz.prog 222 #[ptrV C.pb] w fun x w' => x = .returned (.string emptyS) ∧ Below w.heap.size w w' := by
  have HM := Lib.hid (rmust_bad C w d h 34)
  have H := Lib.hid h
  clear h
  go_enter Tryz.func222, Tryz.ntmps222
  go_wp2_with fail
  refine HM.out.mono ?_
  rintro e w1 ⟨rfl, hb1⟩
  have HB1 := Lib.hid hb1
  have hB1 := H.out.below hb1
  have HBd := Lib.hid hB1
  clear hb1 hB1
  go_wp2_with fail
  go_loopw [3] (fun s3 wr => wr = w1) (fun _ _ => 0)
  case atStart => rfl
  case round =>
    subst hrel
    obtain ⟨ii, ee, aa, q1, q2, q3, q4⟩ := HBd.out
    have c3 : wr.cell? ⟨C.pb, 3, none⟩ = some (.int .i64 ee) := blk_cell q4 3
    have hee : (ee == 0) = false := by simpa using q1
    clear q4 q1
    go_wp2_with fail
    go_ret
    exact ⟨rfl, HB1.out⟩

set_option maxRecDepth 100000 in
set_option maxHeartbeats 4000000 in
theorem rmember_bad (C : RC) (w : World) (d : Nat) (h : Bd C w d) (q : Nat) :
    Calls Tryz.prog 270 #[ptrV C.pb, ptrV q] w fun x w' => x = .returned (.tuple #[]) ∧ Below w.heap.size w w' := by
  have HX := Lib.hid (rtext_bad C w d h)
  have H := Lib.hid h
  obtain ⟨ii, ee, aa, q1, q2, q3, q4⟩ := h
  have c1 : w.cell? ⟨C.pb, 1, none⟩ = some (.int .i64 ii) := blk_cell q4 1
  clear q4
  go_enter Tryz.func270, Tryz.ntmps270
  go_wp2_with fail
  refine HX.out.mono ?_
  rintro e w1 ⟨rfl, hb1⟩
  have HB1 := Lib.hid hb1
  obtain ⟨ii', ee', aa', p1, p2, p3, p4⟩ := H.out.below hb1
  have e3 : w1.cell? ⟨C.pb, 3, none⟩ = some (.int .i64 ee') := blk_cell p4 3
  have hee : (ee' != 0) = true := by simpa using p1
  clear hb1 p1 p4
  go_wp2_with fail
  refine bodyPost_ret (results_none rfl _ _ _) rfl ?_
  exact ⟨rfl, HB1.out⟩

end Toc

namespace Toc
open Go Go.RowKit Go.Proofs

theorem skip_skip (l : Bytes) : skipWs (skipWs l) = skipWs l := by
  unfold skipWs
  induction l with
  | nil => rfl
  | cons c l ih =>
    rw [List.dropWhile_cons]
    split
    · exact ih
    · rename_i h
      rw [List.dropWhile_cons, if_neg h]
theorem mustL_skipWs (l : Bytes) : mustL (skipWs l) = mustL l := by
  rw [mustL_skip, mustL_skip, skip_skip]
theorem rowL_skipWs {σ : Type} (one : σ → Bytes → Option (σ × Bytes)) (close : UInt8) (m : Nat) (s : σ) (l : Bytes) : rowL one close m s (skipWs l) = rowL one close m s l := by
  cases m with
  | zero => rfl
  | succ m => rw [rowL, rowL, mustL_skipWs]
/-- One round more. -/
theorem rowL_round {σ : Type} {one : σ → Bytes → Option (σ × Bytes)} {close : UInt8} {m : Nat} {s : σ} {l : Bytes} (h0 : ∀ s, one s [] = none) : rowL one close (m + 1) s l = match one s (skipWs l) with
    | none => none
    | some (s', l2) => match skipWs l2 with | [] => none | c :: l4 => if c == close then some (s', l4) else if c == 44 then rowL one close m s' l4 else none := by
  rw [rowL, mustL_skip]
  cases hs : skipWs l with
  | nil => rw [h0]
  | cons c r =>
    dsimp only
    cases one s (c :: r) with
    | none => rfl
    | some p =>
      obtain ⟨s', l2⟩ := p
      dsimp only
      rw [mustL_skip]
      cases skipWs l2 <;> rfl
theorem rowTop_eq {σ : Type} {one : σ → Bytes → Option (σ × Bytes)} {close : UInt8} {s : σ} {l : Bytes} : rowTop one close s l = match skipWs l with | [] => none | c :: l2 => if c == close then some (s, l2) else rowL one close 64 s (skipWs l) := by
  unfold rowTop
  rw [mustL_skip, rowL_skipWs]
  cases skipWs l <;> rfl
theorem drop_skip {C : RC} {j k : Nat} (h : C.bs.drop k = skipWs (C.bs.drop j)) : (match skipWs (C.bs.drop j) with | [] => C.bs[k]? = none | c :: r => C.bs[k]? = some c ∧ r = C.bs.drop (k + 1)) := by
  rw [← h]
  cases hd : C.bs.drop k with
  | nil =>
    have := List.getElem?_drop (xs := C.bs) (i := k) (j := 0)
    rw [hd] at this; simpa using this.symm
  | cons c r =>
    have h1 := List.getElem?_drop (xs := C.bs) (i := k) (j := 0)
    rw [hd] at h1
    have h2 : C.bs[k]? = some c := by simpa using h1.symm
    refine ⟨h2, ?_⟩
    obtain ⟨l0, e0⟩ := List.getElem?_eq_some_iff.1 h2
    rw [List.drop_eq_getElem_cons l0] at hd
    exact (List.cons.inj hd).2.symm

/-- How much there is to read yet in a bracket (for its loop's measure). -/
def brM (C : RC) (q : Nat) (w : World) : Nat := match w.heap[C.pb]?, w.heap[q]? with
  | some (.cells c _ _), some (.cells v _ _) => (if RowKit.intOf (c.getD 3 undef) = 0 then (match v.getD 4 undef with | .slice _ n _ => 66 - n | _ => 0) else 0)
  | _, _ => 0
theorem brM_bad {C : RC} {q : Nat} {w : World} {d : Nat} (h : Bd C w d) : brM C q w = 0 := by
  obtain ⟨i, e, a, h1, _, _, h4⟩ := h
  unfold brM
  rw [h4]
  cases w.heap[q]? with
  | none => rfl
  | some o => cases o <;> simp [rdObj, RowKit.intOf, h1]
theorem brM_good {C : RC} {q base n : Nat} {kind : Int} {w : World} {i d : Nat} (h : Rd C w i d) {ks : List Bytes} {xs : List JV} {sv kv : Value} {qs : List Nat} {r : Ro} (hI : BrInv C q base kind n ks xs w sv kv qs r) : brM C q w = 66 - n := by
  obtain ⟨a, c, rfl, _⟩ := own_slice hI.at_.items
  unfold brM
  rw [h.blk, hI.at_.blk]
  simp [rdObj, rvObj, RowKit.intOf]
theorem br_start {C : RC} {q : Nat} {kind : Int} {w : World} (hb : w.heap[q]? = some (rvObj kind false 0 emptyS nilS nilS)) (hpb : C.pb < q) : BrInv C q (q + 1) kind 0 [] [] w nilS nilS [] (fun _ => none) :=
  ⟨⟨hb, World.ownsRow_nil _ _ _ _, World.ownsRow_nil _ _ _ _, Nat.lt_succ_self _, blk_lt hb⟩, rfl, rfl, (fun b o h => by cases h), (fun b o h => by cases h), (fun g h => by rcases h with h | h <;> cases h), (fun i qx x h => by simp at h), hpb⟩
/-- One item more. -/
theorem br_push {C : RC} {q base n : Nat} {kind : Int} {xs : List JV} {w4 w5 w' : World} {sv : Value} {qs : List Nat} {r r1 : Ro} {qv : Nat} {v : JV} {g2 c2 : Nat}
    (h : BrInv C q base kind n [] xs w4 sv nilS qs r) (ht : Turns [C.pb] w4 w5) (h1 : r1.from w4.heap.size) (h2 : Has r1 w5) (h3 : IsR r1 qv v)
    (hrow : RVAt w' q base kind (.slice (some ⟨g2, 0, none⟩) (n + 1) c2) nilS (n + 1) (qs.map adr ++ [adr qv]) 0 []) (hT : Turns (rvS q sv nilS) w5 w') (hg2 : sv.ownBlock = some g2 ∨ w5.heap.size ≤ g2) :
    ∃ sv qs r, BrInv C q base kind (n + 1) [] (xs ++ [v]) w' sv nilS qs r := by
  have h5 := h.turns ht
  have hb4 := rvS_lt h.at_
  have hn1 : ∀ b ∈ rvS q sv nilS, r1 b = none := fun b hb => Ro.from_ne h1 (hb4 b hb).2
  have hn0 : ∀ b ∈ rvS q sv nilS, r b = none := fun b hb => by
    rcases (hb4 b hb).1 with rfl | ⟨_, e⟩
    · exact Ro.from_ne h.rf h.at_.q
    · exact h.off b e
  have hh0 := h5.has.turns hT hn0
  have hh1 := h2.turns hT hn1
  refine ⟨.slice (some ⟨g2, 0, none⟩) (n + 1) c2, qs ++ [qv], r.or r1, ?_, by rw [List.length_append, h.lenq]; rfl, by rw [List.length_append, h.lenx]; rfl, Ro.from_or h.rf (Ro.from_mono h1 h.at_.size), hh0.or hh1, ?_, ?_, h.pb⟩
  · rw [List.map_append]; exact hrow
  · intro g hg
    rcases hg with e | e
    · cases e
      unfold Ro.or
      rcases hg2 with e | e
      · rw [h.off g2 (.inl e), Ro.from_ne h1 (h.at_.items.lt g2 e).2]; rfl
      · rw [has_none5 h5.has e, has_none5 h2 e]; rfl
    · cases e
  · intro i qx x hqx hx
    have hlq := h.lenq
    have hlx := h.lenx
    by_cases hi : i < n
    · rw [List.getElem?_append_left (by omega)] at hqx hx
      exact (h.vals _ _ _ hqx hx).mono (Ro.le_left r r1)
    · have hi2 : i = n := by
        have := (List.getElem?_eq_some_iff.1 hqx).1
        rw [List.length_append, hlq] at this
        simp only [List.length_singleton] at this; omega
      subst hi2
      rw [List.getElem?_append_right (by omega), hlq] at hqx
      rw [List.getElem?_append_right (by omega), hlx] at hx
      simp only [Nat.sub_self, List.getElem?_cons_zero] at hqx hx
      cases hqx; cases hx
      exact h3.mono (Ro.le_right hh0 hh1)
/-- A row of a round's item. -/
theorem row_item {σ : Type} {C : RC} {one : σ → Bytes → Option (σ × Bytes)} {close : UInt8} {k j j1 : Nat} {s : σ} {o : Option (σ × Bytes)} (h0 : ∀ s, one s [] = none) (hk : k ≤ 64) (h : rowL one close (64 - k) s (C.bs.drop j) = o) (hj : C.bs.drop j1 = skipWs (C.bs.drop j)) :
    (k < 64 → o = match one s (C.bs.drop j1) with
    | none => none
    | some (s', l2) => match skipWs l2 with | [] => none | c :: l4 => if c == close then some (s', l4) else if c == 44 then rowL one close (64 - (k + 1)) s' l4 else none) ∧ (k = 64 → o = none) := by
  refine ⟨fun hk => ?_, fun hk => ?_⟩
  · rw [← h, show 64 - k = (64 - (k + 1)) + 1 by omega, rowL_round h0, hj]
  · subst hk; rw [← h]; rfl
/-- What stands after an item. -/
theorem row_after {σ : Type} {C : RC} {one : σ → Bytes → Option (σ × Bytes)} {close : UInt8} {m j6 : Nat} {s' : σ} {l2 : Bytes} {o : Option (σ × Bytes)}
    (ho : o = match skipWs l2 with | [] => none | c :: l4 => if c == close then some (s', l4) else if c == 44 then rowL one close m s' l4 else none) (hj : C.bs.drop j6 = skipWs l2) :
    (C.bs[j6]? = none → o = none) ∧ (∀ c, C.bs[j6]? = some c → (c = close → o = some (s', C.bs.drop (j6 + 1))) ∧ (c ≠ close → (c = 44 → rowL one close m s' (C.bs.drop (j6 + 1)) = o) ∧ (c ≠ 44 → o = none))) := by
  rw [← hj] at ho
  refine ⟨fun h => ?_, fun c h => ?_⟩
  · rw [List.drop_eq_nil_of_le (List.getElem?_eq_none_iff.1 h)] at ho; exact ho
  · obtain ⟨l0, e0⟩ := List.getElem?_eq_some_iff.1 h
    rw [List.drop_eq_getElem_cons l0, e0] at ho
    dsimp only at ho
    refine ⟨fun hc => by rw [ho, if_pos (by simpa using hc)], fun hc => ⟨fun h4 => ?_, fun h4 => ?_⟩⟩
    · rw [ho, if_neg (by simpa using hc), if_pos (by simpa using h4)]
    · rw [ho, if_neg (by simpa using hc), if_neg (by simpa using h4)]
/-- What stands at a bracket's begin. -/
theorem row_begin {σ : Type} {C : RC} {one : σ → Bytes → Option (σ × Bytes)} {close : UInt8} {j j2 : Nat} {s : σ} {o : Option (σ × Bytes)} (ho : rowTop one close s (C.bs.drop j) = o) (hj : C.bs.drop j2 = skipWs (C.bs.drop j)) (_h0 : ∀ s, one s [] = none) :
    (C.bs[j2]? = none → rowL one close 64 s (C.bs.drop j2) = o) ∧ (∀ c, C.bs[j2]? = some c → (c = close → o = some (s, C.bs.drop (j2 + 1))) ∧ (c ≠ close → rowL one close 64 s (C.bs.drop j2) = o)) := by
  rw [rowTop_eq, ← hj] at ho
  refine ⟨fun h => ?_, fun c h => ?_⟩
  · rw [List.drop_eq_nil_of_le (List.getElem?_eq_none_iff.1 h)] at ho ⊢; rw [← ho]; rfl
  · obtain ⟨l0, e0⟩ := List.getElem?_eq_some_iff.1 h
    have hd : C.bs.drop j2 = c :: C.bs.drop (j2 + 1) := by rw [List.drop_eq_getElem_cons l0, e0]
    rw [hd] at ho ⊢
    dsimp only at ho
    refine ⟨fun hc => by rw [← ho, if_pos (by simpa using hc)], fun hc => by rw [← ho, if_neg (by simpa using hc)]⟩

theorem br_made_list {C : RC} {q lo n : Nat} {xs : List JV} {w : World} {sv kv : Value} {qs : List Nat} {r : Ro} (h : BrInv C q (q + 1) 4 n [] xs w sv kv qs r) (hkv : kv = nilS) (hlo : lo ≤ q) : MadeR lo w q (.list xs) := by
  obtain ⟨r2, g1, g2, g3⟩ := row_of_own h.at_.items
  subst hkv
  have hh := (Has.one h.at_.blk).or (h.has.or g2)
  refine ⟨_, Ro.from_or (Ro.from_one hlo _) (Ro.from_or (Ro.from_mono h.rf (by omega)) (Ro.from_mono g1 (by omega))), hh, ?_⟩
  refine .list (Ro.le_left _ _ _ _ (Ro.one_self _ _)) (qs := qs) ?_ (by rw [h.lenq, h.lenx]) (fun i hi hi' => ?_)
  · rw [h.lenx]
    have := g3.mono (Ro.le_trans (Ro.le_right h.has g2) (Ro.le_right (Has.one h.at_.blk) (h.has.or g2)))
    rw [List.map_map] at this
    exact this
  · exact (h.vals i _ _ (List.getElem?_eq_getElem hi) (List.getElem?_eq_getElem hi')).mono (Ro.le_trans (Ro.le_left r r2) (Ro.le_right (Has.one h.at_.blk) (h.has.or g2)))
theorem br_made_obj {C : RC} {q lo n : Nat} {ms : List (Bytes × JV)} {w : World} {sv kv : Value} {qs : List Nat} {r : Ro} (h : BrInv C q (q + 1) 5 n (ms.map (·.1)) (ms.map (·.2)) w sv kv qs r) (hlo : lo ≤ q) : MadeR lo w q (.obj ms) := by
  obtain ⟨r2, g1, g2, g3⟩ := row_of_own h.at_.items
  obtain ⟨r3, k1, k2, k3⟩ := row_of_own h.at_.keys
  have hx := (h.has.or g2).or k2
  have hh := (Has.one h.at_.blk).or hx
  have hn : ms.length = n := by have := h.lenx; rwa [List.length_map] at this
  refine ⟨_, Ro.from_or (Ro.from_one hlo _) (Ro.from_or (Ro.from_or (Ro.from_mono h.rf (by omega)) (Ro.from_mono g1 (by omega))) (Ro.from_mono k1 (by omega))), hh, ?_⟩
  refine .obj (Ro.le_left _ _ _ _ (Ro.one_self _ _)) (qs := qs) ?_ ?_ (by rw [h.lenq, hn]) (fun i hi hi' => ?_)
  · rw [hn]
    have := g3.mono (Ro.le_trans (Ro.le_right h.has g2) (Ro.le_trans (Ro.le_left _ r3) (Ro.le_right (Has.one h.at_.blk) hx)))
    rw [List.map_map] at this
    exact this
  · have := k3.mono (Ro.le_trans (Ro.le_right (h.has.or g2) k2) (Ro.le_right (Has.one h.at_.blk) hx))
    rw [List.map_map, List.length_map] at this
    exact this
  · have h1 := h.vals i _ (ms[i]'hi').2 (List.getElem?_eq_getElem hi) (by rw [List.getElem?_map, List.getElem?_eq_getElem hi']; rfl)
    exact h1.mono (Ro.le_trans (Ro.le_left r r2) (Ro.le_trans (Ro.le_left _ r3) (Ro.le_right (Has.one h.at_.blk) hx)))

end Toc
