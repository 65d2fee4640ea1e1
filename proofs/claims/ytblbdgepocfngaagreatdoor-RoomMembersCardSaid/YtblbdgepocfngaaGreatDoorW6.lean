/-
  Insert: slices.Insert of one element of two cells into a row of the call's own: its three roads.
  Search: The search of a key among rising members.
  MapL: Finite maps keyed by texts, as lists by rising keys: looking up, putting; plain lemmas. No program in sight; no condition.
  Maps: Maps keyed by texts in memory: what they read as, and the runs of the operations on them. No condition.
-/
import Derived.Test.YtblbdgepocfngaaGreatDoorW5
import Derived.Laws.CopyRow
import Derived.Lib.Overlaps
import Derived.Lib.AppendZerosOnto
import Derived.Shelf.Spec.SlicesInsert
import Derived.Maps.RangeRun
namespace Toc
open Go Go.RowKit Go.Proofs

theorem copy_two {P : Program} (w : World) (dT sT ty elem : TypeId) (g o dLen dCap : Nat) (a : Addr) (sLen sCap : Nat) (cur : Array Value) (t : TypeId) (cs : List Value)
    (hu : P.underlying dT = some (.slice elem)) (hs : (P.info? elem).map (·.size) = some 2)
    (hg : w.heap[g]? = some (.cells cur t (0, 0))) (hn : cs.length = Nat.min sLen dLen * 2)
    (hsrc : ∀ j v, cs[j]? = some v → w.cell? (a.add j) = some v) (hfit : o + cs.length ≤ cur.size) (h1 : ∀ v ∈ cs, v.oneCell' = true) :
    (Builtin.copy_ #[dT, sT] ty #[.slice (some ⟨g, o, none⟩) dLen dCap, .slice (some a) sLen sCap]).run P w =
      .ok (goInt (Nat.min sLen dLen)) (w.setRow g (cur.toList.take o ++ cs ++ cur.toList.drop (o + cs.length)).toArray) := by
  have hl := run_loadCells_list (P := P) w a cs hsrc
  have hst := run_storeCells_at P g o t cs 0 cur w hg (by simpa using hfit) h1
  cases hq : P.info? elem with
  | none => simp [hq] at hs
  | some i =>
    have hi : i.size = 2 := by simpa [hq] using hs
    rw [hn] at hl
    simp [Builtin.copy_, run_underlying hu, Builtin.lenOf, Builtin.firstCells, Go.sizeOf, typeInfo, hq, hi, hl, hst]

/-- What the two copies leave. -/
theorem shift_list {α : Type} (l xs : List α) (a b : α) (i n : Nat) (hin : i ≤ n) (hl : 2 * n + 2 ≤ l.length) (hx : l.take (n * 2) = xs) :
    let A := l.take (2 * (i + 1)) ++ xs.drop (2 * i) ++ l.drop (2 * (i + 1) + (xs.drop (2 * i)).length)
    (A.take (2 * i) ++ [a, b] ++ A.drop (2 * i + 2)).take ((n + 1) * 2) = xs.take (2 * i) ++ [a, b] ++ xs.drop (2 * i) ∧ (A.take (2 * i) ++ [a, b] ++ A.drop (2 * i + 2)).length = l.length ∧ A.length = l.length := by
  have hxl : xs.length = n * 2 := by rw [← hx, List.length_take]; omega
  intro A
  have hA : A.length = l.length := by
    show (l.take (2 * (i + 1)) ++ xs.drop (2 * i) ++ l.drop (2 * (i + 1) + (xs.drop (2 * i)).length)).length = _
    simp only [List.length_append, List.length_take, List.length_drop, hxl]; omega
  have h1 : A.take (2 * i) = xs.take (2 * i) := by
    show (l.take (2 * (i + 1)) ++ xs.drop (2 * i) ++ l.drop (2 * (i + 1) + (xs.drop (2 * i)).length)).take (2 * i) = _
    rw [List.append_assoc, List.take_append_of_le_length (by rw [List.length_take]; omega), List.take_take, ← hx, List.take_take]
    congr 1; omega
  have h2 : A.drop (2 * i + 2) = xs.drop (2 * i) ++ l.drop (2 * (i + 1) + (xs.drop (2 * i)).length) := by
    show (l.take (2 * (i + 1)) ++ xs.drop (2 * i) ++ l.drop (2 * (i + 1) + (xs.drop (2 * i)).length)).drop (2 * i + 2) = _
    rw [List.append_assoc]
    have e : (l.take (2 * (i + 1))).length = 2 * i + 2 := by rw [List.length_take]; omega
    rw [List.drop_append_of_le_length (by omega), ← e, List.drop_length, List.nil_append]
  refine ⟨?_, ?_, hA⟩
  · rw [h1, h2]
    have e : (n + 1) * 2 = (xs.take (2 * i) ++ [a, b] ++ xs.drop (2 * i)).length := by
      simp only [List.length_append, List.length_take, List.length_drop, List.length_cons, List.length_nil, hxl]; omega
    rw [← List.append_assoc, e, List.take_append_of_le_length (Nat.le_refl _), List.take_length]
  · simp only [List.length_append, List.length_take, List.length_drop, List.length_cons, List.length_nil, hA]; omega

def InsRet (base : Nat) (sv : Value) (n i : Nat) (xs : List Value) (a b : Value) (w : World) (e : Ending) (w' : World) : Prop :=
  ∃ g cap, e = .returned (.slice (some ⟨g, 0, none⟩) (n + 1) cap) ∧ w'.ownsRow base 119 2 (.slice (some ⟨g, 0, none⟩) (n + 1) cap) (n + 1) (xs.take (2 * i) ++ [a, b] ++ xs.drop (2 * i)) ∧
    w.grownBy w' sv.ownBlock ∧ (sv.ownBlock = some g ∨ w.heap.size ≤ g)

set_option maxRecDepth 100000 in
set_option maxHeartbeats 4000000 in
theorem insert_end (w : World) (base vb : Nat) (sv : Value) (n : Nat) (xs : List Value) (k : ByteArray) (qv : Nat) (hn : n ≤ 64) (hown : w.ownsRow base 119 2 sv n xs) (hbase : base ≤ w.heap.size)
    (hv : w.heap[vb]? = some (.cells #[.string k, ptrV qv] 119 (0, 0))) :
    Calls Tryz.prog 209 #[sv, .int .i64 n, .slice (some ⟨vb, 0, none⟩) 1 1] w fun e w' => InsRet base sv n n xs (.string k) (ptrV qv) w e w' := by
  obtain ⟨i0, hi5, hz0, hz1, hz2⟩ := info_parts (show (Tryz.prog.info? 119).map (fun i => (i.zero, i.size, i.bytes)) = some (some (.agg #[.string ⟨#[]⟩, .pointer none]), 2, 24) by kernel_rfl)
  have hxl := hown.1
  have HW := Lib.hid hown
  have hlen : ∃ a c, sv = .slice a n c ∧ n ≤ c := by
    rcases hown.2 with ⟨h, h0⟩ | ⟨g, cap, cur, h, _, _, hc, _⟩
    · exact ⟨none, 0, by rw [h, h0], by omega⟩
    · exact ⟨_, cap, h, hc⟩
  obtain ⟨a, c, rfl, hnc⟩ := hlen
  clear hown
  go_enter Tryz.func209, Tryz.ntmps209
  go_wp2_with (at_builtin; refine wpList_append_lies _ rfl _ _ 115 rfl base 119 i0 (.agg #[.string ⟨#[]⟩, .pointer none]) 2 24 Tryz.underlying115 hi5 hz0 hz1 hz2 rfl (by decide) _ _ _ rfl HW.out ⟨vb, 0, none⟩ 1 1 [.string k, ptrV qv] rfl rfl (World.news_of_block hv) (by simp [Value.oneCell']) (by decide) (by unfold maxLen; omega) (by omega) hbase _ rfl ?_)
  all_goals
    intro g cap w' hown' hgr hat _
    go_wp2
    go_ret
    try (have hcn : c = n := by assumption
         subst hcn)
    exact ⟨g, cap, rfl, by rw [show 2 * _ = xs.length by omega, List.take_length, List.drop_length, List.append_nil]; exact hown', hgr, hat.imp id (fun h => by omega)⟩

/-- A row of the call's own, not nil: its block. -/
theorem own_form {w : World} {base : Nat} {e : TypeId} {size : Nat} {sv : Value} {n : Nat} {xs : List Value} (h : w.ownsRow base e size sv n xs) (hn : 0 < n) :
    ∃ g cap cur, sv = .slice (some ⟨g, 0, none⟩) n cap ∧ base ≤ g ∧ w.heap[g]? = some (.cells cur e (0, 0)) ∧ n ≤ cap ∧ cap ≤ maxLen ∧ cur.size = cap * size ∧ cur.toList.take (n * size) = xs := by
  rcases h.2 with ⟨_, h0⟩ | h
  · omega
  · exact h

theorem sliced_at {g n c j : Nat} (hj : j ≤ n) (hne : j < c) (W : World) :
    (Instr.slice 115 (.slice (some ⟨g, 0, none⟩) n c) (some (.int .i64 (j : Int))) none none).run Tryz.prog W = .ok (.slice (some ⟨g, j * 2, none⟩) (n - j) (c - j)) W := by
  have ht : Tryz.prog.underlying 115 = some (.slice (Tryz.prog.elem 115)) := by simp [Program.elem, Tryz.underlying115]
  have he : Tryz.prog.elem 115 = 119 := by simp [Program.elem, Tryz.underlying115]
  rw [run_slice_l W 115 _ _ _ ht .i64 _ (by omega) (by omega), he, Tryz.sizeOf119]
  have hne' : ¬ c = j := by omega
  by_cases h0 : j = 0
  · subst h0
    simp [Result.andThen, sliced, Addr.add, hne']
  · have h1 : ¬ j * 2 = 0 := by omega
    simp [Result.andThen, sliced, Addr.add, hne', h1]

set_option maxRecDepth 100000 in
set_option maxHeartbeats 4000000 in
theorem insert_room (w : World) (base vb : Nat) (g c n i : Nat) (cur : Array Value) (xs : List Value) (k : ByteArray) (qv : Nat) (hn : n ≤ 64) (hi : i < n) (hbase : base ≤ g)
    (hg : w.heap[g]? = some (.cells cur 119 (0, 0))) (hc : n + 1 ≤ c) (hcm : c ≤ maxLen) (hcs : cur.size = c * 2) (hx : cur.toList.take (n * 2) = xs) (hone : ∀ v ∈ xs, v.oneCell' = true)
    (hv : w.heap[vb]? = some (.cells #[.string k, ptrV qv] 119 (0, 0))) (hvb : vb ≠ g) :
    Calls Tryz.prog 209 #[.slice (some ⟨g, 0, none⟩) n c, .int .i64 i, .slice (some ⟨vb, 0, none⟩) 1 1] w fun e w' => InsRet base (.slice (some ⟨g, 0, none⟩) n c) n i xs (.string k) (ptrV qv) w e w' := by
  have hsz : (Tryz.prog.info? 119).map (·.size) = some 2 := by kernel_rfl
  have hin : ((i : Int) == n) = false := by rw [beq_eq_false_iff_ne]; omega
  have hroom : (n : Int) + 1 ≤ c := by omega
  have hov : ∀ off lb cb, (callFunc 262 #[.slice (some ⟨vb, 0, none⟩) 1 1, .slice (some ⟨g, off, none⟩) lb cb]).run Tryz.prog w = .ok (.value (.bool false)) w := fun off lb cb => by
    rw [run_callFunc_extern Tryz.func262 (by kernel_rfl) (by kernel_rfl) (by kernel_rfl) (e := Extern.SlicesOverlaps.overlaps #[115, 115] #[4]) (by kernel_rfl),
      Lib.run_overlaps_apart w 115 4 119 Tryz.underlying115 2 (fun w => Tryz.sizeOf119 w) ⟨vb, 0, none⟩ ⟨g, off, none⟩ 1 1 lb cb hvb 119 119 2 cur.size (by simp [World.shape?, hv]) (by simp [World.shape?, hg]) (by omega) (blk_free hv 0) (blk_free hv 2)]
    rfl
  have s1 := fun W => sliced_at (g := g) (n := n) (c := c) (j := i) (by omega) (by omega) W
  have s2 := fun W => sliced_at (g := g) (n := n + 1) (c := c) (j := i) (by omega) (by omega) W
  have s3 := fun W => sliced_at (g := g) (n := n + 1) (c := c) (j := i + 1) (by omega) (by omega) W
  go_enter Tryz.func209, Tryz.ntmps209
  have hxl : xs.length = n * 2 := by rw [← hx, List.length_take]; simp; omega
  have hdl : (xs.drop (2 * i)).length = (n - i) * 2 := by rw [List.length_drop, hxl]; omega
  obtain ⟨A, hA⟩ : ∃ A, cur.toList.take ((i + 1) * 2) ++ xs.drop (2 * i) ++ cur.toList.drop ((i + 1) * 2 + (xs.drop (2 * i)).length) = A := ⟨_, rfl⟩
  have hsh := shift_list cur.toList xs (.string k) (ptrV qv) i n (by omega) (by simp; omega) hx
  rw [Nat.mul_comm 2 (i + 1), hA] at hsh
  dsimp only at hsh
  obtain ⟨hB1, hB2, hA2⟩ := hsh
  have hcp1 : ∀ ty dc sc, (Builtin.copy_ #[115, 115] ty #[.slice (some ⟨g, (i + 1) * 2, none⟩) (n - i) dc, .slice (some ⟨g, i * 2, none⟩) (n + 1 - i) sc]).run Tryz.prog w.drew = .ok (goInt (Nat.min (n + 1 - i) (n - i))) (w.drew.setRow g A.toArray) := fun ty dc sc => by
    rw [← hA]
    exact copy_two w.drew _ _ ty 119 g ((i + 1) * 2) (n - i) dc ⟨g, i * 2, none⟩ (n + 1 - i) sc cur 119 (xs.drop (2 * i)) Tryz.underlying115 hsz hg
      (by rw [List.length_drop, hxl]; simp only [Nat.min_def]; split <;> omega)
      (fun j v hj => by
        rw [List.getElem?_drop, ← hx] at hj
        have hl := (List.getElem?_eq_some_iff.1 hj).1
        rw [List.length_take] at hl
        rw [List.getElem?_take_of_lt (by omega), Array.getElem?_toList] at hj
        have ha : ((⟨g, i * 2, none⟩ : Addr).add j) = ⟨g, i * 2 + j, none⟩ := by
          unfold Addr.add
          split
          · rename_i h0; subst h0; rfl
          · rfl
        rw [ha, blk_cell (w := w.drew) hg, Nat.mul_comm i 2]
        exact hj)
      (by rw [List.length_drop, hxl]; omega) (fun v hv => hone v (List.mem_of_mem_drop hv))
  have hgA := setRow_heap w.drew g cur A.toArray _ _ hg
  obtain ⟨W1, hW1⟩ : ∃ W1, w.drew.setRow g A.toArray = W1 := ⟨_, rfl⟩
  have hvA : W1.heap[vb]? = some (.cells #[.string k, ptrV qv] 119 (0, 0)) := by rw [← hW1, setRow_other _ _ _ _ hvb]; exact hv
  have hgr1 : w.grownBy W1 (some g) := by
    rw [← hW1]
    exact ⟨rfl, rfl, rfl, by simp, fun k _ hk => setRow_other _ _ _ _ (fun e => hk (by rw [e]))⟩
  rw [hW1] at hgA hcp1
  obtain ⟨B, hB⟩ : ∃ B, A.take (2 * i) ++ [Value.string k, ptrV qv] ++ A.drop (2 * i + 2) = B := ⟨_, rfl⟩
  rw [hB] at hB1 hB2
  have hcp2 : ∀ ty dc, (Builtin.copy_ #[115, 115] ty #[.slice (some ⟨g, i * 2, none⟩) (n + 1 - i) dc, .slice (some ⟨vb, 0, none⟩) 1 1]).run Tryz.prog W1 = .ok (goInt (Nat.min 1 (n + 1 - i))) (W1.setRow g B.toArray) := fun ty dc => by
    rw [← hB, Nat.mul_comm 2 i]
    exact copy_two W1 _ _ ty 119 g (i * 2) (n + 1 - i) dc ⟨vb, 0, none⟩ 1 1 A.toArray 119 [.string k, ptrV qv] Tryz.underlying115 hsz hgA
      (by simp only [Nat.min_def]; split <;> simp; omega)
      (World.news_of_block hvA) (by simp [hA2]; omega) (by simp [Value.oneCell'])
  have HA := Lib.hid hA
  have HB := Lib.hid (And.intro hB1 hB2)
  clear hA hB hB1 hB2 hA2 hW1 hx
  go_wp2_with (simp only [hov])
  have hw1 : IntKind.i64.wrap ((i : Int) + 1) = (i : Int) + 1 := by rw [IntKind.wrap_i64]; omega
  have hb1 : (0 : Int) ≤ (i : Int) + 1 := by omega
  have htn : ((i : Int) + 1).toNat = i + 1 := by omega
  have hb2 : ¬ (c = i + 1) := by omega
  have hb3 : (i : Int) ≤ (n : Int) + 1 := by omega
  have hb4 : ¬ (c = i) := by omega
  have hb5 : (i : Int) + 1 ≤ (n : Int) + 1 := by omega
  have hb6 : (i : Int) ≤ (n : Int) := by omega
  have hb7 : i ≤ n := by omega
  have hb8 : i ≤ n + 1 := by omega
  go_region_law (refine step_copy_runI rfl _ _ 115 115 rfl _ _ (by simp [Act.eval, Act.put]) (by simp [Act.eval, Act.put]) (hcp1 _ _ _) ?_)
  go_wp2_with (at_builtin; refine wpList_copy_runI _ rfl _ _ 115 115 rfl _ _ rfl rfl (hcp2 _ _) ?_)
  go_ret
  obtain ⟨hB1, hB2⟩ := HB.out
  have hgB := setRow_heap W1 g A.toArray B.toArray _ _ hgA
  refine ⟨g, c, rfl, ⟨?_, .inr ⟨g, c, B.toArray, rfl, hbase, hgB, hc, hcm, by simp [hB2, hcs], ?_⟩⟩, ?_, .inl rfl⟩
  · rw [← hB1, List.length_take, hB2]; simp; omega
  · exact hB1
  · exact hgr1.trans ⟨rfl, rfl, rfl, by simp, fun k _ hk => setRow_other _ _ _ _ (fun e => hk (e ▸ rfl))⟩

set_option maxRecDepth 100000 in
set_option maxHeartbeats 4000000 in
theorem insert_grow (w : World) (base vb : Nat) (g c n i : Nat) (cur : Array Value) (xs : List Value) (k : ByteArray) (qv : Nat) (hn : n ≤ 64) (hi : i < n) (hbase : base ≤ w.heap.size)
    (hg : w.heap[g]? = some (.cells cur 119 (0, 0))) (hc : n = c) (hcs : cur.size = c * 2) (hx : cur.toList.take (n * 2) = xs) (hone : ∀ v ∈ xs, v.oneCell' = true)
    (hv : w.heap[vb]? = some (.cells #[.string k, ptrV qv] 119 (0, 0))) :
    Calls Tryz.prog 209 #[.slice (some ⟨g, 0, none⟩) n c, .int .i64 i, .slice (some ⟨vb, 0, none⟩) 1 1] w fun e w' => InsRet base (.slice (some ⟨g, 0, none⟩) n c) n i xs (.string k) (ptrV qv) w e w' := by
  subst hc
  obtain ⟨i0, hi5, hz0, hz1, hz2⟩ := info_parts (show (Tryz.prog.info? 119).map (fun i => (i.zero, i.size, i.bytes)) = some (some (.agg #[.string ⟨#[]⟩, .pointer none]), 2, 24) by kernel_rfl)
  have hsz : (Tryz.prog.info? 119).map (·.size) = some 2 := by kernel_rfl
  have hin : ((i : Int) == n) = false := by rw [beq_eq_false_iff_ne]; omega
  have hxl : xs.length = n * 2 := by rw [← hx, List.length_take]; simp; omega
  have hcell : ∀ (j : Nat) (v : Value), xs[j]? = some v → w.cell? ⟨g, j, none⟩ = some v := fun j v hj => by
    rw [← hx] at hj
    have hl := (List.getElem?_eq_some_iff.1 hj).1
    rw [List.length_take] at hl
    rw [List.getElem?_take_of_lt (by omega), Array.getElem?_toList] at hj
    rw [blk_cell hg]; exact hj
  have hadd : ∀ b o j, ((⟨b, o, none⟩ : Addr).add j) = ⟨b, o + j, none⟩ := fun b o j => by
    unfold Addr.add
    split
    · rename_i h0; subst h0; rfl
    · rfl
  have hold : (Builtin.firstCells i0.size i (.slice (some ⟨g, 0, none⟩) i n)).run Tryz.prog w.drew = .ok (xs.take (i * 2)).toArray w.drew := by
    rw [hz1]
    exact run_firstCells_some w.drew 2 i ⟨g, 0, none⟩ i n (xs.take (i * 2)) (by rw [List.length_take]; omega) (fun j v hj => by
      rw [hadd, Nat.zero_add]
      rw [List.getElem?_take] at hj
      split at hj
      · exact hcell j v hj
      · cases hj)
  have hkk : (n : Int) + 1 - (i : Int) = ((n + 1 - i : Nat) : Int) := by omega
  have hik : i + (n + 1 - i) = n + 1 := by omega
  obtain ⟨G, hG⟩ : ∃ G, grownCap w (n + 1) n 119 = G := ⟨_, rfl⟩
  obtain ⟨ROW, hROW⟩ : ∃ ROW : Array Value, (xs.take (i * 2)).toArray ++ Builtin.zeroCells (Value.agg #[.string ⟨#[]⟩, .pointer none]).cells (n + 1 - i) ++ Builtin.zeroCells (Value.agg #[.string ⟨#[]⟩, .pointer none]).cells (G - (n + 1)) = ROW := ⟨_, rfl⟩
  obtain ⟨W1, hW1⟩ : ∃ W1, w.drew.alloc (.cells ROW 119) = W1 := ⟨_, rfl⟩
  have hrz : ∀ ty, (Builtin.append_ #[115, 3] ty #[.slice (some ⟨g, 0, none⟩) i n, .int .i64 ((n : Int) + 1 - (i : Int))]).run Tryz.prog w = .ok (.slice (some ⟨w.heap.size, 0, none⟩) (n + 1) G) W1 := fun ty => by
    have h := Lib.run_append_grow_zeros w 115 3 ty 119 i0 _ .i64 .i64 Tryz.underlying115 Tryz.underlying3 hi5 hz0 (some ⟨g, 0, none⟩) i n (xs.take (i * 2)) hold (n + 1 - i) (by omega) (by omega) (by omega) (by omega) (by rw [hz2]; omega) (by rw [hz2, hik]; exact growslice_fits (by omega) (by omega))
    rw [hik, hG, hROW, hW1] at h
    rw [hkk]
    exact h
  have hGn : n + 1 ≤ G := by rw [← hG]; exact grownCap_ge w _ _ _
  have hGm : G ≤ maxLen := by rw [← hG]; exact grownCap_le_maxLen w _ _ _ (by unfold maxLen; omega)
  have hRs : ROW.toList.length = G * 2 := by
    rw [← hROW]
    simp [Builtin.zeroCells, Value.cells, hxl]
    omega
  have hRt : ROW.toList.take (i * 2) = xs.take (i * 2) := by
    rw [← hROW]
    simp only [Array.toList_append, List.append_assoc]
    rw [List.take_append_of_le_length (by simp; omega), List.take_of_length_le (by simp; omega)]
  have hN1 : W1.heap[w.heap.size]? = some (.cells ROW 119 (0, 0)) := by rw [← hW1]; exact blk_new w.drew _
  have hgl := blk_lt hg
  have hvl := blk_lt hv
  have hg1 : W1.heap[g]? = some (.cells cur 119 (0, 0)) := by rw [← hW1]; exact blk_old (w := w.drew) hg _
  have hv1 : W1.heap[vb]? = some (.cells #[.string k, ptrV qv] 119 (0, 0)) := by rw [← hW1]; exact blk_old (w := w.drew) hv _
  have hgr1 : w.grownBy W1 none := by
    rw [← hW1]
    exact ⟨rfl, rfl, rfl, by simp, fun k hk _ => Below.heap_alloc w.drew _ _ hk⟩
  obtain ⟨A, hA⟩ : ∃ A, ROW.toList.take (i * 2) ++ [Value.string k, ptrV qv] ++ ROW.toList.drop (i * 2 + 2) = A := ⟨_, rfl⟩
  have hAl : A.length = G * 2 := by rw [← hA]; simp only [List.length_append, List.length_take, List.length_drop, List.length_cons, List.length_nil, hRs]; omega
  have hcp1 : ∀ ty dc, (Builtin.copy_ #[115, 115] ty #[.slice (some ⟨w.heap.size, i * 2, none⟩) (n + 1 - i) dc, .slice (some ⟨vb, 0, none⟩) 1 1]).run Tryz.prog W1 = .ok (goInt (Nat.min 1 (n + 1 - i))) (W1.setRow w.heap.size A.toArray) := fun ty dc => by
    rw [← hA]
    exact copy_two W1 _ _ ty 119 w.heap.size (i * 2) (n + 1 - i) dc ⟨vb, 0, none⟩ 1 1 ROW 119 [.string k, ptrV qv] Tryz.underlying115 hsz hN1
      (by simp only [Nat.min_def]; split <;> simp; omega)
      (World.news_of_block hv1) (by rw [← Array.length_toList, hRs]; simp; omega) (by simp [Value.oneCell'])
  have hN2 := setRow_heap W1 w.heap.size ROW A.toArray _ _ hN1
  have hg2 : (W1.setRow w.heap.size A.toArray).heap[g]? = some (.cells cur 119 (0, 0)) := by rw [setRow_other _ _ _ _ (by omega)]; exact hg1
  obtain ⟨W2, hW2⟩ : ∃ W2, W1.setRow w.heap.size A.toArray = W2 := ⟨_, rfl⟩
  have hgr2 : w.grownBy W2 none := by
    rw [← hW2]
    exact ⟨hgr1.os, hgr1.tape, hgr1.output, by simpa using hgr1.size, fun k hk hn => (setRow_other _ _ _ _ (by omega)).trans (hgr1.block k hk hn)⟩
  rw [hW2] at hcp1 hN2 hg2
  obtain ⟨B, hB⟩ : ∃ B, A.take ((i + 1) * 2) ++ xs.drop (i * 2) ++ A.drop ((i + 1) * 2 + (xs.drop (i * 2)).length) = B := ⟨_, rfl⟩
  have hdl : (xs.drop (i * 2)).length = (n - i) * 2 := by rw [List.length_drop, hxl]; omega
  have hBl : B.length = G * 2 := by rw [← hB]; simp only [List.length_append, List.length_take, List.length_drop, hAl, hxl]; omega
  have hcp2 : ∀ ty dc sc, (Builtin.copy_ #[115, 115] ty #[.slice (some ⟨w.heap.size, (i + 1) * 2, none⟩) (n - i) dc, .slice (some ⟨g, i * 2, none⟩) (n - i) sc]).run Tryz.prog W2.drew = .ok (goInt (Nat.min (n - i) (n - i))) (W2.drew.setRow w.heap.size B.toArray) := fun ty dc sc => by
    rw [← hB]
    exact copy_two W2.drew _ _ ty 119 w.heap.size ((i + 1) * 2) (n - i) dc ⟨g, i * 2, none⟩ (n - i) sc A.toArray 119 (xs.drop (i * 2)) Tryz.underlying115 hsz hN2
      (by rw [hdl]; simp)
      (fun j v hj => by
        rw [List.getElem?_drop] at hj
        have := hcell _ _ hj
        rw [blk_cell hg] at this
        rw [hadd, blk_cell (w := W2.drew) hg2]; exact this)
      (by rw [hdl]; simp [hAl]; omega) (fun v hv => hone v (List.mem_of_mem_drop hv))
  have hgi : ¬ G = i := by omega
  have hgi1 : ¬ G = i + 1 := by omega
  have hni : ¬ n = i := by omega
  have hw1 : IntKind.i64.wrap ((i : Int) + 1) = (i : Int) + 1 := by rw [IntKind.wrap_i64]; omega
  have hb1 : (0 : Int) ≤ (i : Int) + 1 := by omega
  have htn : ((i : Int) + 1).toNat = i + 1 := by omega
  have hb3 : (i : Int) ≤ (n : Int) + 1 := by omega
  have hb5 : (i : Int) + 1 ≤ (n : Int) + 1 := by omega
  have hb6 : (i : Int) ≤ (n : Int) := by omega
  have hb7 : i ≤ n := by omega
  have hb8 : i ≤ n + 1 := by omega
  have HA := Lib.hid hA
  have HB := Lib.hid hB
  have HRL := Lib.hid hRs
  clear hA hB hW1 hW2 hROW hG hx hcell hold hkk hik hRs hAl hBl hgr1
  go_enter Tryz.func209, Tryz.ntmps209
  go_wp2_with (first
    | (at_builtin; refine Lib.wpList_append_run _ rfl _ _ _ _ rfl _ _ rfl rfl _ _ (hrz _) ?_)
    | (at_builtin; refine wpList_copy_runI _ rfl _ _ 115 115 rfl _ _ rfl rfl (hcp1 _ _) ?_))
  go_region_law (refine step_copy_runI rfl _ _ 115 115 rfl _ _ (by simp [Act.eval, Act.put]) (by simp [Act.eval, Act.put]) (hcp2 _ _ _) ?_)
  go_wp2
  go_ret
  have hN3 := setRow_heap W2.drew w.heap.size A.toArray B.toArray _ _ hN2
  have hRl : ROW.toList.length = G * 2 := HRL.out
  have hAl : A.length = G * 2 := by rw [← HA.out]; simp only [List.length_append, List.length_take, List.length_drop, List.length_cons, List.length_nil, hRl]; omega
  have hBl : B.length = G * 2 := by rw [← HB.out]; simp only [List.length_append, List.length_take, List.length_drop, hAl, hxl]; omega
  have hAt : A.take ((i + 1) * 2) = xs.take (i * 2) ++ [Value.string k, ptrV qv] := by
    rw [← HA.out, List.take_append_of_le_length (by simp only [List.length_append, List.length_take, List.length_cons, List.length_nil, hRl]; omega), List.take_of_length_le (by simp only [List.length_append, List.length_take, List.length_cons, List.length_nil, hRl]; omega), hRt]
  have hBt : B.take ((n + 1) * 2) = xs.take (2 * i) ++ [Value.string k, ptrV qv] ++ xs.drop (2 * i) := by
    rw [← HB.out, hAt, List.take_append_of_le_length (by simp only [List.length_append, List.length_take, List.length_drop, List.length_cons, List.length_nil, hxl]; omega), List.take_of_length_le (by simp only [List.length_append, List.length_take, List.length_drop, List.length_cons, List.length_nil, hxl]; omega), Nat.mul_comm i 2]
  refine ⟨w.heap.size, G, rfl, ⟨?_, .inr ⟨w.heap.size, G, B.toArray, rfl, hbase, hN3, hGn, hGm, by simp [hBl], hBt⟩⟩, ?_, .inr (Nat.le_refl _)⟩
  · rw [← hBt, List.length_take, hBl]; omega
  · exact ⟨hgr2.os, hgr2.tape, hgr2.output, by simpa using hgr2.size, fun k hk _ => (setRow_other _ _ _ _ (by omega)).trans (hgr2.block k hk (by simp))⟩

theorem insert_any (w : World) (base vb : Nat) (sv : Value) (n i : Nat) (xs : List Value) (k : ByteArray) (qv : Nat) (hn : n ≤ 64) (hi : i ≤ n) (hown : w.ownsRow base 119 2 sv n xs) (hbase : base ≤ w.heap.size) (hone : ∀ v ∈ xs, v.oneCell' = true)
    (hv : w.heap[vb]? = some (.cells #[.string k, ptrV qv] 119 (0, 0))) (hvb : sv.ownBlock ≠ some vb) :
    Calls Tryz.prog 209 #[sv, .int .i64 i, .slice (some ⟨vb, 0, none⟩) 1 1] w fun e w' => InsRet base sv n i xs (.string k) (ptrV qv) w e w' := by
  rcases Nat.lt_or_ge i n with h | h
  · obtain ⟨g, c, cur, rfl, h1, h2, h3, h4, h5, h6⟩ := own_form hown (by omega)
    rcases Nat.lt_or_ge n c with hc | hc
    · exact insert_room w base vb g c n i cur xs k qv hn h h1 h2 hc h4 h5 h6 hone hv (fun e => hvb (e ▸ rfl))
    · exact insert_grow w base vb g c n i cur xs k qv hn h hbase h2 (by omega) h5 h6 hone hv
  · have e : i = n := by omega
    subst e
    exact insert_end w base vb sv i xs k qv hn hown hbase hv

end Toc

namespace Toc
open Go Go.RowKit Go.Proofs

/-! ### the order of bytes -/
theorem cb_vals : ∀ (a b : Bytes), Lib.compareBytes a b = -1 ∨ Lib.compareBytes a b = 0 ∨ Lib.compareBytes a b = 1
  | [], [] => .inr (.inl rfl)
  | [], _ :: _ => .inl rfl
  | _ :: _, [] => .inr (.inr rfl)
  | a :: xs, b :: ys => by
    unfold Lib.compareBytes
    split
    · exact .inl rfl
    · split
      · exact .inr (.inr rfl)
      · exact cb_vals xs ys
theorem cb_self : ∀ a : Bytes, Lib.compareBytes a a = 0
  | [] => rfl
  | a :: xs => by
    unfold Lib.compareBytes
    rw [if_neg (by simp), if_neg (by simp)]
    exact cb_self xs
theorem cb_eq : ∀ (a b : Bytes), Lib.compareBytes a b = 0 → a = b
  | [], [], _ => rfl
  | [], _ :: _, h => by cases h
  | _ :: _, [], h => by cases h
  | a :: xs, b :: ys, h => by
    unfold Lib.compareBytes at h
    split at h
    · cases h
    · rename_i h1
      split at h
      · cases h
      · rename_i h2
        have e : a = b := by
          have h1' := UInt8.not_lt.1 h1
          have h2' := UInt8.not_lt.1 h2
          exact UInt8.le_antisymm h2' h1'
        rw [e, cb_eq xs ys h]
theorem cb_trans : ∀ (a b c : Bytes), Lib.compareBytes a b = -1 → Lib.compareBytes b c = -1 → Lib.compareBytes a c = -1
  | _, [], [], _, h => by cases h
  | [], _, [], h, h' => by
    rename_i b
    cases b with
    | nil => cases h
    | cons => cases h'
  | _ :: _, [], _, h, _ => by cases h
  | _ :: _, _ :: _, [], _, h => by cases h
  | [], _, _ :: _, _, _ => rfl
  | a :: xs, b :: ys, c :: zs, h, h' => by
    unfold Lib.compareBytes at h h' ⊢
    split at h
    · rename_i hab
      split at h'
      · rename_i hbc
        rw [if_pos (UInt8.lt_trans hab hbc)]
      · rename_i hbc
        split at h'
        · cases h'
        · rename_i hcb
          have e : b = c := UInt8.le_antisymm (UInt8.not_lt.1 hcb) (UInt8.not_lt.1 hbc)
          rw [← e, if_pos hab]
    · rename_i hab
      split at h
      · cases h
      · rename_i hba
        have e : a = b := UInt8.le_antisymm (UInt8.not_lt.1 hba) (UInt8.not_lt.1 hab)
        subst e
        split at h'
        · rename_i hbc; rw [if_pos hbc]
        · rename_i hbc
          split at h'
          · cases h'
          · rename_i hcb
            rw [if_neg hbc, if_neg hcb]
            exact cb_trans xs ys zs h h'
theorem cb_swap : ∀ (a b : Bytes), Lib.compareBytes a b = 1 → Lib.compareBytes b a = -1
  | [], [], h => by cases h
  | [], _ :: _, h => by cases h
  | _ :: _, [], _ => rfl
  | a :: xs, b :: ys, h => by
    unfold Lib.compareBytes at h ⊢
    split at h
    · cases h
    · rename_i h1
      split at h
      · rename_i h2; rw [if_pos h2]
      · rename_i h2; rw [if_neg h2, if_neg h1]; exact cb_swap xs ys h

/-! ### rising keys -/
def Rising {α : Type} (ms : List (Bytes × α)) : Prop := ∀ (a b : Nat) (x y : Bytes × α), ms[a]? = some x → ms[b]? = some y → a < b → Lib.compareBytes x.1 y.1 = -1

theorem takeWhile_len {α : Type} (p : α → Bool) : ∀ (l : List α) (i : Nat), i ≤ l.length → (∀ t (h : t < l.length), t < i → p (l[t]'h) = true) → (∀ h : i < l.length, p (l[i]'h) = false) → (l.takeWhile p).length = i
  | [], i, hi, _, _ => by simp at hi; simp [hi]
  | x :: xs, 0, _, _, h => by
    have := h (by simp)
    simp at this
    simp [this]
  | x :: xs, i + 1, hi, h1, h2 => by
    have hx : p x = true := by have := h1 0 (by simp) (by omega); simpa using this
    rw [List.takeWhile_cons, if_pos hx, List.length_cons, takeWhile_len p xs i (by simpa using hi) (fun t ht hlt => by have := h1 (t + 1) (by simpa using ht) (by omega); simpa using this) (fun h => by have := h2 (by simpa using h); simpa using this)]
theorem takeWhile_at {α : Type} (p : α → Bool) : ∀ (l : List α) (t : Nat) (h : t < l.length), t < (l.takeWhile p).length → p (l[t]'h) = true
  | x :: xs, t, h, hlt => by
    rw [List.takeWhile_cons] at hlt
    split at hlt
    · rename_i hx
      cases t with
      | zero => simpa using hx
      | succ t => simpa using takeWhile_at p xs t (by simpa using h) (by simpa using hlt)
    · simp at hlt
theorem takeWhile_stop {α : Type} (p : α → Bool) : ∀ (l : List α) (h : (l.takeWhile p).length < l.length), p (l[(l.takeWhile p).length]'h) = false
  | x :: xs, h => by
    by_cases hx : p x = true
    · simp only [List.takeWhile_cons, hx, if_true, List.length_cons, List.getElem_cons_succ] at h ⊢
      exact takeWhile_stop p xs (by simpa using h)
    · simp only [List.takeWhile_cons, hx, Bool.false_eq_true, if_false, List.length_nil, List.getElem_cons_zero]

theorem keyPlace_le {α : Type} (ms : List (Bytes × α)) (k : Bytes) : keyPlace ms k ≤ ms.length := (List.takeWhile_sublist _).length_le

theorem putAt_get {α : Type} (l : List α) (i : Nat) (x : α) (hi : i ≤ l.length) (t : Nat) : (putAt l i x)[t]? = if t < i then l[t]? else if t = i then some x else l[t - 1]? := by
  unfold putAt
  rw [List.getElem?_append, List.length_take, Nat.min_eq_left hi]
  split
  · rename_i h; rw [List.getElem?_take_of_lt h]
  · rename_i h
    split
    · rename_i e; subst e; simp
    · rename_i e
      obtain ⟨m, hm⟩ : ∃ m, t - i = m + 1 := ⟨t - i - 1, by omega⟩
      rw [hm, List.getElem?_cons_succ, List.getElem?_drop]
      congr 1; omega

theorem rising_put {α : Type} {ms : List (Bytes × α)} (h : Rising ms) {k : Bytes} {v : α} (hk : keyAt ms (keyPlace ms k) k = false) : Rising (putAt ms (keyPlace ms k) (k, v)) := by
  have hle := keyPlace_le ms k
  have h1 : ∀ t x, ms[t]? = some x → t < keyPlace ms k → Lib.compareBytes x.1 k = -1 := fun t x ht hlt => by
    obtain ⟨hl, rfl⟩ := List.getElem?_eq_some_iff.1 ht
    have := takeWhile_at (fun m : Bytes × α => Lib.compareBytes m.1 k == -1) ms t hl hlt
    simpa using this
  have h2 : ∀ t x, ms[t]? = some x → keyPlace ms k ≤ t → Lib.compareBytes k x.1 = -1 := fun t x ht hle2 => by
    have htl := (List.getElem?_eq_some_iff.1 ht).1
    have hlt : keyPlace ms k < ms.length := by omega
    have hs := takeWhile_stop (fun m : Bytes × α => Lib.compareBytes m.1 k == -1) ms hlt
    have hne : Lib.compareBytes (ms[keyPlace ms k]'hlt).1 k ≠ -1 := by
      have : (Lib.compareBytes (ms[keyPlace ms k]'hlt).1 k == -1) = false := hs
      simpa using this
    have hk' : (ms[keyPlace ms k]'hlt).1 ≠ k := by
      unfold keyAt at hk
      rw [List.getElem?_eq_getElem hlt] at hk
      simpa using hk
    have h3 : Lib.compareBytes k (ms[keyPlace ms k]'hlt).1 = -1 := by
      rcases cb_vals (ms[keyPlace ms k]'hlt).1 k with h | h | h
      · exact absurd h hne
      · exact absurd (cb_eq _ _ h) hk'
      · exact cb_swap _ _ h
    rcases Nat.lt_or_ge (keyPlace ms k) t with h' | h'
    · exact cb_trans _ _ _ h3 (h _ _ _ _ (List.getElem?_eq_getElem hlt) ht h')
    · have e : t = keyPlace ms k := by omega
      subst e
      rw [List.getElem?_eq_getElem hlt] at ht
      rw [← Option.some.inj ht]; exact h3
  intro a b x y ha hb hab
  rw [putAt_get _ _ _ hle] at ha hb
  split at ha
  · rename_i h3
    split at hb
    · exact h _ _ _ _ ha hb hab
    · split at hb
      · cases hb; exact h1 _ _ ha h3
      · exact h _ _ _ _ ha hb (by omega)
  · split at ha
    · cases ha
      rw [if_neg (by omega), if_neg (by omega)] at hb
      exact h2 _ _ hb (by omega)
    · rw [if_neg (by omega), if_neg (by omega)] at hb
      exact h _ _ _ _ ha hb (by omega)

/-! ### the walk -/
set_option maxRecDepth 100000 in
set_option maxHeartbeats 1000000 in
theorem memberCmp_any (a b : ByteArray) (pv : Value) (w : World) :
    Calls Tryz.prog 208 #[.agg #[.string a, pv], .string b] w fun e w' => e = .returned (.int .i64 (Lib.compareBytes a.data.toList b.data.toList)) ∧ Below w.heap.size w w' := by
  go_enter Tryz.func208, Tryz.ntmps208
  go_wp2_with fail
  refine (Tryz.strings_Compare a b _).mono ?_
  rintro e w1 ⟨rfl, rfl⟩
  go_wp2_with fail
  go_ret
  exact ⟨rfl, (Below.refl _ w).alloc (Nat.le_refl _) _⟩

/-- Members in a row of the call's own. -/
theorem memC_get : ∀ (ms : List (Bytes × JV)) (qs : List Nat) (t : Nat) (m : Bytes × JV) (q : Nat), ms[t]? = some m → qs[t]? = some q → (memC ms qs)[t * 2]? = some (.string (mkS m.1)) ∧ (memC ms qs)[t * 2 + 1]? = some (ptrV q)
  | m :: ms, q :: qs, 0, _, _, h, h' => by cases h; cases h'; exact ⟨rfl, rfl⟩
  | m :: ms, q :: qs, t + 1, m', q', h, h' => by
    have := memC_get ms qs t m' q' (by simpa using h) (by simpa using h')
    rw [show (t + 1) * 2 = t * 2 + 1 + 1 by omega]
    simpa [memC] using this
  | [], _, _, _, _, h, _ => by simp at h
  | _ :: _, [], _, _, _, _, h => by simp at h

set_option maxRecDepth 100000 in
set_option maxHeartbeats 4000000 in
theorem search_any (w : World) (base : Nat) (sv : Value) (n : Nat) (ms : List (Bytes × JV)) (qs : List Nat) (key : ByteArray) (hn : n ≤ 64) (hown : w.ownsRow base 119 2 sv n (memC ms qs)) (hml : ms.length = n) (hql : qs.length = n) (hr : Rising ms) :
    Calls Tryz.prog 146 #[sv, .string key, .func (.func 208) #[] #[]] w fun e w' =>
      e = .returned (.tuple #[.int .i64 (keyPlace ms key.data.toList : Nat), .bool (keyAt ms (keyPlace ms key.data.toList) key.data.toList)]) ∧ Below w.heap.size w w' := by
  have HR := Lib.hid hr
  have HW := Lib.hid hown
  obtain ⟨a, c, rfl, hnc⟩ : ∃ a c, sv = .slice a n c ∧ n ≤ c := by
    rcases hown.2 with ⟨h, h0⟩ | ⟨g, cap, cur, h, _, _, hc, _⟩
    · exact ⟨none, 0, by rw [h, h0], by omega⟩
    · exact ⟨_, cap, h, hc⟩
  clear hown hr
  go_enter Tryz.func146, Tryz.ntmps146
  go_wp2
  go_loopw [9, 10] (fun s9 s10 wr => ∃ lo hi : Nat, s9 = .int .i64 lo ∧ s10 = .int .i64 hi ∧ lo ≤ hi ∧ hi ≤ n ∧ Below w.heap.size w wr ∧ (∀ t x, ms[t]? = some x → t < lo → Lib.compareBytes x.1 key.data.toList = -1) ∧ (∀ t x, ms[t]? = some x → hi ≤ t → Lib.compareBytes x.1 key.data.toList ≠ -1)) (fun s9 s10 _ => (RowKit.intOf s10 - RowKit.intOf s9).toNat)
  case atStart => exact ⟨0, n, rfl, rfl, by omega, by omega, Below.refl _ _, fun t x _ h => by omega, fun t x h h' => by have := (List.getElem?_eq_some_iff.1 h).1; omega⟩
  case round =>
    obtain ⟨lo, hi, rfl, rfl, hlh, hin, hb, hlo, hhi⟩ := hrel
    have HB := Lib.hid hb
    have HLO := Lib.hid hlo
    have HHI := Lib.hid hhi
    clear hb hlo hhi
    by_cases hlt : lo < hi
    · obtain ⟨g, cap, cur, hsv, h1, h2, h3, h4, h5, h6⟩ := own_form HW.out (by omega)
      cases hsv
      have hm2 : (lo + hi) / 2 < n := by omega
      obtain ⟨m, hm⟩ : ∃ m, ms[(lo + hi) / 2]? = some m := ⟨_, List.getElem?_eq_getElem (by omega)⟩
      obtain ⟨q, hq⟩ : ∃ q, qs[(lo + hi) / 2]? = some q := ⟨_, List.getElem?_eq_getElem (by omega)⟩
      obtain ⟨e1, e2⟩ := memC_get ms qs _ m q hm hq
      have hc1 : wr.cell? ⟨g, (lo + hi) / 2 * 2, none⟩ = some (.string (mkS m.1)) := by
        rw [HB.out.cell (p := ⟨g, (lo + hi) / 2 * 2, none⟩) (blk_lt h2), blk_cell h2, ← e1, ← h6, List.getElem?_take_of_lt (by omega), Array.getElem?_toList]
      have hc2 : wr.cell? ⟨g, (lo + hi) / 2 * 2 + 1, none⟩ = some (ptrV q) := by
        rw [HB.out.cell (p := ⟨g, (lo + hi) / 2 * 2 + 1, none⟩) (blk_lt h2), blk_cell h2, ← e2, ← h6, List.getElem?_take_of_lt (by omega), Array.getElem?_toList]
      have hcmp := memberCmp_any (mkS m.1) key (ptrV q) wr
      rw [list_mkS] at hcmp
      have HM := Lib.hid hm
      have i1 : ((lo : Int) + hi) / 2 < n := by omega
      obtain ⟨z, hz⟩ : ∃ z, Lib.compareBytes m.1 key.data.toList = z := ⟨_, rfl⟩
      rw [hz] at hcmp
      have HC := Lib.hid hcmp
      have HZ := Lib.hid hz
      clear hm hq e1 e2 h2 h5 h6 hcmp hz
      by_cases hneg : z < 0
      · go_wp2_with fail
        refine HC.out.mono ?_
        rintro e w1 ⟨rfl, hb1⟩
        have HB1 := Lib.hid (below_trans HB.out hb1)
        clear hb1
        go_wp2_with fail
        go_roundw
        case rel =>
          refine ⟨(lo + hi) / 2 + 1, hi, by go_num, rfl, by omega, hin, HB1.out, fun t x hx htl => ?_, HHI.out⟩
          have hz1 : Lib.compareBytes m.1 key.data.toList = -1 := by
            rcases cb_vals m.1 key.data.toList with h | h | h
            · exact h
            · rw [HZ.out] at h; omega
            · rw [HZ.out] at h; omega
          rcases Nat.lt_or_ge t ((lo + hi) / 2) with h | h
          · exact cb_trans _ _ _ (HR.out _ _ _ _ hx HM.out h) hz1
          · have e : t = (lo + hi) / 2 := by omega
            subst e
            have hmx := HM.out
            rw [hx] at hmx
            rw [Option.some.inj hmx]; exact hz1
        case measure => simp [RowKit.intOf]; omega
      · have hneg' : 0 ≤ z := by omega
        go_wp2_with fail
        refine HC.out.mono ?_
        rintro e w1 ⟨rfl, hb1⟩
        have HB1 := Lib.hid (below_trans HB.out hb1)
        clear hb1
        go_wp2_with fail
        go_roundw
        case rel =>
          refine ⟨lo, (lo + hi) / 2, rfl, by go_num, by omega, by omega, HB1.out, HLO.out, fun t x hx htl hcc => ?_⟩
          rcases Nat.lt_or_ge ((lo + hi) / 2) t with h | h
          · have := cb_trans _ _ _ (HR.out _ _ _ _ HM.out hx h) hcc
            rw [HZ.out] at this; omega
          · have e : t = (lo + hi) / 2 := by omega
            subst e
            have hmx := HM.out
            rw [hx] at hmx
            rw [Option.some.inj hmx, HZ.out] at hcc; omega
        case measure => simp [RowKit.intOf]; omega
    · obtain rfl : lo = hi := by omega
      have hkp : keyPlace ms key.data.toList = lo := by
        unfold keyPlace
        refine takeWhile_len _ ms lo (by omega) (fun t h htl => ?_) (fun h => ?_)
        · have := HLO.out t _ (List.getElem?_eq_getElem h) htl
          rw [this]; rfl
        · have := HHI.out lo _ (List.getElem?_eq_getElem h) (Nat.le_refl _)
          simpa using this
      have HK := Lib.hid hkp
      clear hkp
      by_cases hln : lo < n
      · obtain ⟨g, cap, cur, hsv, h1, h2, h3, h4, h5, h6⟩ := own_form HW.out (by omega)
        cases hsv
        obtain ⟨m, hm⟩ : ∃ m, ms[lo]? = some m := ⟨_, List.getElem?_eq_getElem (by omega)⟩
        obtain ⟨q, hq⟩ : ∃ q, qs[lo]? = some q := ⟨_, List.getElem?_eq_getElem (by omega)⟩
        obtain ⟨e1, e2⟩ := memC_get ms qs _ m q hm hq
        have hc1 : wr.cell? ⟨g, lo * 2, none⟩ = some (.string (mkS m.1)) := by
          rw [HB.out.cell (p := ⟨g, lo * 2, none⟩) (blk_lt h2), blk_cell h2, ← e1, ← h6, List.getElem?_take_of_lt (by omega), Array.getElem?_toList]
        have hc2 : wr.cell? ⟨g, lo * 2 + 1, none⟩ = some (ptrV q) := by
          rw [HB.out.cell (p := ⟨g, lo * 2 + 1, none⟩) (blk_lt h2), blk_cell h2, ← e2, ← h6, List.getElem?_take_of_lt (by omega), Array.getElem?_toList]
        have hcmp := memberCmp_any (mkS m.1) key (ptrV q) wr
        rw [list_mkS] at hcmp
        have HM := Lib.hid hm
        have i1 : (lo : Int) < n := by omega
        obtain ⟨z, hz⟩ : ∃ z, Lib.compareBytes m.1 key.data.toList = z := ⟨_, rfl⟩
        rw [hz] at hcmp
        have HC := Lib.hid hcmp
        have HZ := Lib.hid hz
        clear hm hq e1 e2 h2 h5 h6 hcmp hz
        go_wp2_with fail
        refine HC.out.mono ?_
        rintro e w1 ⟨rfl, hb1⟩
        have HB1 := Lib.hid (below_trans HB.out hb1)
        clear hb1
        go_wp2_with fail
        go_ret2
        refine ⟨?_, HB1.out⟩
        rw [HK.out]
        have hka : keyAt ms lo key.data.toList = (z == 0) := by
          unfold keyAt
          rw [HM.out, Bool.eq_iff_iff]
          simp only [beq_iff_eq]
          rw [← HZ.out]
          exact ⟨fun h => by rw [h]; exact cb_self _, fun h => cb_eq _ _ h⟩
        rw [hka]
        rfl
      · have i1 : (n : Int) ≤ lo := by omega
        go_wp2_with fail
        go_ret2
        refine ⟨?_, HB.out⟩
        rw [HK.out]
        have hka : keyAt ms lo key.data.toList = false := by
          unfold keyAt
          rw [List.getElem?_eq_none (by omega)]
        rw [hka]
        rfl

end Toc

namespace Toc
open Go Go.RowKit Go.Proofs

theorem cb_lt_ne {a b : Bytes} (h : Lib.compareBytes a b = -1) : a ≠ b := fun e => by subst e; rw [cb_self] at h; cases h
theorem cb_gt {a b : Bytes} (h : Lib.compareBytes a b = -1) : Lib.compareBytes b a = 1 := by
  rcases cb_vals b a with h1 | h1 | h1
  · have := cb_trans _ _ _ h h1; rw [cb_self] at this; cases this
  · exact absurd (cb_eq _ _ h1).symm (cb_lt_ne h)
  · exact h1
theorem cb_gt_iff (a b : Bytes) : Lib.compareBytes a b = 1 ↔ Lib.compareBytes b a = -1 := ⟨cb_swap a b, cb_gt⟩

section
variable {α : Type}
def getK (l : List (Bytes × α)) (k : Bytes) : Option α := (l.find? fun p => p.1 == k).map (·.2)
def putK (l : List (Bytes × α)) (k : Bytes) (v : α) : List (Bytes × α) :=
  (l.filter fun p => Lib.compareBytes p.1 k == -1) ++ (k, v) :: (l.filter fun p => Lib.compareBytes p.1 k == 1)

theorem rising_iff (l : List (Bytes × α)) : Rising l ↔ l.Pairwise (fun x y => Lib.compareBytes x.1 y.1 = -1) := by
  rw [List.pairwise_iff_getElem]
  constructor
  · intro h i j hi hj hij
    exact h i j _ _ (List.getElem?_eq_getElem hi) (List.getElem?_eq_getElem hj) hij
  · intro h a b x y hx hy hab
    obtain ⟨h1, rfl⟩ := List.getElem?_eq_some_iff.1 hx
    obtain ⟨h2, rfl⟩ := List.getElem?_eq_some_iff.1 hy
    exact h a b h1 h2 hab
theorem rising_nil : Rising ([] : List (Bytes × α)) := (rising_iff _).2 .nil
theorem rising_keys {l : List (Bytes × α)} (h : Rising l) : (l.map (·.1)).Nodup := by
  rw [List.Nodup, List.pairwise_map]
  exact ((rising_iff l).1 h).imp fun h => cb_lt_ne h
theorem rising_filter {l : List (Bytes × α)} (h : Rising l) (p : Bytes × α → Bool) : Rising (l.filter p) := (rising_iff _).2 (((rising_iff l).1 h).filter p)
theorem rising_map {β : Type} {l : List (Bytes × α)} (f : α → β) (h : Rising l) : Rising (l.map fun p => (p.1, f p.2)) := by
  rw [rising_iff, List.pairwise_map]
  exact (rising_iff l).1 h

theorem getK_some_mem {l : List (Bytes × α)} {k : Bytes} {v : α} (h : getK l k = some v) : (k, v) ∈ l := by
  unfold getK at h
  cases hf : l.find? (fun p => p.1 == k) with
  | none => rw [hf] at h; cases h
  | some p =>
    rw [hf] at h
    have h1 := List.mem_of_find?_eq_some hf
    have h2 := List.find?_some hf
    obtain ⟨a, b⟩ := p
    simp at h h2
    subst h; subst h2; exact h1
theorem getK_none_iff {l : List (Bytes × α)} {k : Bytes} : getK l k = none ↔ ∀ p ∈ l, p.1 ≠ k := by
  unfold getK
  simp
theorem getK_of_mem {l : List (Bytes × α)} (hn : (l.map (·.1)).Nodup) {k : Bytes} {v : α} (h : (k, v) ∈ l) : getK l k = some v := by
  induction l with
  | nil => cases h
  | cons x l ih =>
    obtain ⟨a, b⟩ := x
    simp only [List.map_cons, List.nodup_cons] at hn
    unfold getK
    rw [List.find?_cons]
    by_cases ha : a = k
    · subst ha
      rcases List.mem_cons.1 h with h | h
      · cases h; simp
      · exact absurd (List.mem_map.2 ⟨_, h, rfl⟩) hn.1
    · have hk : (a == k) = false := by simpa using ha
      rw [show ((a, b).1 == k) = false from hk]
      rcases List.mem_cons.1 h with h | h
      · cases h; exact absurd rfl ha
      · exact ih hn.2 h
theorem getK_iff {l : List (Bytes × α)} (hn : (l.map (·.1)).Nodup) {k : Bytes} {v : α} : getK l k = some v ↔ (k, v) ∈ l := ⟨getK_some_mem, getK_of_mem hn⟩

theorem filter_ne {l : List (Bytes × α)} (k : Bytes) : (l.filter fun p => p.1 != k).Perm ((l.filter fun p => Lib.compareBytes p.1 k == -1) ++ l.filter fun p => Lib.compareBytes p.1 k == 1) := by
  induction l with
  | nil => exact .nil
  | cons x l ih =>
    rcases cb_vals x.1 k with h | h | h
    · have h1 : (x.1 != k) = true := by simpa using cb_lt_ne h
      simp only [List.filter_cons, h1, h]
      exact ih.cons x
    · have h1 : (x.1 != k) = false := by simpa using cb_eq _ _ h
      simp only [List.filter_cons, h1, h]
      exact ih
    · have h1 : (x.1 != k) = true := by
        have := cb_lt_ne (cb_swap _ _ h)
        simpa using fun e => this e.symm
      simp only [List.filter_cons, h1, h]
      exact (ih.cons x).trans List.perm_middle.symm
theorem putK_perm {l : List (Bytes × α)} (k : Bytes) (v : α) : (putK l k v).Perm ((k, v) :: l.filter fun p => p.1 != k) :=
  List.perm_middle.trans ((filter_ne k).symm.cons (k, v))
theorem putK_rising {l : List (Bytes × α)} (h : Rising l) (k : Bytes) (v : α) : Rising (putK l k v) := by
  have hp := (rising_iff l).1 h
  rw [rising_iff]
  unfold putK
  rw [List.pairwise_append]
  refine ⟨hp.filter _, List.pairwise_cons.2 ⟨fun y hy => ?_, hp.filter _⟩, fun x hx y hy => ?_⟩
  · have := (List.mem_filter.1 hy).2
    exact cb_swap _ _ (by simpa using this)
  · have h1 : Lib.compareBytes x.1 k = -1 := by simpa using (List.mem_filter.1 hx).2
    rcases List.mem_cons.1 hy with rfl | hy
    · exact h1
    · have h2 : Lib.compareBytes y.1 k = 1 := by simpa using (List.mem_filter.1 hy).2
      exact cb_trans _ _ _ h1 (cb_swap _ _ h2)
theorem getK_putK {l : List (Bytes × α)} (h : Rising l) (k : Bytes) (v : α) (x : Bytes) : getK (putK l k v) x = if x = k then some v else getK l x := by
  have hk := rising_keys (putK_rising h k v)
  have hl := rising_keys h
  split
  · rename_i e; subst e
    rw [getK_iff hk, (putK_perm x v).mem_iff]
    exact .head _
  · rename_i e
    apply Option.ext
    intro y
    rw [getK_iff hk, getK_iff hl, (putK_perm k v).mem_iff]
    simp only [List.mem_cons, List.mem_filter, Prod.mk.injEq, bne_iff_ne, ne_eq]
    constructor
    · rintro (⟨rfl, _⟩ | ⟨h1, _⟩)
      · exact absurd rfl e
      · exact h1
    · intro h1
      exact .inr ⟨h1, e⟩
theorem rising_eq {l l' : List (Bytes × α)} (h : Rising l) (h' : Rising l') (hp : l.Perm l') : l = l' := by
  refine List.Perm.eq_of_pairwise (le := fun x y => Lib.compareBytes x.1 y.1 = -1) (fun a b _ _ h1 h2 => ?_) ((rising_iff l).1 h) ((rising_iff l').1 h') hp
  have := cb_trans _ _ _ h1 h2
  rw [cb_self] at this; cases this
theorem mem_perm {l l' : List (Bytes × α)} (h : (l.map (·.1)).Nodup) (h' : (l'.map (·.1)).Nodup) (hm : ∀ x, x ∈ l ↔ x ∈ l') : l.Perm l' :=
  (List.perm_ext_iff_of_nodup (List.Pairwise.of_map _ (fun _ _ h e => h (by rw [e])) h) (List.Pairwise.of_map _ (fun _ _ h e => h (by rw [e])) h')).2 hm
theorem rising_ext {l l' : List (Bytes × α)} (h : Rising l) (h' : Rising l') (hg : ∀ k, getK l k = getK l' k) : l = l' := by
  refine rising_eq h h' (mem_perm (rising_keys h) (rising_keys h') fun x => ?_)
  obtain ⟨k, v⟩ := x
  rw [← getK_iff (rising_keys h), ← getK_iff (rising_keys h'), hg]
theorem getK_map {β : Type} (f : α → β) (l : List (Bytes × α)) (k : Bytes) : getK (l.map fun p => (p.1, f p.2)) k = (getK l k).map f := by
  unfold getK
  rw [List.find?_map, Option.map_map, Option.map_map]
  rfl
theorem putK_map {β : Type} (f : α → β) (l : List (Bytes × α)) (k : Bytes) (v : α) : putK (l.map fun p => (p.1, f p.2)) k (f v) = (putK l k v).map fun p => (p.1, f p.2) := by
  unfold putK
  simp only [List.map_append, List.map_cons, List.filter_map]
  rfl
theorem length_putK {l : List (Bytes × α)} (k : Bytes) (v : α) : (putK l k v).length ≤ l.length + 1 := by
  rw [(putK_perm k v).length_eq]
  have := List.length_filter_le (fun p : Bytes × α => p.1 != k) l
  simp; omega
theorem length_putK_old {l : List (Bytes × α)} (h : Rising l) {k : Bytes} {v0 : α} (hk : getK l k = some v0) (v : α) : (putK l k v).length = l.length := by
  rw [(putK_perm k v).length_eq]
  have h1 := getK_some_mem hk
  have hn := rising_keys h
  have : ((k, v0) :: l.filter fun p => p.1 != k).Perm l := by
    refine mem_perm ?_ hn fun x => ?_
    · simp only [List.map_cons, List.nodup_cons]
      refine ⟨fun hm => ?_, (rising_keys (rising_filter h _))⟩
      obtain ⟨y, hy, e⟩ := List.mem_map.1 hm
      have := (List.mem_filter.1 hy).2
      simp at this; exact this e
    · obtain ⟨a, b⟩ := x
      simp only [List.mem_cons, List.mem_filter, bne_iff_ne, ne_eq, Prod.mk.injEq]
      constructor
      · rintro (⟨rfl, rfl⟩ | ⟨h2, _⟩)
        · exact h1
        · exact h2
      · intro h2
        by_cases e : a = k
        · subst e
          have := (getK_iff hn).2 h2
          rw [hk] at this; cases this
          exact .inl ⟨rfl, rfl⟩
        · exact .inr ⟨h2, e⟩
  have := this.length_eq
  simpa using this
theorem length_putK_new {l : List (Bytes × α)} {k : Bytes} (hk : getK l k = none) (v : α) : (putK l k v).length = l.length + 1 := by
  rw [(putK_perm k v).length_eq, List.length_cons, List.filter_eq_self.2]
  intro p hp
  simpa using getK_none_iff.1 hk p hp
end

end Toc

namespace Toc
open Go Go.RowKit Go.Proofs
open Go.ChangeMaps (setBlock set_perm map_eraseIdx)
open Go.MapKept

/-- Of the blocks that were there only those on the list may have turned; the streams are as they were. -/
structure Turns (S : List Nat) (w w' : World) : Prop where
  os : w'.os = w.os
  tape : w'.tape = w.tape
  output : w'.output = w.output
  size : w.heap.size ≤ w'.heap.size
  block : ∀ k, k < w.heap.size → k ∉ S → w'.heap[k]? = w.heap[k]?

theorem Turns.refl (S : List Nat) (w : World) : Turns S w w := ⟨rfl, rfl, rfl, Nat.le_refl _, fun _ _ _ => rfl⟩
theorem Turns.trans {S : List Nat} {a b c : World} (h : Turns S a b) (k : Turns S b c) : Turns S a c :=
  ⟨k.os.trans h.os, k.tape.trans h.tape, k.output.trans h.output, Nat.le_trans h.size k.size, fun i hi hn => (k.block i (Nat.lt_of_lt_of_le hi h.size) hn).trans (h.block i hi hn)⟩
theorem Turns.mono {S S' : List Nat} {w w' : World} (h : Turns S w w') (hs : ∀ b ∈ S, b ∈ S' ∨ w.heap.size ≤ b) : Turns S' w w' :=
  ⟨h.os, h.tape, h.output, h.size, fun k hk hn => h.block k hk (fun hm => by
    rcases hs k hm with h1 | h1
    · exact hn h1
    · omega)⟩
theorem Turns.drewN {S : List Nat} {a w : World} (h : Turns S a w) (n : Nat) : Turns S a (w.drewN n) := ⟨h.os, h.tape, h.output, h.size, h.block⟩
theorem Turns.drew {S : List Nat} {a w : World} (h : Turns S a w) : Turns S a w.drew := ⟨h.os, h.tape, h.output, h.size, h.block⟩
theorem Turns.only {S : List Nat} {w w' : World} (h : Only S w w') : Turns S w w' := ⟨h.os, h.tape, h.output, h.size, h.block⟩
theorem Turns.below {S : List Nat} {w w' : World} (h : Below w.heap.size w w') : Turns S w w' := ⟨h.os, h.tape, h.output, h.size, fun k hk _ => h.block k hk⟩
theorem Turns.toBelow {S : List Nat} {w w' : World} (h : Turns S w w') (hS : ∀ b ∈ S, w.heap.size ≤ b) : Below w.heap.size w w' :=
  ⟨h.os, h.tape, h.output, h.size, fun k hk => h.block k hk (fun hm => by have := hS k hm; omega)⟩
theorem Turns.below_of {S : List Nat} {w w' : World} {B : Nat} (h : Turns S w w') (hB : B ≤ w.heap.size) (hS : ∀ b ∈ S, B ≤ b) : Below B w w' :=
  ⟨h.os, h.tape, h.output, h.size, fun k hk => h.block k (by omega) (fun hm => by have := hS k hm; omega)⟩
theorem Turns.alloc {S : List Nat} {a w : World} (h : Turns S a w) (o : Obj) : Turns S a (w.alloc o) :=
  h.trans ⟨rfl, rfl, rfl, by simp, fun k hk _ => Below.heap_alloc _ _ _ hk⟩
theorem Turns.setCell {S : List Nat} {a w : World} (h : Turns S a w) {p : Addr} (hp : p.block ∈ S ∨ a.heap.size ≤ p.block) (u : Value) : Turns S a (w.setCell p u) :=
  ⟨h.os, h.tape, h.output, by simpa [World.setCell] using h.size, fun k hk hn => by
    rw [Below.heap_setCell _ _ _ _ (fun e => by
      rcases hp with hp | hp
      · exact hn (e ▸ hp)
      · omega)]
    exact h.block k hk hn⟩
theorem Turns.setBlock {S : List Nat} {a w : World} (h : Turns S a w) {b : Nat} (hb : b ∈ S ∨ a.heap.size ≤ b) (o : Obj) : Turns S a (setBlock w b o) :=
  ⟨h.os, h.tape, h.output, by simpa [ChangeMaps.setBlock] using h.size, fun k hk hn => by
    have hne : b ≠ k := fun e => by
      subst e
      rcases hb with hb | hb
      · exact hn hb
      · omega
    show (w.heap.setIfInBounds b o)[k]? = _
    rw [Array.getElem?_setIfInBounds_ne hne]
    exact h.block k hk hn⟩
theorem Turns.grown {S : List Nat} {a w w' : World} {row : Option Nat} (h : Turns S a w) (hg : w.grownBy w' row) (hr : ∀ k, row = some k → k ∈ S ∨ a.heap.size ≤ k) : Turns S a w' :=
  ⟨hg.os.trans h.os, hg.tape.trans h.tape, hg.output.trans h.output, Nat.le_trans h.size hg.size, fun k hk hn => (hg.block k (Nat.lt_of_lt_of_le hk h.size) (fun e => by
    rcases hr k e.symm with h1 | h1
    · exact hn h1
    · omega)).trans (h.block k hk hn)⟩
theorem Turns.heap {S : List Nat} {w w' : World} (h : Turns S w w') {b : Nat} {o : Obj} (hb : w.heap[b]? = some o) (hn : b ∉ S) : w'.heap[b]? = some o :=
  (h.block b (blk_lt hb) hn).trans hb
theorem Turns.cell {S : List Nat} {w w' : World} (h : Turns S w w') {p : Addr} {v : Value} (hc : w.cell? p = some v) (hn : p.block ∉ S) : w'.cell? p = some v := by
  have hlt : p.block < w.heap.size := by
    rcases Nat.lt_or_ge p.block w.heap.size with h1 | h1
    · exact h1
    · unfold World.cell? at hc
      rw [Array.getElem?_eq_none h1] at hc
      cases hc
  rw [World.cell?_of_block (h.block _ hlt hn), hc]
theorem Glob.turns {w w' : World} {S : List Nat} (h : Glob w) (ho : Turns S w w') (hS : ∀ b ∈ S, gTop ≤ b) : Glob w' := h.belowTop (ho.below_of h.top hS)
theorem Has.turns {r : Ro} {w w' : World} {S : List Nat} (h : Has r w) (ho : Turns S w w') (hS : ∀ b ∈ S, r b = .none) : Has r w' := fun b o hb =>
  ho.heap (h b o hb) (fun hm => by rw [hS b hm] at hb; cases hb)

/-! ### maps -/
def encM (l : List (Bytes × Value)) : List (Value × Value) := l.map fun p => (.string (mkS p.1), p.2)
structure MapIs (es : Array MapEntry) (clock : Nat) (l : List (Bytes × Value)) : Prop where
  stamped : Stamped es clock
  rise : Rising l
  rd : (es.toList.map fun e => (e.key, e.val)).Perm (encM l)
def MapAt (w : World) (b : Nat) (l : List (Bytes × Value)) : Prop := ∃ es clock, w.heap[b]? = some (.map es clock) ∧ MapIs es clock l

theorem mkS_inj {a b : Bytes} (h : mkS a = mkS b) : a = b := by
  have := congrArg (fun s : ByteArray => s.data.toList) h
  simpa using this
theorem MapAt.rise {w : World} {b : Nat} {l : List (Bytes × Value)} (h : MapAt w b l) : Rising l := by
  obtain ⟨_, _, _, h⟩ := h; exact h.rise
theorem MapAt.lt {w : World} {b : Nat} {l : List (Bytes × Value)} (h : MapAt w b l) : b < w.heap.size := by
  obtain ⟨_, _, h, _⟩ := h; exact blk_lt h
theorem MapAt.turns {w w' : World} {S : List Nat} {b : Nat} {l : List (Bytes × Value)} (h : MapAt w b l) (ht : Turns S w w') (hn : b ∉ S) : MapAt w' b l := by
  obtain ⟨es, c, h1, h2⟩ := h
  exact ⟨es, c, ht.heap h1 hn, h2⟩
theorem MapAt.new (w : World) : MapAt (w.alloc (.map #[] 0)) w.heap.size [] :=
  ⟨#[], 0, blk_new w _, ⟨by simp [Stamped], rising_nil, .nil⟩⟩
theorem MapIs.keys {es : Array MapEntry} {clock : Nat} {l : List (Bytes × Value)} (h : MapIs es clock l) {e : MapEntry} (he : e ∈ es.toList) : ∃ k, e.key = .string (mkS k) ∧ (k, e.val) ∈ l := by
  have hm : (e.key, e.val) ∈ es.toList.map fun e => (e.key, e.val) := List.mem_map.2 ⟨e, he, rfl⟩
  rw [h.rd.mem_iff] at hm
  obtain ⟨p, hp, he⟩ := List.mem_map.1 hm
  simp only [Prod.mk.injEq] at he
  exact ⟨p.1, he.1.symm, by rw [← he.2]; exact hp⟩
theorem MapIs.isKey {es : Array MapEntry} {clock : Nat} {l : List (Bytes × Value)} (h : MapIs es clock l) : ∀ x ∈ es.toList, IsKey .string x.key := fun x hx => by
  obtain ⟨k, hk, _⟩ := h.keys hx
  rw [hk]; trivial
theorem MapIs.size {es : Array MapEntry} {clock : Nat} {l : List (Bytes × Value)} (h : MapIs es clock l) : es.size = l.length := by
  have := h.rd.length_eq
  simpa [encM] using this

section
variable {P : Program} {w : World} {T K E : TypeId} {b : Nat} {l : List (Bytes × Value)}

theorem find_map {es : Array MapEntry} {clock : Nat} (h : MapIs es clock l) (k : Bytes) :
    (Instr.findNow .string (.string (mkS k)) es.toList 0 = some none ∧ getK l k = none ∧ ∀ x ∈ es.toList, x.key ≠ .string (mkS k)) ∨
    ∃ j e, Instr.findNow .string (.string (mkS k)) es.toList 0 = some (some (j, e.val)) ∧ es.toList[j]? = some e ∧ e.key = .string (mkS k) ∧ getK l k = some e.val := by
  rcases findNow_spec (d := .string) (k := .string (mkS k)) trivial es.toList 0 h.isKey with ⟨h1, h2⟩ | ⟨j, e, h1, h2, h3⟩
  · refine .inl ⟨h1, getK_none_iff.2 fun p hp hpk => ?_, h2⟩
    have hm : ((Value.string (mkS p.1), p.2) : Value × Value) ∈ encM l := List.mem_map.2 ⟨p, hp, rfl⟩
    rw [← h.rd.mem_iff] at hm
    obtain ⟨x, hx, he⟩ := List.mem_map.1 hm
    simp only [Prod.mk.injEq] at he
    exact h2 x hx (by rw [he.1, hpk])
  · rw [Nat.zero_add] at h1
    refine .inr ⟨j, e, h1, h2, h3, ?_⟩
    obtain ⟨k', hk', hm⟩ := h.keys (List.mem_of_getElem? h2)
    rw [h3] at hk'
    have := mkS_inj (Value.string.inj hk')
    subst this
    exact getK_of_mem (rising_keys h.rise) hm

/-- 'm[k]'. -/
theorem run_look (hT : P.underlying T = some (.map K E)) (hK : P.underlying K = some .string) {z : Value} (hz : ∀ w, (zeroValue E).run P w = .ok z w) (hm : MapAt w b l) (k : Bytes) :
    (Instr.lookup T (.map (some b)) (.string (mkS k)) false).run P w = .ok ((getK l k).getD z) w := by
  obtain ⟨es, clock, hb, h⟩ := hm
  rcases find_map h k with ⟨h1, h2, _⟩ | ⟨j, e, h1, _, _, h2⟩
  · simp [Instr.lookup, run_underlying hT, run_getObj_map hb, run_checkKey hK (show IsKey .string (.string (mkS k)) from trivial), run_findKey hK h1, hz, Result.andThen, h2]
  · simp [Instr.lookup, run_underlying hT, run_getObj_map hb, run_checkKey hK (show IsKey .string (.string (mkS k)) from trivial), run_findKey hK h1, Result.andThen, h2]
/-- 'v, ok := m[k]'. -/
theorem run_look_ok (hT : P.underlying T = some (.map K E)) (hK : P.underlying K = some .string) {z : Value} (hz : ∀ w, (zeroValue E).run P w = .ok z w) (hm : MapAt w b l) (k : Bytes) :
    (Instr.lookup T (.map (some b)) (.string (mkS k)) true).run P w = .ok (.tuple #[(getK l k).getD z, .bool (getK l k).isSome]) w := by
  obtain ⟨es, clock, hb, h⟩ := hm
  rcases find_map h k with ⟨h1, h2, _⟩ | ⟨j, e, h1, _, _, h2⟩
  · simp [Instr.lookup, run_underlying hT, run_getObj_map hb, run_checkKey hK (show IsKey .string (.string (mkS k)) from trivial), run_findKey hK h1, hz, Result.andThen, h2]
  · simp [Instr.lookup, run_underlying hT, run_getObj_map hb, run_checkKey hK (show IsKey .string (.string (mkS k)) from trivial), run_findKey hK h1, Result.andThen, h2]
theorem run_len_map (hT : P.underlying T = some (.map K E)) (hm : MapAt w b l) (ty : TypeId) : (Builtin.len_ #[T] ty #[.map (some b)]).run P w = .ok (.int .i64 l.length) w := by
  obtain ⟨es, clock, hb, h⟩ := hm
  simp [Builtin.len_, run_underlying hT, run_getObj_map hb, Result.andThen, h.size, goInt]

theorem setBlock_same (w : World) {b : Nat} (hb : b < w.heap.size) (o : Obj) : (setBlock w b o).heap[b]? = some o := by simp [setBlock, hb]

theorem list_set_self {α : Type} {l : List α} {j : Nat} {x : α} (h : l[j]? = some x) : l.set j x = l := by
  apply List.ext_getElem?
  intro i
  rw [List.getElem?_set]
  split
  · rename_i e; subst e
    rw [h, if_pos (List.getElem?_eq_some_iff.1 h).1]
  · rfl

theorem other_entries {es : Array MapEntry} {clock : Nat} (h : MapIs es clock l) {k : Bytes} {j : Nat} {e : MapEntry} (hj : es.toList[j]? = some e) (hk : e.key = .string (mkS k)) :
    ((es.toList.map fun e => (e.key, e.val)).eraseIdx j).Perm (encM (l.filter fun p => p.1 != k)) := by
  have hjl : j < es.toList.length := (List.getElem?_eq_some_iff.1 hj).1
  have hjl' : j < (es.toList.map fun e => (e.key, e.val)).length := by rw [List.length_map]; exact hjl
  have he : (es.toList.map fun e => (e.key, e.val))[j]? = some (e.key, e.val) := by rw [List.getElem?_map, hj]; rfl
  have h1 : (es.toList.map fun e => (e.key, e.val)).Perm ((e.key, e.val) :: (es.toList.map fun e => (e.key, e.val)).eraseIdx j) := by
    have := set_perm _ j hjl' (e.key, e.val)
    rwa [list_set_self he] at this
  obtain ⟨k', hk', hm⟩ := h.keys (List.mem_of_getElem? hj)
  rw [hk] at hk'
  have := mkS_inj (Value.string.inj hk')
  subst this
  have h2 : (putK l k e.val).Perm l := by
    have := putK_rising h.rise k e.val
    rw [rising_ext this h.rise (fun x => ?_)]
    rw [getK_putK h.rise]
    split
    · rename_i e1; subst e1; exact (getK_of_mem (rising_keys h.rise) hm).symm
    · rfl
  have h3 : (encM l).Perm ((e.key, e.val) :: encM (l.filter fun p => p.1 != k)) := by
    have := (h2.symm.trans (putK_perm k e.val)).map fun p : Bytes × Value => ((Value.string (mkS p.1), p.2) : Value × Value)
    rw [hk]
    exact this
  exact List.Perm.cons_inv (h1.symm.trans (h.rd.trans h3))

/-- 'm[k] = v'. -/
theorem run_put (hT : P.underlying T = some (.map K E)) (hK : P.underlying K = some .string) (hm : MapAt w b l) (k : Bytes) (v : Value) :
    ∃ w', (Instr.mapUpdate T (.map (some b)) (.string (mkS k)) v).run P w = .ok () w' ∧ MapAt w' b (putK l k v) ∧ Turns [b] w w' := by
  obtain ⟨es, clock, hb, h⟩ := hm
  have hlt := blk_lt hb
  rcases find_map h k with ⟨h1, h2, h3⟩ | ⟨j, e, h1, h2, h3, h4⟩
  · refine ⟨setBlock w b (.map (es.push ⟨.string (mkS k), v, clock⟩) (clock + 1)), ?_, ⟨_, _, setBlock_same w hlt _, stamped_push h.stamped h3, putK_rising h.rise k v, ?_⟩, (Turns.refl _ w).setBlock (.inl (by simp)) _⟩
    · simp [Instr.mapUpdate, run_underlying hT, run_getObj_map hb, run_checkKey hK (show IsKey .string (.string (mkS k)) from trivial), run_findKey hK h1, run_setObj_map _ hb, Result.andThen, setBlock]
    · rw [Array.toList_push, List.map_append, List.map_singleton]
      have hf : (l.filter fun p => p.1 != k) = l := List.filter_eq_self.2 fun p hp => by simpa using getK_none_iff.1 h2 p hp
      have h5 := (putK_perm (l := l) k v).map fun p : Bytes × Value => ((Value.string (mkS p.1), p.2) : Value × Value)
      rw [hf] at h5
      exact (List.perm_append_singleton _ _).trans ((h.rd.cons _).trans h5.symm)
  · have hj : es[j]? = some e := by simpa using h2
    have hjl : j < es.toList.length := (List.getElem?_eq_some_iff.1 h2).1
    have hkeyf : ∀ e', es[j]? = some e' → ({ e' with key := .string (mkS k), val := v } : MapEntry).key = e'.key := fun e' he' => by rw [hj] at he'; cases he'; exact h3.symm
    have hlist : (es.modify j (fun e' => { e' with key := .string (mkS k), val := v })).toList = es.toList.set j { e with key := .string (mkS k), val := v } := by rw [Array.toList_modify, ChangeMaps.modify_eq_set _ _ _ _ h2]
    refine ⟨setBlock w b (.map (es.modify j fun e' => { e' with key := .string (mkS k), val := v }) clock), ?_, ⟨_, _, setBlock_same w hlt _, stamped_modify h.stamped _ _ (fun _ _ => rfl) (fun e' _ he' => hkeyf e' he'), putK_rising h.rise k v, ?_⟩, (Turns.refl _ w).setBlock (.inl (by simp)) _⟩
    · simp [Instr.mapUpdate, run_underlying hT, run_getObj_map hb, run_checkKey hK (show IsKey .string (.string (mkS k)) from trivial), run_findKey hK h1, hj, h3, run_keyThatStays (show IsKey .string (.string (mkS k)) from trivial), run_setObj_map _ hb, Result.andThen, setBlock]
    · rw [hlist, List.map_set]
      refine (set_perm _ _ (by simpa using hjl) _).trans (((other_entries h h2 h3).cons _).trans ?_)
      exact ((putK_perm (l := l) k v).map fun p : Bytes × Value => ((Value.string (mkS p.1), p.2) : Value × Value)).symm

/-! ### going over a map -/
/-- An iterator at r over the map at b: these entries have come, those are to come. -/
def RangeAt (w : World) (r b : Nat) (l done left : List (Bytes × Value)) : Prop :=
  ∃ es clock seen c0, w.heap[r]? = some (.mapIter (some b) clock seen c0) ∧ clock ≤ c0 ∧ w.heap[b]? = some (.map es clock) ∧ MapIs es clock l ∧
    ((leftOf es seen).toList.map fun e => (e.key, e.val)).Perm (encM left) ∧ (done ++ left).Perm l

theorem RangeAt.map {r : Nat} {done left : List (Bytes × Value)} (h : RangeAt w r b l done left) : MapAt w b l := by
  obtain ⟨es, clock, seen, c0, _, _, h2, h3, _⟩ := h
  exact ⟨es, clock, h2, h3⟩
theorem RangeAt.perm {r : Nat} {done left : List (Bytes × Value)} (h : RangeAt w r b l done left) : (done ++ left).Perm l := by
  obtain ⟨es, clock, seen, c0, _, _, _, _, _, h⟩ := h
  exact h
theorem RangeAt.turns {w' : World} {S : List Nat} {r : Nat} {done left : List (Bytes × Value)} (h : RangeAt w r b l done left) (ht : Turns S w w') (hr : r ∉ S) (hb : b ∉ S) : RangeAt w' r b l done left := by
  obtain ⟨es, clock, seen, c0, h1, h2, h3, h4⟩ := h
  exact ⟨es, clock, seen, c0, ht.heap h1 hr, h2, ht.heap h3 hb, h4⟩

theorem run_range_new (hT : P.underlying T = some (.map K E)) (hm : MapAt w b l) :
    ∃ o, (Instr.range T (.map (some b))).run P w = .ok (.pointer (some ⟨w.heap.size, 0, none⟩)) (w.alloc o) ∧ RangeAt (w.alloc o) w.heap.size b l [] l := by
  obtain ⟨es, clock, hb, h⟩ := hm
  refine ⟨.mapIter (some b) clock #[] clock, run_range_map w T K E b es clock hT hb, es, clock, #[], clock, blk_new w _, Nat.le_refl _, blk_old hb _, h, ?_, by simp⟩
  have : (leftOf es #[]) = es := by unfold leftOf; simp
  rw [this]; exact h.rd

/-- What a step of the range comes to. -/
def Stepped (P : Program) (w : World) (ty : TypeId) (r b : Nat) (l done left : List (Bytes × Value)) : Prop :=
  (left = [] ∧ (Instr.next (.pointer (some ⟨r, 0, none⟩)) false ty).run P w = .ok (.tuple #[.bool false]) w) ∨
  ∃ k v left' w', left.Perm ((k, v) :: left') ∧ (Instr.next (.pointer (some ⟨r, 0, none⟩)) false ty).run P w = .ok (.tuple #[.bool true, .string (mkS k), v]) w' ∧ RangeAt w' r b l (done ++ [(k, v)]) left' ∧
    (Instr.entry (.pointer (some ⟨r, 0, none⟩))).run P w' = .ok (.tuple #[.string (mkS k), v]) w' ∧ Turns [r] w w'

theorem range_step (ty : TypeId) {r : Nat} {done left : List (Bytes × Value)} (h : RangeAt w r b l done left) : Stepped P w ty r b l done left := by
  obtain ⟨es, clock, seen, c0, h1, h2, h3, h4, h5, h6⟩ := h
  rcases run_next_at (P := P) w ty r b clock c0 seen es clock h1 h3 h4.stamped.1 h2 with ⟨g1, g2⟩ | ⟨e, he, w1, hw1, g2⟩
  · refine .inl ⟨?_, g2⟩
    have := h5.length_eq
    rw [List.length_map] at this
    have h0 : (leftOf es seen).toList.length = 0 := by simpa using g1
    rw [h0] at this
    exact List.eq_nil_of_length_eq_zero (by simpa [encM] using this.symm)
  · obtain ⟨m1, m2⟩ := mem_left he
    obtain ⟨k, hk, hkm⟩ := h4.keys m1
    have hm : (e.key, e.val) ∈ encM left := h5.mem_iff.1 (List.mem_map.2 ⟨e, he, rfl⟩)
    obtain ⟨p, hp, hpe⟩ := List.mem_map.1 hm
    simp only [Prod.mk.injEq] at hpe
    obtain ⟨k2, v2⟩ := p
    dsimp only at hpe
    obtain ⟨q1, q2⟩ := hpe
    rw [hk] at q1
    have := mkS_inj (Value.string.inj q1)
    subst this
    subst q2
    obtain ⟨s, t, hst⟩ := List.append_of_mem hp
    have hperm : left.Perm ((k2, e.val) :: (s ++ t)) := by rw [hst]; exact List.perm_middle
    have hw1r : w1.heap = w.heap := by rcases hw1 with rfl | rfl <;> rfl
    have hr1 : w1.heap[r]? = some (.mapIter (some b) clock seen c0) := by rw [hw1r]; exact h1
    have hb1 : w1.heap[b]? = some (.map es clock) := by rw [hw1r]; exact h3
    have hne : r ≠ b := fun e => by subst e; rw [h1] at h3; cases h3
    have nr : (setBlock w1 r (.mapIter (some b) clock (seen.push e.born) clock)).heap[r]? = some (.mapIter (some b) clock (seen.push e.born) clock) := setBlock_same w1 (blk_lt hr1) _
    have nb : (setBlock w1 r (.mapIter (some b) clock (seen.push e.born) clock)).heap[b]? = some (.map es clock) := by
      show (w1.heap.setIfInBounds r _)[b]? = _
      rw [Array.getElem?_setIfInBounds_ne hne]; exact hb1
    refine .inr ⟨k2, e.val, s ++ t, _, hperm, by rw [g2, hk], ⟨es, clock, seen.push e.born, clock, nr, Nat.le_refl _, nb, h4, ?_, ?_⟩, ?_, ?_⟩
    · have hleft : (leftOf es seen).toList.Perm (e :: (leftOf es (seen.push e.born)).toList) := by
        unfold leftOf
        rw [Array.toList_filter, Array.toList_filter]
        have hn := h4.stamped.2.1
        clear g2 nr nb
        generalize es.toList = L at m1 hn
        induction L with
        | nil => cases m1
        | cons x L ih =>
          simp only [List.map_cons, List.nodup_cons] at hn
          rw [List.filter_cons, List.filter_cons]
          rcases List.mem_cons.1 m1 with rfl | hx
          · rw [if_pos (by simpa using m2), if_neg (by simp)]
            refine List.Perm.cons _ (List.Perm.of_eq ?_)
            refine List.filter_congr fun y hy => ?_
            have : y.born ≠ e.born := fun q => hn.1 (List.mem_map.2 ⟨y, hy, q⟩)
            rw [contains_push]
            simp [this]
          · have hxe : x.born ≠ e.born := fun q => hn.1 (List.mem_map.2 ⟨e, hx, q.symm⟩)
            have hc : (!(seen.push e.born).contains x.born) = !seen.contains x.born := by rw [contains_push]; simp [hxe]
            rw [hc]
            split
            · exact ((ih hx hn.2).cons x).trans (List.Perm.swap _ _ _)
            · exact ih hx hn.2
      have e1 := (hleft.map fun e => (e.key, e.val)).symm.trans (h5.trans (hperm.map fun p : Bytes × Value => ((Value.string (mkS p.1), p.2) : Value × Value)))
      rw [List.map_cons, List.map_cons, hk] at e1
      exact List.Perm.cons_inv e1
    · rw [List.append_assoc]
      exact ((hperm.symm.append_left done)).trans h6
    · have := run_entry_at (P := P) _ r b clock seen es clock e nr nb m1 h4.stamped.2.1
      rw [hk] at this
      exact this
    · refine Turns.setBlock ?_ (.inl (by simp)) _
      rcases hw1 with rfl | rfl
      · exact Turns.refl _ _
      · exact (Turns.refl _ _).drew
end

end Toc
