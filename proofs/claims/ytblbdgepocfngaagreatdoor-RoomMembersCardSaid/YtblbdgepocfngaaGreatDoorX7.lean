/-
  CardMembers: THE CARD OF 'tocsinlaw09.RoomMembers'. My own work, after the released toy of a law over a table.
-/
import Derived.Test.YtblbdgepocfngaaGreatDoorWI
import Derived.Test.YtblbdgepocfngaaGreatDoorX8
import Derived.Deep.Slices
import Derived.Carry
namespace Go.Proofs.YtblbdgepocfngaaGreatDoor.RoomMembers
open Go.ChangeShapes Go.WideShapes Go.ChangeAt Go.RowKit Go.Lib

theorem i64_in64 {n : Int} (h : (Lit.int .i64 n).wf = true) : Toc.In64 n := by
  have e1 : IntKind.min .i64 = -9223372036854775808 := by decide
  have e2 : IntKind.max .i64 = 9223372036854775807 := by decide
  unfold Lit.wf at h
  rw [Bool.and_eq_true, decide_eq_true_eq, decide_eq_true_eq, e1, e2] at h
  exact h

theorem laidOut : laidOutB Tryz.prog = true := by kernel_rfl
theorem laid_same : Rows.roomMembersRow.laid = laidAll := by kernel_rfl

instance : Inhabited Toc.Deed := ⟨⟨0, 0, 0, 0, 0⟩⟩

/-- A deed's cells. -/
theorem open_deed {H : Type} {enc : TypeId × Value → H} {w : World} {n : Nat} {cs : List Value} {x : DataW H × List MemPlace} (h : DataW.trod enc Tryz.prog w 0 (fun _ => true) true n 54 cs = some x) : ∃ d : Toc.Deed, d.ok ∧ cs = d.cells.toList := by
  obtain ⟨fs, hfs⟩ : ∃ fs, Tryz.prog.underlying 54 = some (.struct fs) ∧ (fs.toList.map fun f => (f.offset, f.type)) = [(0, 3), (1, 3), (2, 3), (3, 3), (4, 3)] := ⟨_, Tryz.underlying54, by kernel_rfl⟩
  obtain ⟨hu, ho⟩ := hfs
  obtain ⟨xs, k, hk, hx, hl, hxl, hf⟩ := DataW.trod_struct hu h
  have hcl : cs.length = 5 := by rw [hl]; kernel_rfl
  have c1 : Tryz.prog.cellsOf 3 = 1 := by kernel_rfl
  have hfl : fs.size = 5 := by have := congrArg List.length ho; simpa using this
  have hfi : ∀ i, i < 5 → ∃ f, fs[i]? = some f ∧ f.offset = i ∧ f.type = 3 := by
    intro i hi
    have h1 := congrArg (fun l : List (Nat × Nat) => l[i]?) ho
    simp only [List.getElem?_map, Array.getElem?_toList] at h1
    have : i = 0 ∨ i = 1 ∨ i = 2 ∨ i = 3 ∨ i = 4 := by omega
    rcases this with rfl | rfl | rfl | rfl | rfl
    all_goals
      obtain ⟨f, hf1, hf2⟩ := Option.map_eq_some_iff.1 h1
      obtain ⟨e1, e2⟩ := Prod.mk.inj hf2
      exact ⟨f, hf1, e1, e2⟩
  have hone : ∀ i, i < 5 → ∃ z : Int, cs[i]? = some (.int .i64 z) ∧ Toc.In64 z := by
    intro i hi
    obtain ⟨f, h1, h2, h3⟩ := hfi i hi
    have h4 := hf i f h1
    rw [h2, h3, c1] at h4
    obtain ⟨y, hy⟩ : ∃ y, xs[i]? = some y := ⟨_, List.getElem?_eq_getElem (by rw [hxl, hfl]; exact hi)⟩
    rw [hy] at h4
    obtain ⟨z, hz, _, hw⟩ := DataW.trod_int Tryz.underlying3 h4
    refine ⟨z, ?_, i64_in64 hw⟩
    have h5 := congrArg (fun l : List Value => l[0]?) hz
    simpa using h5
  obtain ⟨z0, a0, b0⟩ := hone 0 (by omega)
  obtain ⟨z1, a1, b1⟩ := hone 1 (by omega)
  obtain ⟨z2, a2, b2⟩ := hone 2 (by omega)
  obtain ⟨z3, a3, b3⟩ := hone 3 (by omega)
  obtain ⟨z4, a4, b4⟩ := hone 4 (by omega)
  refine ⟨⟨z0, z1, z2, z3, z4⟩, ⟨b0, b1, b2, b3, b4⟩, ?_⟩
  obtain ⟨y0, y1, y2, y3, y4, rfl⟩ := Toc.list5 hcl
  simp only [List.getElem?_cons_zero, List.getElem?_cons_succ, Option.some.injEq] at a0 a1 a2 a3 a4
  subst a0; subst a1; subst a2; subst a3; subst a4
  rfl

theorem cell_spot {w : World} {a : Addr} {v : Value} (h : w.cell? a = some v) : a.spot = none ∧ a.block < w.heap.size := by
  unfold World.cell? at h
  split at h
  · rename_i hb
    refine ⟨?_, (Array.getElem?_eq_some_iff.1 hb).1⟩
    cases hs : a.spot with
    | none => rfl
    | some x => rw [hs] at h; simp at h
  · cases h

/-- The deeds out of a slice. -/
theorem open_deeds {H : Type} {enc : TypeId × Value → H} {w : World} {a : Option Addr} {len cap : Nat} {d : DataW H} {ps : List MemPlace} (h : DataW.Trod enc Tryz.prog w 0 (fun _ => true) true 50 (.slice a len cap) d ps) :
    ∃ ds : List Toc.Deed, ds.length = len ∧ len ≤ maxLen ∧ (∀ x ∈ ds, x.ok) ∧ Toc.DeedsAt w a ds := by
  obtain ⟨fuel, h⟩ := h
  have ce : Tryz.prog.cellsOf 54 = 5 := by kernel_rfl
  rcases Go.Deep.open_slice Tryz.underlying50 h with ⟨h0, _⟩ | ⟨b, len', cap', m, n, D, Pl, h0, hb, hl, hm, hmm, _, hx⟩
  · have h1 : Value.slice a len cap = Value.slice none 0 0 := by simpa [Value.cells] using h0
    injection h1 with e1 e2 e3
    subst e2
    exact ⟨[], rfl, Nat.zero_le _, (fun x hx => by cases hx), fun i d hd => by simp at hd⟩
  · have h1 : Value.slice a len cap = Value.slice (some b) len' cap' := by simpa [Value.cells] using h0
    injection h1 with e1 e2 e3
    subst e1; subst e2; subst e3
    have hlm : len ≤ m := by rw [hmm]; split <;> omega
    have each : ∀ i, i < len → ∃ q : Toc.Deed, q.ok ∧ ∀ k (v : Value), q.cells[k]? = some v → w.cell? (b.add (i * 5 + k)) = some v := by
      intro i hi
      obtain ⟨cs', g1, g2⟩ := hx i (by omega)
      rw [ce] at g1
      obtain ⟨_, hlen, hcell⟩ := World.cells?_some g1
      obtain ⟨q, hq, rfl⟩ := open_deed g2
      refine ⟨q, hq, fun k v hk => ?_⟩
      have hk5 : k < 5 := by
        have := (Array.getElem?_eq_some_iff.1 hk).1
        simpa [Toc.Deed.cells] using this
      have := hcell k hk5
      rw [Array.getElem?_toList, hk] at this
      rw [Go.Deep.add_add] at this
      exact this
    obtain ⟨q, hq⟩ := Go.Deep.choose_lt each
    refine ⟨(List.range len).map q, by simp, by omega, fun x hx => ?_, fun i d hd => ?_⟩
    · obtain ⟨i, hi, rfl⟩ := List.mem_map.1 hx
      exact (hq i (List.mem_range.1 hi)).1
    · rw [List.getElem?_map] at hd
      obtain ⟨j, hj, rfl⟩ := Option.map_eq_some_iff.1 hd
      obtain ⟨hjl, hje⟩ := List.getElem?_eq_some_iff.1 hj
      simp at hjl hje
      subst hje
      have hz : w.cell? (b.add (0 * 5 + 0)) = some (.int .i64 (q 0).kind) := (hq 0 (by omega)).2 0 _ rfl
      have hz' : w.cell? b = some (.int .i64 (q 0).kind) := by simpa [Addr.add] using hz
      obtain ⟨hs, hlt⟩ := cell_spot hz'
      obtain ⟨bb, bo, bs⟩ := b
      dsimp only at hs
      subst hs
      have hadd : ∀ n, (⟨bb, bo, none⟩ : Addr).add n = ⟨bb, bo + n, none⟩ := fun n => by
        unfold Addr.add
        split
        · rename_i h; subst h; rfl
        · rfl
      refine ⟨bb, bo, rfl, hlt, fun k v hk => ?_⟩
      have := (hq i hjl).2 k v hk
      rw [hadd] at this
      rw [Nat.add_assoc]
      exact this

set_option maxRecDepth 100000 in
theorem contract (H : Type) (enc : TypeId × Value → H) (W : World) (base : Nat) (args : Array Value) (ds gs : List (DataW H)) (before : List MemPlace)
    (hval : ∀ (j : Nat) t v, Tryz.f6.params[j]? = some t → args[j]? = some v → Value.okWide Tryz.prog W .any base t v)
    (hW : DataW.Whole enc Tryz.prog Tryz.f6.params.toList Rows.roomMembersSpec.vars false W args.toList ds gs before)
    (hL : laidMetH Tryz.prog Rows.roomMembersRow.laid W) :
    Calls Tryz.prog 6 args W fun e W' => ∃ v, e = .returned v ∧ Rows.roomMembersSpec.post enc Tryz.prog Tryz.f6 false true false false W args v W' := by
  have hW' := hW
  obtain ⟨p, q, hA0, hV, rfl, hfz, hnd⟩ := hW
  have hA : DataW.TrodAll enc Tryz.prog W 0 (fun _ => true) true Tryz.f6.params.toList args.toList ds p := hA0
  rw [Tryz.params6] at hA hval
  obtain ⟨v0, vs0, d0, ds0, p0, q0, hargs, rfl, rfl, h0, r0⟩ := trodAll_cons hA
  obtain ⟨rfl, rfl, rfl⟩ := trodAll_nil r0
  obtain rfl : args = #[v0] := by cases args; simp_all
  obtain ⟨rfl, rfl⟩ := trodVars_none hV
  obtain ⟨a, len, cap, rfl⟩ := okWide_slice Tryz.underlying50 (hval 0 50 v0 rfl rfl)
  clear hA0
  simp only [List.append_nil] at hW'
  have hlt : ∀ x ∈ p0, x.block < W.heap.size := fun x hx => by simpa using hW'.lt x hx
  obtain ⟨es, hel, hml, hok, hat⟩ := open_deeds h0
  have hL' : laidMet Tryz.prog laidAll W := by rw [laid_same] at hL; exact hL
  have hm2 : len ≤ 9223372036854775807 := hml
  refine (Toc.lawMembers_any W (glob_of_laid hL') es hok hel hm2 hat).mono fun e W' ⟨he, hb⟩ => ?_
  subst he
  exact ⟨_, rfl, _, _, _, [], p0 ++ [], [], hW', trodAll_cons_mk (shut_bool Tryz.underlying4 _) trodAll_mk0, trodAll_cons_mk (Below.trod laidOut (by kernel_rfl) (of_decide_eq_true (by kernel_rfl)) h0 hb hlt) trodAll_mk0, rfl, hb.frame _, fun h => by cases h⟩

theorem reads (os : Os) {H : Type} (enc : TypeId × Value → H) : ∃ places, DataW.whole enc Tryz.prog ((laidWorld os).forCall (fun _ _ => 0) ⟨#[], #[.slice none 0 0], []⟩).memory Tryz.f6.params.toList Rows.roomMembersSpec.vars false #[Value.slice none 0 0].toList 8 = some ([.nil], [], places) :=
  ⟨[], by kernel_rfl⟩

set_option maxRecDepth 100000 in
theorem lifted (os : Os) (started : os.Started) (H : Type) (enc : TypeId × Value → H) (F : Stop.Interp) :
    ReturnsInHanded {} Tryz.checked os 6 .any ((OpenSpec.ofChange Rows.roomMembersSpec).preRow enc Tryz.prog Tryz.f6 Rows.roomMembersRow.domain false Rows.roomMembersRow.laid) (((OpenSpec.ofChange Rows.roomMembersSpec).at F).post enc Tryz.prog Tryz.f6 false true false false) := by
  obtain ⟨places, hx⟩ := reads os enc
  refine returnsInHanded_of_row (C := Tryz.checked) (s := OpenSpec.ofChange Rows.roomMembersSpec) cardOwn started (by kernel_rfl) Tryz.func6
    (witness_row_at (enc := enc) (C := Tryz.checked) false (laidWorld os) #[.slice none 0 0] rfl (by kernel_rfl) (by kernel_rfl) (by kernel_rfl)
      (OpenSpec.preRow_of_cond 8 hx (by kernel_rfl) (fun k hk => by cases hk) (by kernel_rfl) (by rw [laid_same]; exact laid_met os _))) ?_
  intro W base args ds gs before hval hW _ _ _ hL _ _
  exact contract H enc W base args ds gs before hval hW hL

theorem named : Tryz.pinned.checked.prog.funcNamed Rows.roomMembersRow.func = some 6 := by kernel_rfl
theorem closed : joinedFacts Tryz.pinned.checked.prog 6 Tryz.f6 (OpenSpec.ofChange Rows.roomMembersSpec).bare Rows.roomMembersRow = true := by kernel_rfl
theorem isInst : Tryz.f6.isInstance Tryz.pinned.checked.prog Rows.roomMembersRow.origin Rows.roomMembersRow.targs := of_decide_eq_true (by kernel_rfl)
theorem isWrap : Tryz.f6.isWrapper Tryz.pinned.checked.prog Rows.roomMembersRow.wrapper Rows.roomMembersRow.mainSum := by unfold Func.isWrapper; first | (rw [if_pos (by decide +kernel)]; kernel_rfl) | (rw [if_neg (by decide +kernel)]; exact ⟨rfl, rfl⟩)

theorem said : Rows.RoomMembersSaid :=
  OpenClaim.holds_of_cond 6 Tryz.f6 rfl rfl rfl rfl rfl rfl rfl ⟨rfl, rfl, rfl, rfl, rfl⟩ rfl rfl rfl rfl rfl named Tryz.func6 closed isInst isWrap
    (fun os started H enc _ F => by rw [OpenClaim.pre_eq_preRow]; exact lifted os started H enc F)

theorem plain (f : FuncId) (fn : Func) (hf : Tryz.pinned.checked.prog.funcNamed "tocsin/tocsinlaw09.RoomMembers" = some f) (hfn : Tryz.pinned.checked.prog.funcs[f]? = some fn) :
    true = Tryz.pinned.checked.prog.looks [] ∧ ∀ (j : Nat) t, fn.params[j]? = some t → Tryz.pinned.checked.prog.wantsStandIn t = false := by
  obtain rfl : f = 6 := Option.some.inj ((show Tryz.prog.funcNamed "tocsin/tocsinlaw09.RoomMembers" = some 6 by kernel_rfl).symm.trans hf) |>.symm
  obtain rfl : fn = Tryz.f6 := (Option.some.inj (Tryz.func6.symm.trans hfn)).symm
  refine ⟨by kernel_rfl, fun j t ht => ?_⟩
  rw [Tryz.params6] at ht
  obtain rfl : t = 50 := by simpa using Array.mem_of_getElem? ht
  exact (show Tryz.prog.wantsStandIn 50 = false by kernel_rfl)

/-- THE CARD. -/
theorem card : Rows.RoomMembersCardSaid :=
  Claim7.holds_tied_plain_at .later [] _ _ _ _ said (fun _ h => by cases h) (by kernel_rfl) (fun _ h => by cases h) roomMembers_row_tie rfl ⟨rfl, rfl⟩ (by kernel_rfl) rfl plain (by kernel_rfl)
end Go.Proofs.YtblbdgepocfngaaGreatDoor.RoomMembers
namespace Go.Proofs.YtblbdgepocfngaaGreatDoor
/-- The statement as it is given. -/
theorem roomMembers_card : Rows.RoomMembersCardSaid := RoomMembers.card
end Go.Proofs.YtblbdgepocfngaaGreatDoor
