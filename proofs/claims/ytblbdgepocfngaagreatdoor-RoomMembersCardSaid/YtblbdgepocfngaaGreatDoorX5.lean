/-
  MembersL: What RoomMembers keeps beside a room, in plain words.
  ApplyD: Apply of a deed's event.
  LawMemL: What RoomMembers' walk keeps.
  InnerF: What a round of RoomMembers' inner loop asks.
-/
import Derived.Test.YtblbdgepocfngaaGreatDoorX4
import Derived.Test.YtblbdgepocfngaaGreatDoorX2
import Derived.Test.YtblbdgepocfngaaGreatDoorX3
import Derived.Test.YtblbdgepocfngaaGreatDoorX6
import Derived.Test.YtblbdgepocfngaaGreatDoorWF
import Derived.Test.YtblbdgepocfngaaGreatDoorWM
namespace Toc
open Go Go.RowKit Go.Proofs

theorem map_inj {α β : Type} {f : α → β} (hf : ∀ a b, f a = f b → a = b) : ∀ {l l' : List α}, l.map f = l'.map f → l = l'
  | [], [], _ => rfl
  | [], _ :: _, h => by cases h
  | _ :: _, [], h => by cases h
  | a :: l, b :: l', h => by
    rw [List.map_cons, List.map_cons] at h
    obtain ⟨h1, h2⟩ := List.cons.inj h
    rw [hf _ _ h1, map_inj hf h2]
theorem map_inj_on {α β : Type} {f : α → β} : ∀ {l l' : List α}, (∀ a ∈ l, ∀ b ∈ l', f a = f b → a = b) → l.map f = l'.map f → l = l'
  | [], [], _, _ => rfl
  | [], _ :: _, _, h => by cases h
  | _ :: _, [], _, h => by cases h
  | a :: l, b :: l', hf, h => by
    rw [List.map_cons, List.map_cons] at h
    obtain ⟨h1, h2⟩ := List.cons.inj h
    rw [hf a (.head _) b (.head _) h1, map_inj_on (fun x hx y hy => hf x (.tail _ hx) y (.tail _ hy)) h2]
theorem nums_inj {l l' : List (Bytes × Int)} (h : numsJ l = numsJ l') : l = l' := map_inj (fun a b e => by
  obtain ⟨e1, e2⟩ := Prod.mk.inj e
  exact Prod.ext e1 (by injection e2)) h
theorem word_inj {a b : Nat} (ha : a ≤ 3) (hb : b ≤ 3) (h : wordOfN a = wordOfN b) : a = b := by
  have : a = 0 ∨ a = 1 ∨ a = 2 ∨ a = 3 := by omega
  have : b = 0 ∨ b = 1 ∨ b = 2 ∨ b = 3 := by omega
  rcases ‹a = 0 ∨ _› with rfl | rfl | rfl | rfl <;> rcases ‹b = 0 ∨ _› with rfl | rfl | rfl | rfl <;> first | rfl | (revert h; decide)
theorem user_inj {a b : Nat × Bytes} (ha : a.1 ≤ 3) (hb : b.1 ≤ 3) (h : userJ a = userJ b) : a = b := by
  unfold userJ at h
  injection h with h
  obtain ⟨h1, h2⟩ := List.cons.inj h
  obtain ⟨h3, _⟩ := List.cons.inj h2
  have e1 := (Prod.mk.inj h1).2
  have e2 := (Prod.mk.inj h3).2
  injection e1 with e1
  injection e2 with e2
  exact Prod.ext (word_inj ha hb e2) e1
theorem users_inj {l l' : List (Bytes × (Nat × Bytes))} (ha : ∀ p ∈ l, p.2.1 ≤ 3) (hb : ∀ p ∈ l', p.2.1 ≤ 3) (h : usersJ l = usersJ l') : l = l' := map_inj_on (fun a hal b hbl e => by
  obtain ⟨e1, e2⟩ := Prod.mk.inj e
  exact Prod.ext e1 (user_inj (ha a hal) (hb b hbl) e2)) h

/-- Two rooms that are written alike. -/
theorem room_inj {R R' : RoomSt} (h : roomJ R = roomJ R') : R.creator = R'.creator ∧ R.other = R'.other ∧ R.leveled = R'.leveled ∧ R.levels = R'.levels ∧ R.needs = R'.needs ∧ usersJ R.known = usersJ R'.known := by
  unfold roomJ at h
  injection h with h
  simp only [List.cons.injEq, Prod.mk.injEq, true_and, and_true, JV.text.injEq, JV.int.injEq, JV.bool.injEq, JV.obj.injEq] at h
  obtain ⟨h1, h2, h3, h4, h5, h6, h7, h8⟩ := h
  exact ⟨h1, h2, h5, nums_inj h6, nums_inj h7, h8⟩

theorem putK_same {α : Type} {l : List (Bytes × α)} (h : Rising l) {k : Bytes} {v : α} (hk : getK l k = some v) : putK l k v = l :=
  rising_ext (putK_rising h k v) h fun x => by
    rw [getK_putK h]
    split
    · rename_i e; subst e; exact hk.symm
    · rfl
theorem changedM_no {R : RoomSt} (hr : Rising R.known) {k : Bytes} {m : Nat × Bytes} (h : changedM (getK R.known k) m = false) : putK R.known k m = R.known := by
  unfold changedM at h
  cases hg : getK R.known k with
  | none => rw [hg] at h; cases h
  | some x =>
    rw [hg] at h
    simp only [Bool.or_eq_false_iff, bne_eq_false_iff_eq] at h
    have : x = m := Prod.ext h.1 h.2
    subst this
    exact putK_same hr hg
theorem changedM_yes {R : RoomSt} (hr : Rising R.known) {k : Bytes} {m : Nat × Bytes} (h : putK R.known k m = R.known) : changedM (getK R.known k) m = false := by
  have := getK_putK hr k m k
  rw [h, if_pos rfl] at this
  rw [this]
  simp [changedM]
theorem changedL_no {R : RoomSt} {o : Option JV} (h : changedL R o = false) : levelG R o = R := by
  unfold changedL at h
  simp only [Bool.or_eq_false_iff, Bool.not_eq_false', bne_eq_false_iff_eq, decide_eq_true_eq] at h
  obtain ⟨h1, h2, h3, h4⟩ := h
  unfold levelG
  rw [h2, h3, h4]
  cases R
  simp at h1
  subst h1
  rfl
theorem changedL_yes {R : RoomSt} {o : Option JV} (h1 : true = R.leveled) (h2 : otherOf o = R.other) (h3 : numbersO userB (getO o sUsers) = R.levels) (h4 : numbersO (fun _ => true) (getO o sNotifications) = R.needs) : changedL R o = false := by
  unfold changedL
  rw [← h1, h2, h3, h4]
  simp

/-- What is changed shows: membership. -/
theorem shows_M {R : RoomSt} {E : Ev} (hr : Rising R.known) (hk : ∀ p ∈ R.known, p.2.1 ≤ 3) (hm : (joinsJ (contentO E)).1 ≤ 3) : changedM (getK R.known E.key) (joinsJ (contentO E)) = decide (printL (roomJ R) ≠ printL (roomJ (applyM R E))) := by
  cases hc : changedM (getK R.known E.key) (joinsJ (contentO E)) with
  | false =>
    have := changedM_no hr hc
    have e : applyM R E = R := by unfold applyM; rw [this]
    rw [e]; simp
  | true =>
    symm
    refine decide_eq_true fun e => ?_
    have h1 := (room_inj (printL_inj e)).2.2.2.2.2
    have h2 := users_inj hk (fun p hp => by
      rcases mem_putK hp with rfl | hp
      · exact hm
      · exact hk p hp) h1
    have := changedM_yes (R := R) hr h2.symm
    rw [hc] at this; cases this
theorem shows_L {R : RoomSt} {o : Option JV} : changedL R o = decide (printL (roomJ R) ≠ printL (roomJ (levelG R o))) := by
  cases hc : changedL R o with
  | false => rw [changedL_no hc]; simp
  | true =>
    symm
    refine decide_eq_true fun e => ?_
    obtain ⟨_, h2, h3, h4, h5, _⟩ := room_inj (printL_inj e)
    have := changedL_yes (R := R) (o := o) h3.symm h2.symm h4.symm h5.symm
    rw [hc] at this; cases this
theorem again_M {R : RoomSt} {E : Ev} (hr : Rising R.known) : changedM (getK (applyM R E).known E.key) (joinsJ (contentO E)) = false ∧ applyM (applyM R E) E = applyM R E := by
  have h1 : Rising (applyM R E).known := putK_rising hr _ _
  have h2 : getK (applyM R E).known E.key = some (joinsJ (contentO E)) := by unfold applyM; rw [getK_putK hr, if_pos rfl]
  refine ⟨by rw [h2]; simp [changedM], ?_⟩
  show { (applyM R E) with known := putK (applyM R E).known E.key (joinsJ (contentO E)) } = _
  rw [putK_same h1 h2]
theorem again_L {R : RoomSt} {o : Option JV} : changedL (levelG R o) o = false ∧ levelG (levelG R o) o = levelG R o := ⟨changedL_yes rfl rfl rfl rfl, rfl⟩

/-! ### what the law keeps -/
def usr (k : Nat) : Bytes := userL.getD k []
structure LSt where
  ins : List Bool
  nms : List Bytes
  lev : Int
  who : Bytes
  some : Bool
def LSt.init : LSt := ⟨[false, false, false, false, false], [[], [], [], [], []], 0, [], false⟩

structure Inv (R : RoomSt) (S : LSt) : Prop where
  id : R.id = sR
  creator : R.creator = []
  needs : R.needs = []
  leveled : R.leveled = S.some
  lv : S.some = true → R.levels = [(S.who, S.lev)] ∧ R.other = 10 + S.lev ∧ 0 ≤ S.lev ∧ S.lev ≤ 9 ∧ S.who ∈ userL
  lf : S.some = false → R.levels = [] ∧ R.other = 0
  rise : Rising R.known
  keys : ∀ p ∈ R.known, p.1 ∈ userL ∧ p.2.1 ≤ 3 ∧ p.2.2.length ≤ 2 ∧ asciiB p.2.2 = true
  lens : S.ins.length = 5 ∧ S.nms.length = 5
  mem : ∀ k, k < 5 → S.ins[k]? = some (decide ((memD (getK R.known (usr k))).1 = 1)) ∧ S.nms[k]? = some (memD (getK R.known (usr k))).2

theorem Inv.init : Inv (newRoom sR) LSt.init :=
  ⟨rfl, rfl, rfl, rfl, (fun h => by cases h), fun _ => ⟨rfl, rfl⟩, rising_nil, (fun p hp => by cases hp), ⟨rfl, rfl⟩, fun k hk => by
    have : k = 0 ∨ k = 1 ∨ k = 2 ∨ k = 3 ∨ k = 4 := by omega
    rcases this with rfl | rfl | rfl | rfl | rfl <;> exact ⟨rfl, rfl⟩⟩

theorem few_keys {α : Type} {l : List (Bytes × α)} (h : Rising l) (hk : ∀ p ∈ l, p.1 ∈ userL) : l.length ≤ 5 := by
  have h1 := rising_keys h
  have h2 : ∀ (a b : List Bytes), a.Nodup → (∀ x ∈ a, x ∈ b) → a.length ≤ b.length := by
    intro a
    induction a with
    | nil => intro b _ _; simp
    | cons x a ih =>
      intro b hn hs
      obtain ⟨s, t, rfl⟩ := List.append_of_mem (hs x (.head _))
      rw [List.nodup_cons] at hn
      have := ih (s ++ t) hn.2 fun y hy => by
        have h1 := hs y (.tail _ hy)
        rw [List.mem_append, List.mem_cons] at h1
        rw [List.mem_append]
        rcases h1 with h1 | h1 | h1
        · exact .inl h1
        · subst h1; exact absurd hy hn.1
        · exact .inr h1
      simp at this ⊢; omega
  have := h2 (l.map (·.1)) userL h1 (fun x hx => by
    obtain ⟨p, hp, rfl⟩ := List.mem_map.1 hx
    exact hk p hp)
  simpa [userL] using this
theorem user_key : ∀ u ∈ userL, u.length ≤ 1000 ∧ asciiB u = true := by decide +kernel
theorem Inv.fit {R : RoomSt} {S : LSt} (h : Inv R S) : RoomFit R where
  known := by have := few_keys h.rise (fun p hp => (h.keys p hp).1); omega
  users := fun p hp => by
    obtain ⟨h1, h2, h3, h4⟩ := h.keys p hp
    exact ⟨key_ascii (user_key _ h1).1 (user_key _ h1).2, h2, key_ascii (by omega) h4⟩
  id := by rw [h.id]; exact key_ascii (by decide) (by decide)
  creator := by rw [h.creator]; exact key_ascii (by decide) (by decide)
  levels := by
    cases hs : S.some with
    | true =>
      obtain ⟨h1, _, h3, h4, h5⟩ := h.lv hs
      rw [h1]
      refine ⟨by simp, fun p hp => ?_⟩
      rw [List.mem_singleton.1 hp]
      exact ⟨key_ascii (user_key _ h5).1 (user_key _ h5).2, by dsimp only; omega, by dsimp only; omega⟩
    | false => rw [(h.lf hs).1]; exact ⟨by simp, fun p hp => by cases hp⟩
  needs := by rw [h.needs]; exact ⟨by simp, fun p hp => by cases hp⟩
  other := by
    cases hs : S.some with
    | true => obtain ⟨_, h2, h3, h4, _⟩ := h.lv hs; rw [h2]; omega
    | false => rw [(h.lf hs).2]; omega
theorem usr_mem : ∀ k, k < 5 → usr k ∈ userL := by decide
theorem usr_inj : ∀ k, k < 5 → ∀ j, j < 5 → usr k = usr j → k = j := by decide +kernel

/-- Behind a deed of membership. -/
theorem Inv.member {R : RoomSt} {S : LSt} (h : Inv R S) {k : Nat} (hk : k < 5) {m : Nat × Bytes} (hm : m.1 ≤ 3 ∧ m.2.length ≤ 2 ∧ asciiB m.2 = true) :
    Inv { R with known := putK R.known (usr k) m } { S with ins := S.ins.set k (decide (m.1 = 1)), nms := S.nms.set k m.2 } := by
  refine ⟨h.id, h.creator, h.needs, h.leveled, h.lv, h.lf, putK_rising h.rise _ _, fun p hp => ?_, by simpa using h.lens, fun j hj => ?_⟩
  · rcases mem_putK hp with rfl | hp
    · exact ⟨usr_mem k hk, hm⟩
    · exact h.keys p hp
  · dsimp only
    rw [getK_putK h.rise, List.getElem?_set, List.getElem?_set]
    by_cases hjk : k = j
    · subst hjk
      rw [if_pos rfl, if_pos rfl, if_pos rfl, if_pos (by rw [h.lens.1]; exact hk), if_pos (by rw [h.lens.2]; exact hk)]
      exact ⟨rfl, rfl⟩
    · rw [if_neg hjk, if_neg hjk, if_neg (fun e => hjk (usr_inj j hj k hk e).symm)]
      exact h.mem j hj
/-- Behind a deed of levels. -/
theorem Inv.power {R : RoomSt} {S : LSt} (h : Inv R S) {o : Option JV} {u : Bytes} (hu : u ∈ userL) {d : Int} (hd : 0 ≤ d ∧ d ≤ 9) (h1 : otherOf o = 10 + d) (h2 : numbersO userB (getO o sUsers) = [(u, d)]) (h3 : numbersO (fun _ => true) (getO o sNotifications) = []) :
    Inv (levelG R o) { S with lev := d, who := u, some := true } :=
  ⟨h.id, h.creator, h3, rfl, fun _ => ⟨h2, h1, hd.1, hd.2, hu⟩, (fun e => by cases e), h.rise, h.keys, h.lens, h.mem⟩
/-- The levels that the law expects. -/
theorem Inv.level {R : RoomSt} {S : LSt} (h : Inv R S) {u : Bytes} (hu : u ≠ []) : levelR R u = if S.some then (if u = S.who then S.lev else 10 + S.lev) else 0 := by
  unfold levelR
  cases hs : S.some with
  | true =>
    obtain ⟨h1, h2, _⟩ := h.lv hs
    rw [h1, h.leveled, hs, h2]
    by_cases hw : u = S.who
    · subst hw; simp [getK]
    · have : (S.who == u) = false := by simpa using fun e => hw e.symm
      simp [getK, this, hw]
  | false =>
    obtain ⟨h1, h2⟩ := h.lf hs
    rw [h1, h.leveled, hs, h.creator]
    simp [getK, hu]

/-- The members, by their places. -/
theorem Inv.joined {R : RoomSt} {S : LSt} (h : Inv R S) : joinedL R = ((List.range 5).filter fun k => S.ins[k]? == some true).map usr := by
  have h1 := joinedL_rise h.rise
  have h2 : (((List.range 5).filter fun k => S.ins[k]? == some true).map usr).Pairwise fun x y => Lib.compareBytes x y = -1 := by
    have hb : ((List.range 5).map usr).Pairwise fun x y => Lib.compareBytes x y = -1 := by decide +kernel
    exact hb.sublist ((List.filter_sublist).map _)
  have hp : ∀ x, x ∈ joinedL R ↔ x ∈ ((List.range 5).filter fun k => S.ins[k]? == some true).map usr := by
    intro x
    unfold joinedL
    rw [List.mem_map, List.mem_map]
    constructor
    · rintro ⟨p, hp, rfl⟩
      obtain ⟨hpk, hp1⟩ := List.mem_filter.1 hp
      obtain ⟨k, hk, hkp⟩ : ∃ k, k < 5 ∧ usr k = p.1 := by
        have := (h.keys p hpk).1
        simp only [userL, List.mem_cons, List.mem_nil_iff, or_false] at this
        rcases this with e | e | e | e | e
        · exact ⟨0, by omega, e.symm⟩
        · exact ⟨1, by omega, e.symm⟩
        · exact ⟨2, by omega, e.symm⟩
        · exact ⟨3, by omega, e.symm⟩
        · exact ⟨4, by omega, e.symm⟩
      refine ⟨k, List.mem_filter.2 ⟨List.mem_range.2 hk, ?_⟩, hkp⟩
      rw [(h.mem k hk).1, hkp, getK_of_mem (rising_keys h.rise) (show (p.1, p.2) ∈ R.known from hpk)]
      simp only [beq_iff_eq] at hp1
      simp [memD, hp1]
    · rintro ⟨k, hk, rfl⟩
      obtain ⟨hk1, hk2⟩ := List.mem_filter.1 hk
      have hk5 := List.mem_range.1 hk1
      rw [(h.mem k hk5).1] at hk2
      simp only [beq_iff_eq, Option.some.injEq, decide_eq_true_eq] at hk2
      cases hg : getK R.known (usr k) with
      | none => rw [hg] at hk2; cases hk2
      | some m =>
        rw [hg] at hk2
        exact ⟨(usr k, m), List.mem_filter.2 ⟨getK_some_mem hg, by simpa [memD] using hk2⟩, rfl⟩
  have hnd : ∀ {l : List Bytes}, l.Pairwise (fun x y => Lib.compareBytes x y = -1) → l.Nodup := fun hl => hl.imp fun {x y} h (e : x = y) => cb_lt_ne h e
  have hperm : (joinedL R).Perm (((List.range 5).filter fun k => S.ins[k]? == some true).map usr) := (List.perm_ext_iff_of_nodup (hnd h1) (hnd h2)).2 hp
  exact hperm.eq_of_pairwise (fun a b _ _ hab hba => by
    exfalso
    have := cb_gt hab
    rw [this] at hba; cases hba) h1 h2

end Toc

namespace Toc
open Go Go.RowKit Go.Proofs

def after (R : RoomSt) (id : Bytes) (d : Dd) : RoomSt := match d with
  | .member _ _ _ => applyM R (evD id d)
  | .power _ _ _ => applyL R (evD id d)
  | _ => R
def afterS (S : LSt) (k : Nat) (d : Dd) : LSt := match d with
  | .member _ h c => { S with ins := S.ins.set k (decide (h = sJoin)), nms := S.nms.set k (if h = sJoin then [78, c] else []) }
  | .power _ u c => { S with lev := digD c, who := u, some := true }
  | _ => S

theorem joins_deed (id u h : Bytes) (c : UInt8) : joinsJ (contentO (evD id (.member u h c))) = (howOf h, if howOf h = 1 then [78, c] else []) := by
  unfold joinsJ
  rw [show howJ (contentO (evD id (.member u h c))) = howOf h by kernel_rfl]
  rw [show textO (getO (contentO (evD id (.member u h c))) sDisplayname) = [78, c] by kernel_rfl]
theorem how_join {h : Bytes} (hh : h ∈ howL) : (howOf h = 1 ↔ h = sJoin) ∧ howOf h ≤ 3 := by
  refine ⟨?_, howOf_le h⟩
  revert h
  decide +kernel
theorem level_int {n : Int} (h : -1000 ≤ n ∧ n ≤ 1000) : levelOk (some (.int n)) = true := by
  show (true && (decide (-1000 ≤ n) && decide (n ≤ 1000))) = true
  simp [h.1, h.2]
theorem power_other {id o u : Bytes} {c : UInt8} (hc : digB c = true) : otherOf (contentO (evD id (.power o u c))) = 10 + digD c := by
  have h1 : digD c ≤ 9 := by
    have h1 := dig_num c
    rw [hc, Bool.not_true, Bool.false_or] at h1
    simp only [Bool.and_eq_true, beq_iff_eq, decide_eq_true_eq, bne_iff_ne, ne_eq] at h1
    unfold digD; omega
  have h0 : 0 ≤ digD c := by unfold digD; omega
  unfold otherOf
  rw [show getO (contentO (evD id (.power o u c))) sUsersDefault = some (.int (10 + digD c)) by kernel_rfl]
  rw [if_pos (level_int (by omega))]
  rfl
theorem dig_range {c : UInt8} (hc : digB c = true) : 0 ≤ digD c ∧ digD c ≤ 9 := by
  have h1 := dig_num c
  rw [hc, Bool.not_true, Bool.false_or] at h1
  simp only [Bool.and_eq_true, beq_iff_eq, decide_eq_true_eq, bne_iff_ne, ne_eq] at h1
  unfold digD; omega
theorem power_users {id o u : Bytes} {c : UInt8} (hu : u ∈ userL) (hc : digB c = true) : numbersO userB (getO (contentO (evD id (.power o u c))) sUsers) = [(u, digD c)] := by
  have h1 := dig_range hc
  rw [show getO (contentO (evD id (.power o u c))) sUsers = some (.obj [(u, .int (digD c))]) by kernel_rfl]
  show numsOf userB [(u, .int (digD c))] = _
  unfold numsOf
  rw [List.filterMap_cons, if_pos (by dsimp only; rw [(user_asis u hu).2.1, level_int (by omega)]; rfl)]
  rfl
theorem power_needs {id o u : Bytes} {c : UInt8} : numbersO (fun _ => true) (getO (contentO (evD id (.power o u c))) sNotifications) = [] := by kernel_rfl

theorem Inv.after {R : RoomSt} {S : LSt} (h : Inv R S) {id : Bytes} {d : Dd} (hd : DdOk d) {k : Nat} (hk : k < 5) (hu : ∀ u h c, d = .member u h c → u = usr k) : Inv (after R id d) (afterS S k d) := by
  cases d with
  | member u hw c =>
    have hj := how_join hd.2.1
    have := hu u hw c rfl
    subst this
    have h1 := h.member hk (m := joinsJ (contentO (evD id (.member (usr k) hw c)))) (by
      rw [joins_deed]
      refine ⟨hj.2, ?_, ?_⟩
      · dsimp only; split <;> simp
      · dsimp only
        split
        · have h1 := dig_num c
          rw [hd.2.2, Bool.not_true, Bool.false_or] at h1
          simp only [Bool.and_eq_true, beq_iff_eq, decide_eq_true_eq, bne_iff_ne, ne_eq] at h1
          have : c.toNat - 48 ≤ 9 := h1.1.1.2
          simp [asciiB]
          omega
        · rfl)
    have e : { S with ins := S.ins.set k (decide ((joinsJ (contentO (evD id (.member (usr k) hw c)))).1 = 1)), nms := S.nms.set k (joinsJ (contentO (evD id (.member (usr k) hw c)))).2 } = afterS S k (.member (usr k) hw c) := by
      rw [joins_deed]
      unfold afterS
      by_cases hjn : hw = sJoin
      · have := hj.1.2 hjn
        subst hjn
        simp [this]
      · have : ¬ howOf hw = 1 := fun e => hjn (hj.1.1 e)
        simp [this, hjn]
    rw [e] at h1
    exact h1
  | power o u c => exact h.power hd.2.1 (dig_range hd.2.2) (power_other hd.2.2) (power_users hd.2.1 hd.2.2) power_needs
  | message o => exact h
  | noName o => exact h
theorem after_again {R : RoomSt} (hr : Rising R.known) (id : Bytes) (d : Dd) : after (after R id d) id d = after R id d := by
  cases d with
  | member u hw c => exact (again_M hr).2
  | power o u c => exact again_L.2
  | message o => rfl
  | noName o => rfl

theorem may_deed {R : RoomSt} {S : LSt} (h : Inv R S) (id : Bytes) (d : Dd) : mayR R (evD id d) = 0 := by
  have hl := few_keys h.rise (fun p hp => (h.keys p hp).1)
  have hr : (evD id d).room = R.id := by rw [h.id]; cases d <;> rfl
  unfold mayR
  rw [if_neg (by simp [hr]), if_neg (by rintro ⟨_, _, h3⟩; omega)]

/-- Where a room's two maps of levels may have gone. -/
def Moved (w : World) (b b' : Nat) : Prop := b' = b ∨ w.heap.size ≤ b'

theorem apply_deed (r : Ro) (w : World) (hG : Glob w) (hh : Has r w) {qe : Nat} {id : Bytes} {d : Dd} (he : EvV r qe (evD id d)) (hd : DdOk d) (hid : IdOk id) {rb kb lb nb : Nat} {R : RoomSt} {S : LSt} (hR : RoomAt w rb kb lb nb R) (hI : Inv R S) (hrk : r kb = none) (hkb : gTop ≤ kb) :
    Calls Tryz.prog 27 #[ptrV rb, ptrV qe] w fun e w' => ∃ lb' nb', e = .returned (.tuple #[.bool (decide (printL (roomJ R) ≠ printL (roomJ (after R id d)))), .int .i64 0]) ∧ RoomAt w' rb kb lb' nb' (after R id d) ∧ Turns [rb, kb] w w' ∧ Moved w lb lb' ∧ Moved w nb nb' := by
  have hmay := may_deed hI id d
  have hok : EvOk (evD id d) := ev_ok (parseL_ok (parse_deed hid hd)) (event_deed hid hd)
  have hT : ∀ {S : List Nat} {w w' : World}, Turns S w w' → (∀ b ∈ S, b ∈ [rb, kb]) → Turns [rb, kb] w w' := fun {S w w'} h hs =>
    ⟨h.os, h.tape, h.output, h.size, fun i hi hn => h.block i hi (fun hm => hn (hs i hm))⟩
  cases d with
  | member u hw c =>
    have hmem : memberB (evD id (.member u hw c)) = true := by
      unfold memberB
      rw [show (evD id (.member u hw c)).key = u from rfl, (user_asis u hd.1).2.1]
      rfl
    have hs := shows_M (R := R) (E := evD id (.member u hw c)) hI.rise (fun p hp => (hI.keys p hp).2.1) (by rw [joins_deed]; exact (how_join hd.2.1).2)
    refine (apply_member r w hG hh he hok hR hrk hkb hmay hmem).mono ?_
    rintro e w' ⟨rfl, h1, h2⟩
    rw [hs]
    exact ⟨lb, nb, rfl, h1, hT h2 (by simp), .inl rfl, .inl rfl⟩
  | power o u c =>
    have hs := shows_L (R := R) (o := contentO (evD id (.power o u c)))
    refine (apply_power r w hG hh he hok hR hmay rfl rfl rfl hs).mono ?_
    rintro e w' ⟨lb', nb', rfl, h1, h2, h3, h4⟩
    exact ⟨lb', nb', rfl, h3, hT h4 (by simp), .inr h1, .inr h2⟩
  | message o =>
    refine (apply_plain r w hG hh he hok hR hmay rfl).mono ?_
    rintro e w' ⟨rfl, hb⟩
    exact ⟨lb, nb, by simp [after], hR.below hb, hT (Turns.below (S := []) hb) (by simp), .inl rfl, .inl rfl⟩
  | noName o =>
    refine (apply_keyed r w hG hh he hok hR hmay (by kernel_rfl) rfl (by simp [evD, sNoName])).mono ?_
    rintro e w' ⟨rfl, hb⟩
    exact ⟨lb, nb, by simp [after], hR.below hb, hT (Turns.below (S := []) hb) (by simp), .inl rfl, .inl rfl⟩

end Toc

namespace Toc
open Go Go.RowKit Go.Proofs

/-- The deeds as they came in. -/
def DeedsAt (w : World) (a : Option Addr) (ds : List Deed) : Prop := ∀ i d, ds[i]? = some d → ∃ g off, a = some ⟨g, off, none⟩ ∧ g < w.heap.size ∧ ∀ (k : Nat) v, d.cells[k]? = some v → w.cell? ⟨g, off + i * 5 + k, none⟩ = some v
theorem DeedsAt.below {w w' : World} {a : Option Addr} {ds : List Deed} (h : DeedsAt w a ds) (hb : Below w.heap.size w w') : DeedsAt w' a ds := fun i d hi => by
  obtain ⟨g, off, h1, h2, h3⟩ := h i d hi
  exact ⟨g, off, h1, Nat.lt_of_lt_of_le h2 hb.size, fun k v hk => by rw [hb.cell (p := ⟨g, off + i * 5 + k, none⟩) h2]; exact h3 k v hk⟩

def boolsO (l : List Bool) : Obj := .cells (l.map Value.bool).toArray 51 (0, 0)
def namesO (l : List Bytes) : Obj := .cells (l.map encStr).toArray 52 (0, 0)
structure LawX (w0 wr : World) (rb kb lb nb ib : Nat) (R : RoomSt) (bs : List Bool) (ns : List Bytes) : Prop where
  below : Below w0.heap.size w0 wr
  room : RoomAt wr rb kb lb nb R
  ins : wr.heap[ib]? = some (boolsO bs)
  nms : wr.heap[ib + 1]? = some (namesO ns)
  lo : w0.heap.size ≤ rb ∧ w0.heap.size ≤ kb ∧ w0.heap.size ≤ lb ∧ w0.heap.size ≤ nb ∧ w0.heap.size ≤ ib
  ne : rb ≠ ib ∧ rb ≠ ib + 1
theorem map_cells {w : World} {b c : Nat} {l : List (Bytes × Value)} {x : Array Value} {T : TypeId} {fr : Nat × Nat} (h : MapAt w b l) (hc : w.heap[c]? = some (.cells x T fr)) : b ≠ c := by
  obtain ⟨es, cl, h1, _⟩ := h
  intro e; subst e
  rw [h1] at hc; cases hc
theorem LawX.sep {w0 wr : World} {rb kb lb nb ib : Nat} {R : RoomSt} {bs : List Bool} {ns : List Bytes} (h : LawX w0 wr rb kb lb nb ib R bs ns) : kb ≠ ib ∧ kb ≠ ib + 1 ∧ lb ≠ ib ∧ lb ≠ ib + 1 ∧ nb ≠ ib ∧ nb ≠ ib + 1 :=
  ⟨map_cells h.room.known h.ins, map_cells h.room.known h.nms, map_cells h.room.levels h.ins, map_cells h.room.levels h.nms, map_cells h.room.needs h.ins, map_cells h.room.needs h.nms⟩
theorem LawX.grow {w0 wr w' : World} {rb kb lb nb ib : Nat} {R : RoomSt} {bs : List Bool} {ns : List Bytes} (h : LawX w0 wr rb kb lb nb ib R bs ns) (hb : Below wr.heap.size wr w') : LawX w0 w' rb kb lb nb ib R bs ns :=
  ⟨below_trans h.below hb, h.room.below hb, (hb.block _ (blk_lt h.ins)).trans h.ins, (hb.block _ (blk_lt h.nms)).trans h.nms, h.lo, h.ne⟩
theorem LawX.set {w0 wr w' : World} {rb kb lb nb ib : Nat} {R : RoomSt} {bs bs' : List Bool} {ns ns' : List Bytes} (h : LawX w0 wr rb kb lb nb ib R bs ns) (ht : Turns [ib, ib + 1] wr w') (h1 : w'.heap[ib]? = some (boolsO bs')) (h2 : w'.heap[ib + 1]? = some (namesO ns')) : LawX w0 w' rb kb lb nb ib R bs' ns' := by
  obtain ⟨s1, s2, s3, s4, s5, s6⟩ := h.sep
  have hl := h.lo
  exact ⟨((Turns.below (S := []) h.below).extend ht (by simp; omega)).toBelow (by simp), h.room.turns ht (by have := h.ne; simp; omega) (by simp; omega) (by simp; omega) (by simp; omega), h1, h2, h.lo, h.ne⟩
/-- The room has moved on. -/
theorem LawX.turn {w0 wr w' : World} {rb kb lb nb ib lb' nb' : Nat} {R R' : RoomSt} {bs : List Bool} {ns : List Bytes} (h : LawX w0 wr rb kb lb nb ib R bs ns) (ht : Turns [rb, kb] wr w') (hR : RoomAt w' rb kb lb' nb' R') (h1 : lb' = lb ∨ wr.heap.size ≤ lb') (h2 : nb' = nb ∨ wr.heap.size ≤ nb') : LawX w0 w' rb kb lb' nb' ib R' bs ns := by
  obtain ⟨s1, s2, s3, s4, s5, s6⟩ := h.sep
  have hl := h.lo
  have hn := h.ne
  have hs := h.below.size
  exact ⟨((Turns.below (S := []) h.below).extend ht (by simp; omega)).toBelow (by simp), hR, ht.heap h.ins (by simp; omega), ht.heap h.nms (by simp; omega), by omega, h.ne⟩
theorem set_bools {w : World} {b : Nat} {l : List Bool} (h : w.heap[b]? = some (boolsO l)) (k : Nat) (x : Bool) : (w.setCell ⟨b, k, none⟩ (.bool x)).heap[b]? = some (boolsO (l.set k x)) := by
  have := blk_set h k (.bool x)
  rw [this]
  simp [boolsO, List.map_set]
theorem set_names {w : World} {b : Nat} {l : List Bytes} (h : w.heap[b]? = some (namesO l)) (k : Nat) (x : Bytes) : (w.setCell ⟨b, k, none⟩ (.string (mkS x))).heap[b]? = some (namesO (l.set k x)) := by
  have := blk_set h k (.string (mkS x))
  rw [this]
  simp [namesO, List.map_set]
theorem texts_row {w : World} {base : Nat} {sv : Value} {l : List Bytes} (h : OwnTexts w base sv l) : ∃ a c, sv = .slice a l.length c ∧ ∀ (i : Nat) u, l[i]? = some u → ∃ g, a = some ⟨g, 0, none⟩ ∧ g < w.heap.size ∧ w.cell? ⟨g, i, none⟩ = some (encStr u) := by
  rcases h.2 with ⟨h1, h0⟩ | ⟨g, cap, cur, h1, h2, h3, h4, h5, h6, h7⟩
  · refine ⟨none, 0, by rw [h1, h0], fun i u hi => ?_⟩
    have := (List.getElem?_eq_some_iff.1 hi).1
    omega
  · refine ⟨_, cap, h1, fun i u hi => ⟨g, rfl, blk_lt h3, ?_⟩⟩
    have hil := (List.getElem?_eq_some_iff.1 hi).1
    rw [blk_cell h3]
    have e : (cur.toList.take (l.length * 1))[i]? = (l.map encStr)[i]? := by rw [h7]
    rw [List.getElem?_take_of_lt (by omega), List.getElem?_map, hi] at e
    simpa using e
/-- How many of the first ones are members. -/
def cntS (l : List Bool) (k : Nat) : Nat := ((List.range k).filter fun k => l[k]? == some true).length
theorem cnt_succ (l : List Bool) (k : Nat) : cntS l (k + 1) = cntS l k + (if l[k]? == some true then 1 else 0) := by
  unfold cntS
  rw [List.range_succ, List.filter_append, List.length_append]
  split
  · rename_i h; rw [List.filter_cons, if_pos h]; rfl
  · rename_i h; rw [List.filter_cons, if_neg h]; rfl
theorem join_at5 : ∀ b0 b1 b2 b3 b4 : Bool, ∀ k, k < 5 → [b0, b1, b2, b3, b4][k]? = some true → (((List.range 5).filter fun k => [b0, b1, b2, b3, b4][k]? == some true).map usr)[cntS [b0, b1, b2, b3, b4] k]? = some (usr k) := by decide +kernel
theorem cnt_le5 : ∀ b0 b1 b2 b3 b4 : Bool, ∀ k, k < 6 → cntS [b0, b1, b2, b3, b4] k ≤ 5 := by decide +kernel

theorem list5 {α : Type} {l : List α} (h : l.length = 5) : ∃ a b c d e, l = [a, b, c, d, e] := by
  match l, h with
  | [a, b, c, d, e], _ => exact ⟨a, b, c, d, e, rfl⟩

theorem Inv.joinAt {R : RoomSt} {S : LSt} (h : Inv R S) {k : Nat} (hk : k < 5) (hb : S.ins[k]? = some true) : (joinedL R)[cntS S.ins k]? = some (usr k) := by
  rw [h.joined]
  obtain ⟨b0, b1, b2, b3, b4, e⟩ := list5 h.lens.1
  rw [e] at hb ⊢
  exact join_at5 b0 b1 b2 b3 b4 k hk hb
theorem Inv.joinLen {R : RoomSt} {S : LSt} (h : Inv R S) : (joinedL R).length = cntS S.ins 5 := by rw [h.joined, List.length_map]; rfl
theorem Inv.cntLe {R : RoomSt} {S : LSt} (h : Inv R S) {k : Nat} (hk : k ≤ 5) : cntS S.ins k ≤ 5 := by
  obtain ⟨b0, b1, b2, b3, b4, e⟩ := list5 h.lens.1
  rw [e]
  exact cnt_le5 b0 b1 b2 b3 b4 k (by omega)
theorem usr_of (k : Nat) (hk : k < 5) : userOf (k : Int) = usr k := by
  unfold userOf usr
  have : pickI (k : Int) 5 = k := by unfold pickI; rw [if_neg (by omega)]; omega
  rw [this]
  rfl

end Toc

namespace Toc
open Go Go.RowKit Go.Proofs

/-- What is asked of a user in a round. -/
structure Asks (wk : World) (rb ib qe bq j k : Nat) (S : LSt) (us sd : ByteArray) (bk : Bool) (lv lq : Int) : Prop where
  name : mkS (usr k) = us
  isin : S.ins[k]? = some bk
  lev : lv = if S.some then (if usr k = S.who then S.lev else 10 + S.lev) else 0
  user : Calls Tryz.prog 21 #[.int .i64 k] wk fun e w' => e = .returned (.string us) ∧ Below wk.heap.size wk w'
  cells : ∀ wx, Below wk.heap.size wk wx → wx.cell? ⟨ib, k, none⟩ = some (.bool bk) ∧ wx.cell? ⟨ib + 1, k, none⟩ = some (.string sd)
  is_ : ∀ wx, Below wk.heap.size wk wx → Calls Tryz.prog 34 #[ptrV rb, .string us] wx fun e w' => e = .returned (.bool bk) ∧ wx = w'
  facts : ∀ wx, Below wk.heap.size wk wx → Calls Tryz.prog 35 #[ptrV rb, ptrV qe, .string us] wx fun e w' => ∃ fb, e = .returned (.agg #[ptrV bq, .int .i64 j, .string sd, .int .i64 lq, .map (some fb)]) ∧ Below wx.heap.size wx w'
  level : ∀ wx, Below wk.heap.size wk wx → Calls Tryz.prog 26 #[ptrV rb, .string us] wx fun e w' => e = .returned (.int .i64 lv) ∧ wx = w'

theorem asks_any {w0 wk : World} {rb kb lb nb ib : Nat} {R : RoomSt} {S : LSt} (hX : LawX w0 wk rb kb lb nb ib R S.ins S.nms) (hI : Inv R S) {r : Ro} (hh : Has r wk) {qe bq : Nat} {E : Ev} (hea : EvAt r qe E (ptrV bq)) {k : Nat} (hk : k < 5) {j : Nat} (hj : (joinedL R).length = j) :
    ∃ us sd bk lv lq, Asks wk rb ib qe bq j k S us sd bk lv lq := by
  have hmem := hI.mem k hk
  have hbi : S.ins[k]? = some (isR R (usr k)) := by
    rw [hmem.1]
    unfold isR
    congr 1
  refine ⟨mkS (usr k), mkS (memD (getK R.known (usr k))).2, isR R (usr k), levelR R (usr k), levelR R E.sender, rfl, hbi, hI.level (user_ne _ (usr_mem k hk)).1, ?_, fun wx hx => ⟨?_, ?_⟩, fun wx hx => is_any wx (hX.grow hx).room (usr k) rfl, fun wx hx => ?_, fun wx hx => level_any wx (hX.grow hx).room (usr k) rfl rfl⟩
  · have h := users_any (k : Int) (by omega) (by omega) wk
    rw [usr_of k hk] at h
    exact h
  · have h1 := (hX.grow hx).ins
    unfold boolsO at h1
    rw [blk_cell h1, List.getElem?_toArray, List.getElem?_map, hbi]; rfl
  · have h2 := (hX.grow hx).nms
    unfold namesO at h2
    rw [blk_cell h2, List.getElem?_toArray, List.getElem?_map, hmem.2]; rfl
  · refine (facts_any r wx (hh.below hx) hea (hX.grow hx).room hI.fit.known (usr k) rfl).mono ?_
    rintro e w' ⟨fb, rfl, _, _, hb⟩
    rw [hj]
    exact ⟨fb, rfl, hb⟩

end Toc
