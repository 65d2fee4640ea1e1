/-
  LawNames: The walk of the law RoomNames: it returns true.
-/
import Derived.Test.YtblbdgepocfngaaGreatDoorWF
import Derived.Test.YtblbdgepocfngaaGreatDoorRefNames
namespace Toc
open Go Go.RowKit Go.Proofs

set_option maxRecDepth 100000 in
set_option maxHeartbeats 4000000 in
theorem lawNames_any (s : ByteArray) (hs : s.size ≤ 140737488351232) (w : World) (hG : Glob w) :
    Calls Tryz.prog 3 #[.string s] w fun e w' => e = .returned (.bool true) ∧ Below w.heap.size w w' := by
  have HG := Lib.hid hG
  obtain ⟨a, ha⟩ : ∃ a, userB s.data.toList = a := ⟨_, rfl⟩
  obtain ⟨b, hb⟩ : ∃ b, roomB s.data.toList = b := ⟨_, rfl⟩
  obtain ⟨c, hc⟩ : ∃ c, eventB s.data.toList = c := ⟨_, rfl⟩
  obtain ⟨d, hd⟩ : ∃ d, localB s.data.toList = d := ⟨_, rfl⟩
  have hda : a = false → d = false := by
    intro h
    rw [← hd]
    unfold localB
    rw [ha, h]; rfl
  have HA := Lib.hid ha
  have HB := Lib.hid hb
  have HC := Lib.hid hc
  have HD := Lib.hid hd
  have HDA := Lib.hid hda
  clear ha hb hc hd hda hG
  go_enter Tryz.func3, Tryz.ntmps3
  go_wp2_with fail
  refine (shown_any w HG.out).mono ?_
  rintro e w1 ⟨rfl, h1⟩
  have H1 := Lib.hid h1
  clear h1
  go_wp2_with fail
  refine (isUser_is s HA.out hs w1 (HG.out.below H1.out)).mono ?_
  rintro e w2 ⟨rfl, h2⟩
  have H2 := Lib.hid (below_trans H1.out h2)
  clear h2
  go_wp2_with fail
  refine (isRoom_any s HB.out hs w2 (HG.out.below H2.out)).mono ?_
  rintro e w3 ⟨rfl, h3⟩
  have H3 := Lib.hid (below_trans H2.out h3)
  clear h3
  go_wp2_with fail
  refine (isEvent_any s HC.out hs w3 (HG.out.below H3.out)).mono ?_
  rintro e w4 ⟨rfl, h4⟩
  have H4 := Lib.hid (below_trans H3.out h4)
  clear h4
  go_wp2_with fail
  refine (local_any s HD.out hs w4 (HG.out.below H4.out)).mono ?_
  rintro e w5 ⟨rfl, h5⟩
  have H5 := Lib.hid (below_trans H4.out h5)
  clear h5
  go_wp2_with fail
  refine (refIsUser_any s HA.out hs w5).mono ?_
  rintro e w6 ⟨rfl, h6⟩
  have H6 := Lib.hid (below_trans H5.out h6)
  clear h6
  go_wp2_with fail
  refine (refIsRoom_any s HB.out hs w6).mono ?_
  rintro e w7 ⟨rfl, h7⟩
  have H7 := Lib.hid (below_trans H6.out h7)
  clear h7
  go_wp2_with fail
  refine (refIsEvent_any s HC.out hs w7).mono ?_
  rintro e w8 ⟨rfl, h8⟩
  have H8 := Lib.hid (below_trans H7.out h8)
  clear h8
  go_wp2_with fail
  refine (refLocal_any s HD.out hs w8).mono ?_
  rintro e w9 ⟨rfl, h9⟩
  have H9 := Lib.hid (below_trans H8.out h9)
  clear h9
  cases a with
  | true =>
    go_wp2_with fail
    go_ret
    exact ⟨rfl, H9.out⟩
  | false =>
    have hd0 := HDA.out rfl
    subst hd0
    go_wp2_with fail
    go_ret
    exact ⟨rfl, H9.out⟩

end Toc
