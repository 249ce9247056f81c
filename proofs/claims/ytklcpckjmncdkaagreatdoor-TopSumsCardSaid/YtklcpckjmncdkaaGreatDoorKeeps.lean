/- THE WALK of the statement's keeps. -/
import Derived.Test.YtklcpckjmncdkaaGreatDoorKeepsL
import Derived.Test.YtklcpckjmncdkaaGreatDoorSumW
import Derived.Test.YtklcpckjmncdkaaGreatDoorReads9
namespace Go.Proofs.YtklcpckjmncdkaaGreatDoor
set_option maxRecDepth 100000
open Go.RowKit

section
variable {w : World}
set_option maxHeartbeats 3200000 in
theorem keeps_any (hH : Hand w) : Calls Tryz.prog 5 #[] w fun e w' => e = .returned (.bool true) ∧ w.grownBy w' none := by
  obtain ⟨D1, J1, D2, J2, D3, J3, D6, J6, I6, o1, a1, s2, o6, hs6, hr6⟩ := keeps_plain
  unfold Img.none_ at o1
  have H0 := Lib.hid (fun W => new_any 1000 W)
  have h0 := Hand.lt hH
  go_enter Tryz.func5, Tryz.ntmps5
  go_wp2_with fail
  refine (H0.out _).mono ?_
  rintro e w1 ⟨g, rfl, hgw, hd1, hk1⟩
  have hH1 := hH.grown hk1 (by simp)
  have hg0 : 0 < g := by omega
  have H1 := open_any hH1 hg0 hd1
  rw [o1] at H1
  have H1 := Lib.hid H1
  go_wp2_with fail
  refine H1.out.mono ?_
  rintro e w2 ⟨hd2, hk2, hres⟩
  simp only at hd2
  rcases hres with ⟨_, jb, v2, rfl, hjb, hj2, hst2⟩ | ⟨h, _⟩
  rotate_left
  · exact absurd rfl h
  have hk2' := grown_own hk1 hk2 hgw
  have hj0 : 0 < jb := by have := hk1.size; omega
  have hjw : w.heap.size ≤ jb := Nat.le_trans hk1.size hjb
  have hH2 := hH.grown hk2' (by simp)
  simp only at hj2 hst2
  obtain ⟨A2, c2, rfl, _⟩ := hst2.at_
  have HA := add_any hH2 hj0 hg0 hd2 hj2 str5 (by decide)
  rw [a1] at HA
  have HA := Lib.hid HA
  go_wp2_with fail
  refine HA.out.mono ?_
  rintro e w3 ⟨v3, rfl, he3, hd3, hj3, hduo3⟩
  obtain rfl := isErr_no he3
  have hk3 := grown_duo hk2' hduo3 hgw hjw
  have hH3 := hH.grown hk3 (by simp)
  have HB := jsync_any hH3 hj0 hg0 hd3 hj3
  rw [s2] at HB
  have HB := Lib.hid HB
  go_wp2_with fail
  refine HB.out.mono ?_
  rintro e w4 ⟨v4, rfl, he4, hd4, hj4, hduo4⟩
  obtain rfl := isErr_no he4
  have hk4 := grown_duo hk3 hduo4 hgw hjw
  go_wp2_with fail
  refine reads_any.mono ?_
  rintro e w5 ⟨rfl, hk5⟩
  have hd5 := hd4.grown hk5
  have hk5' := only_trans hk4 hk5
  have HD := Lib.hid (crash_any hd5 (ints_nil w5 g) (by simp))
  go_wp2_with fail
  refine HD.out.mono ?_
  rintro e w6 ⟨rfl, hd6, hk6⟩
  have hk6' := grown_own hk5' hk6 hgw
  have HE := open_any (hH.grown hk6' (by simp)) hg0 hd6
  rw [o6] at HE
  have HE := Lib.hid HE
  go_wp2_with fail
  refine HE.out.mono ?_
  rintro e w7 ⟨hd7, hk7, hres⟩
  rcases hres with ⟨_, jb7, v7, rfl, hjb7, hj7, hst7⟩ | ⟨h, _⟩
  rotate_left
  · exact absurd rfl h
  simp only at hst7
  rw [hs6]
  rw [hr6] at hst7
  have hk7' := grown_own hk6' hk7 hgw
  have HF := tsum_any (st := ⟨#[]⟩) (by decide) (by decide) (hst7.mono (Nat.zero_le _)) (by simp [str5]; rfl) (by decide)
  rw [show ((valN ⟨#[]⟩ [str5] : Nat) : Int) = 5 from rfl] at HF
  have HF := Lib.hid HF
  obtain ⟨A7, c7, rfl, _⟩ := hst7.at_
  go_wp2_with fail
  refine HF.out.mono ?_
  rintro e w8 ⟨rfl, hk8⟩
  go_wp2_with fail
  go_ret
  exact ⟨rfl, only_trans hk7' hk8⟩
end
end Go.Proofs.YtklcpckjmncdkaaGreatDoor
