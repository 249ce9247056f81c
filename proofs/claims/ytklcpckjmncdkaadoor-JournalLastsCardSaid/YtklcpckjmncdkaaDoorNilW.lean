/- THE WALK of the statement JournalNil. -/
import Derived.Test.YtklcpckjmncdkaaDoorWk
namespace Go.Proofs.YtklcpckjmncdkaaDoor
set_option maxRecDepth 100000
open Go.RowKit

section
variable {w : World}
set_option maxHeartbeats 800000 in
theorem add_nil (hH : Hand w) (b : ByteArray) : Calls Tryd.prog 15 #[.pointer none, .string b] w fun e w' => ∃ v, e = .returned v ∧ IsErr w' v 128 ∧ w.grownBy w' none := by
  have hM := Lib.hid (may_nil hH)
  go_enter Tryd.func15, Tryd.ntmps15
  go_wp2_with fail
  refine hM.out.mono ?_
  rintro e w1 ⟨v1, rfl, he, hg1⟩
  obtain ⟨p, rfl, hf⟩ := isErr_yes (by decide) he
  go_wp2_with fail
  go_returns
  exact ⟨_, rfl, he, hg1⟩
set_option maxHeartbeats 800000 in
theorem sync_nil (hH : Hand w) : Calls Tryd.prog 16 #[.pointer none] w fun e w' => ∃ v, e = .returned v ∧ IsErr w' v 128 ∧ w.grownBy w' none := by
  have hM := Lib.hid (may_nil hH)
  go_enter Tryd.func16, Tryd.ntmps16
  go_wp2_with fail
  refine hM.out.mono ?_
  rintro e w1 ⟨v1, rfl, he, hg1⟩
  obtain ⟨p, rfl, hf⟩ := isErr_yes (by decide) he
  go_wp2_with fail
  go_returns
  exact ⟨_, rfl, he, hg1⟩
set_option maxHeartbeats 800000 in
theorem compact_nil (hH : Hand w) (b : ByteArray) : Calls Tryd.prog 23 #[.pointer none, .string b] w fun e w' => ∃ v, e = .returned v ∧ IsErr w' v 128 ∧ w.grownBy w' none := by
  have hM := Lib.hid (may_nil hH)
  go_enter Tryd.func23, Tryd.ntmps23
  go_wp2_with fail
  refine hM.out.mono ?_
  rintro e w1 ⟨v1, rfl, he, hg1⟩
  obtain ⟨p, rfl, hf⟩ := isErr_yes (by decide) he
  go_wp2_with fail
  go_returns
  exact ⟨_, rfl, he, hg1⟩
theorem code_128 {v : Value} (hH : Hand w) (h : IsErr w v 128) : Calls Tryd.prog 13 #[v] w fun e w' => e = .returned (.int .i64 128) ∧ w.grownBy w' none := code_any hH h (by decide)
set_option maxHeartbeats 3200000 in
theorem jnil_walk (hH : Hand w) (b : ByteArray) : Calls Tryd.prog 6 #[.string b] w fun e w' => e = .returned (.bool true) ∧ w.grownBy w' none := by
  have H1 := Lib.hid (open_nil hH)
  go_enter Tryd.func6, Tryd.ntmps6
  go_wp2_with fail
  refine H1.out.mono ?_
  rintro e w1 ⟨v1, rfl, he1, hg1⟩
  go_wp2_with fail
  refine (wakes_any (hH.grown hg1 (by simp))).mono ?_
  rintro e w2 ⟨rfl, hk2⟩
  have hg2 := only_trans hg1 hk2
  have he2 := he1.grown hk2
  go_wp2_with fail
  refine (code_128 (hH.grown hg2 (by simp)) he2).mono ?_
  rintro e w3 ⟨rfl, hk3⟩
  have hg3 := only_trans hg2 hk3
  go_wp2_with fail
  refine (add_nil (hH.grown hg3 (by simp)) b).mono ?_
  rintro e w4 ⟨v4, rfl, he4, hk4⟩
  have hg4 := only_trans hg3 hk4
  go_wp2_with fail
  refine (code_128 (hH.grown hg4 (by simp)) he4).mono ?_
  rintro e w5 ⟨rfl, hk5⟩
  have hg5 := only_trans hg4 hk5
  go_wp2_with fail
  refine (sync_nil (hH.grown hg5 (by simp))).mono ?_
  rintro e w6 ⟨v6, rfl, he6, hk6⟩
  have hg6 := only_trans hg5 hk6
  go_wp2_with fail
  refine (code_128 (hH.grown hg6 (by simp)) he6).mono ?_
  rintro e w7 ⟨rfl, hk7⟩
  have hg7 := only_trans hg6 hk7
  go_wp2_with fail
  refine (compact_nil (hH.grown hg7 (by simp)) b).mono ?_
  rintro e w8 ⟨v8, rfl, he8, hk8⟩
  have hg8 := only_trans hg7 hk8
  go_wp2_with fail
  refine (code_128 (hH.grown hg8 (by simp)) he8).mono ?_
  rintro e w9 ⟨rfl, hk9⟩
  have hg9 := only_trans hg8 hk9
  go_wp2_with fail
  refine gen_nil.mono ?_
  rintro e w' ⟨rfl, rfl⟩
  go_wp2_with fail
  go_ret
  exact ⟨rfl, hg9⟩
end
end Go.Proofs.YtklcpckjmncdkaaDoor
