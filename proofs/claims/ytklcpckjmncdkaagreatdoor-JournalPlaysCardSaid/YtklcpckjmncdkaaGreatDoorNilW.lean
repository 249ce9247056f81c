/- THE WALK of the statement JournalNil. -/
import Derived.Test.YtklcpckjmncdkaaGreatDoorWk
namespace Go.Proofs.YtklcpckjmncdkaaGreatDoor
set_option maxRecDepth 100000
open Go.RowKit

section
variable {w : World}
set_option maxHeartbeats 800000 in
theorem add_nil (hH : Hand w) (b : ByteArray) : Calls Tryz.prog 11 #[.pointer none, .string b] w fun e w' => ∃ v, e = .returned v ∧ IsErr w' v 128 ∧ w.grownBy w' none := by
  have hM := Lib.hid (may_nil hH)
  go_enter Tryz.func11, Tryz.ntmps11
  go_wp2_with fail
  refine hM.out.mono ?_
  rintro e w1 ⟨v1, rfl, he, hg1⟩
  obtain ⟨p, rfl, hf⟩ := isErr_yes (by decide) he
  go_wp2_with fail
  go_returns
  exact ⟨_, rfl, he, hg1⟩
set_option maxHeartbeats 800000 in
theorem sync_nil (hH : Hand w) : Calls Tryz.prog 12 #[.pointer none] w fun e w' => ∃ v, e = .returned v ∧ IsErr w' v 128 ∧ w.grownBy w' none := by
  have hM := Lib.hid (may_nil hH)
  go_enter Tryz.func12, Tryz.ntmps12
  go_wp2_with fail
  refine hM.out.mono ?_
  rintro e w1 ⟨v1, rfl, he, hg1⟩
  obtain ⟨p, rfl, hf⟩ := isErr_yes (by decide) he
  go_wp2_with fail
  go_returns
  exact ⟨_, rfl, he, hg1⟩
set_option maxHeartbeats 800000 in
theorem compact_nil (hH : Hand w) (b : ByteArray) : Calls Tryz.prog 13 #[.pointer none, .string b] w fun e w' => ∃ v, e = .returned v ∧ IsErr w' v 128 ∧ w.grownBy w' none := by
  have hM := Lib.hid (may_nil hH)
  go_enter Tryz.func13, Tryz.ntmps13
  go_wp2_with fail
  refine hM.out.mono ?_
  rintro e w1 ⟨v1, rfl, he, hg1⟩
  obtain ⟨p, rfl, hf⟩ := isErr_yes (by decide) he
  go_wp2_with fail
  go_returns
  exact ⟨_, rfl, he, hg1⟩
theorem code_128 {v : Value} (hH : Hand w) (h : IsErr w v 128) : Calls Tryz.prog 23 #[v] w fun e w' => e = .returned (.int .i64 128) ∧ w.grownBy w' none := code_any hH h (by decide)
end
end Go.Proofs.YtklcpckjmncdkaaGreatDoor
