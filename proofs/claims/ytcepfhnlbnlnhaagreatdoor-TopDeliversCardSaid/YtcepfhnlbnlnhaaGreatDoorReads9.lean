/- THE WALK of aqueducttop.reads. -/
import Derived.Test.YtcepfhnlbnlnhaaGreatDoorReads8
namespace Go.Proofs.YtcepfhnlbnlnhaaGreatDoor
set_option maxRecDepth 100000
open Go.RowKit

section
variable {w : World}
set_option maxHeartbeats 1600000 in
theorem reads_any : Calls Tryz.prog 17 #[] w fun e w' => e = .returned (.bool true) ∧ w.grownBy w' none := by
  have HP : ∀ W : World, Calls Tryz.prog 27 #[.agg (ackZ 4 7)] W fun e w' => e = .returned (.tuple #[.string ⟨#[64, 2, 0, 7]⟩, .int .u8 0]) ∧ W.grownBy w' none := fun W => put_ack
  unfold ackZ at HP
  go_enter Tryz.func17, Tryz.ntmps17
  go_wp2_with fail
  refine (HP _).mono ?_
  rintro e w1 ⟨rfl, hg1⟩
  go_wp2_with fail
  refine (snew_any 100).mono ?_
  rintro e w2 ⟨rfl, hb2, hg2⟩
  go_wp2_with fail
  refine (feed_ack hb2).mono ?_
  rintro e w3 ⟨g, cap, rfl, hc, hg3⟩
  go_wp2_with fail
  go_ret
  exact ⟨rfl, grown_own (only_trans hg1 hg2) hg3 hg1.size⟩
end
end Go.Proofs.YtcepfhnlbnlnhaaGreatDoor
