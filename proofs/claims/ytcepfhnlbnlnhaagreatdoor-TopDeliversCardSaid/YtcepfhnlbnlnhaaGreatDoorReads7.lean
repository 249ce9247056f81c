/- THE WALKS of the stream's Split, Feed, and of reads. -/
import Derived.Test.YtcepfhnlbnlnhaaGreatDoorReads6
import Derived.Deep.RegionLawGrows
import Derived.WalkMore
namespace Go.Proofs.YtcepfhnlbnlnhaaGreatDoor
set_option maxRecDepth 100000
open Go.RowKit

section
variable {w : World}
set_option maxHeartbeats 1600000 in
theorem split_ack : Calls Tryz.prog 48 #[.string ⟨#[64, 2, 0, 7]⟩, .int .i64 100] w fun e w' => ∃ g cap, e = .returned (.tuple #[.slice (some ⟨g, 0, none⟩) 1 cap, .string ⟨#[]⟩, .int .u8 0]) ∧ w'.cell? ⟨g, 0, none⟩ = some (.string ⟨#[64, 2, 0, 7]⟩) ∧ w.grownBy w' none := by
  obtain ⟨i0, hi0, hz0, hz1, hz2⟩ := info_parts Tryz.infoStr
  have hn := @World.ownsRow_nil
  have hw4 : IntKind.i64.wrap 4 = 4 := IntWalk.i64_in _ (by decide)
  have hx1 : (⟨#[64, 2, 0, 7]⟩ : ByteArray).extract 0 4 = ⟨#[64, 2, 0, 7]⟩ := by decide
  have hx2 : (⟨#[64, 2, 0, 7]⟩ : ByteArray).extract 4 4 = ⟨#[]⟩ := by decide
  go_enter Tryz.func48, Tryz.ntmps48
  go_wp2_with fail
  go_step3
  go_wp2_with fail
  go_step3
  go_wp2_with fail
  refine wp_loop_rounds 2 ?_
  rw [rounds_succ]
  go_wp2_with fail
  refine vget_two.mono ?_
  rintro e w2 ⟨rfl, rfl⟩
  go_wp2_with fail
  go_region_law (refine step_append_lies _ (by rfl) (.tmp 40) (.tmp 46) 54 (by rfl) w2.heap.size 9 i0 _ 1 16 Tryz.underlying54 hi0 hz0 hz1 hz2 rfl (by decide) (.slice none 0 0) 0 [] (by simp [Act.eval]) (hn _ _ _ _) ⟨w2.heap.size, 0, none⟩ 1 1 [.string ⟨#[64, 2, 0, 7]⟩] (by simp [Act.eval]) rfl (one_cell _ _ _) (by intro u hu; simp at hu; subst hu; rfl) (by omega) (by unfold maxLen; omega) (by omega) (by simp) (w2.heap.size + 1) (by simp) ?_; intro g1 cap w3 hown1 hg1 hat1 hlt1)
  go_wp2_with fail
  rw [rounds_succ]
  go_wp2_with fail
  try rw [Exit.noGoto_ret]
  have hcell := World.ownsRow.cells hown1 (g := g1) rfl 0 _ rfl
  have hg1' : w2.grownBy w3 none := only_trans (only_alloc (only_drew (only_refl w2 none)) (.cells #[.string ⟨#[64, 2, 0, 7]⟩] 9)) hg1
  refine bodyPost_ret (by simp [results, Tryz.results48, go_sem]; try rfl) rfl ?_
  exact ⟨g1, cap, rfl, hcell, hg1'⟩
end
end Go.Proofs.YtcepfhnlbnlnhaaGreatDoor
