/- THE WALKS of the packet's head at a Publish. -/
import Derived.Test.YtcepfhnlbnlnhaaDoorGetE
namespace Go.Proofs.YtcepfhnlbnlnhaaDoor
set_option maxRecDepth 100000
open Go.RowKit

section
variable {w : World}
set_option maxHeartbeats 3200000 in
theorem head_pub0 : Calls Tryd.prog 32 #[.int .i64 48] w fun e w' => e = .returned (.agg (pkZ 3 0 0 ⟨#[]⟩ ⟨#[]⟩ (.slice none 0 0))) ∧ w.grownBy w' none := by
  have hR1 := (Blk.new w 37 (ackZ 0 0)).alloc (.cells (ackZ 0 0) 37)
  have hP1 : Blk ((w.alloc (.cells (ackZ 0 0) 37)).alloc (.cells (ackZ 0 0) 37)) (w.heap.size + 1) 37 (ackZ 0 0) := by
    have h := Blk.new (w.alloc (.cells (ackZ 0 0) 37)) 37 (ackZ 0 0)
    rw [show (w.alloc (.cells (ackZ 0 0) 37)).heap.size = w.heap.size + 1 by simp] at h
    exact h
  have hg1 : w.grownBy ((w.alloc (.cells (ackZ 0 0) 37)).alloc (.cells (ackZ 0 0) 37)) none := only_alloc (only_alloc (only_refl w none) _) _
  have hP2 := hP1.rowed (ackZ 3 0)
  have hR2 := hR1.rowFar (g := w.heap.size + 1) (by omega) (ackZ 3 0)
  have hg2 := only_row hg1 (g := w.heap.size + 1) (by omega) (ackZ 3 0)
  obtain ⟨W, hW⟩ : ∃ W, ((w.alloc (.cells (ackZ 0 0) 37)).alloc (.cells (ackZ 0 0) 37)).setRow (w.heap.size + 1) (ackZ 3 0) = W := ⟨_, rfl⟩
  have hone3 := Lib.hid (ack_one 3 0)
  have HW := Lib.hid hW
  rw [hW] at hP2 hR2 hg2
  clear hW
  unfold ackZ at hR1 hP1 HW
  go_enter Tryd.func32, Tryd.ntmps32
  go_upto_region 2 with (refine wpList_store_row (by rfl) 37 _ _ (by rfl) (w.heap.size + 1) (ackZ 3 0) (by rfl) (by rfl) 37 _ hP1 (by kernel_rfl) (by rfl) hone3.out ?_; unfold ackZ)
  rw [HW.out]
  have c0 : W.cell? ⟨w.heap.size + 1, 0, none⟩ = some (.int .i64 3) := hP2.cell 0
  have c1 : W.cell? ⟨w.heap.size + 1, 1, none⟩ = some (.bool false) := hP2.cell 1
  have c2 : W.cell? ⟨w.heap.size + 1, 2, none⟩ = some (.bool false) := hP2.cell 2
  have c3 : W.cell? ⟨w.heap.size + 1, 3, none⟩ = some (.int .i64 0) := hP2.cell 3
  have f1 := hP2.frozen 1
  have f2 := hP2.frozen 2
  have f3 := hP2.frozen 3
  have b1 : bits .and .i64 48 8 = 0 := by decide
  have b2 : bits .and .i64 24 3 = 0 := by decide
  have b3 : bits .and .i64 48 1 = 0 := by decide
  go_upto_region 7 with (first
    | (go_at_call 33; refine must_true.mono ?_; rintro e w' ⟨rfl, rfl⟩))
  have hP5 : Blk (((W.setCell ⟨w.heap.size + 1, 1, none⟩ (.bool false)).setCell ⟨w.heap.size + 1, 3, none⟩ (.int .i64 0)).setCell ⟨w.heap.size + 1, 2, none⟩ (.bool false)) (w.heap.size + 1) 37 (pkZ 3 0 0 ⟨#[]⟩ ⟨#[]⟩ (.slice none 0 0)) := ((hP2.put 1 (.bool false)).put 3 (.int .i64 0)).put 2 (.bool false)
  have hne : w.heap.size ≠ w.heap.size + 1 := by omega
  have hR5 := ((hR2.far (p := ⟨w.heap.size + 1, 1, none⟩) hne (.bool false)).far (p := ⟨w.heap.size + 1, 3, none⟩) hne (.int .i64 0)).far (p := ⟨w.heap.size + 1, 2, none⟩) hne (.bool false)
  have hg5 := only_new (only_new (only_new hg2 (p := ⟨w.heap.size + 1, 1, none⟩) (by simp) (.bool false)) (p := ⟨w.heap.size + 1, 3, none⟩) (by simp) (.int .i64 0)) (p := ⟨w.heap.size + 1, 2, none⟩) (by simp) (.bool false)
  generalize (((W.setCell ⟨w.heap.size + 1, 1, none⟩ (.bool false)).setCell ⟨w.heap.size + 1, 3, none⟩ (.int .i64 0)).setCell ⟨w.heap.size + 1, 2, none⟩ (.bool false)) = W5 at *
  have d1 : W5.cell? ⟨w.heap.size + 1, 1, none⟩ = some (.bool false) := hP5.cell 1
  have d3 : W5.cell? ⟨w.heap.size + 1, 3, none⟩ = some (.int .i64 0) := hP5.cell 3
  have HQ := Lib.hid (hR5.rowed (pkZ 3 0 0 ⟨#[]⟩ ⟨#[]⟩ (.slice none 0 0)))
  have HF := Lib.hid (only_row hg5 (Nat.le_refl _) (pkZ 3 0 0 ⟨#[]⟩ ⟨#[]⟩ (.slice none 0 0)))
  have hone5 := Lib.hid (pk_one 3 0 0 ⟨#[]⟩ ⟨#[]⟩ none 0 0)
  clear c0 c1 c2 c3 f1 f2 f3 hg5
  unfold pkZ at hP5
  unfold ackZ at hR5
  go_wp2_with (first
    | (go_at_call 33; refine must_true.mono ?_; rintro e w' ⟨rfl, rfl⟩)
    | (refine wpList_load_row (by rfl) 37 _ (by rfl) (w.heap.size + 1) (by rfl) 37 _ (0, 0) _ hP5 Tryd.underlying37 (by rfl) (by kernel_rfl) ?_)
    | (refine wpList_store_row (by rfl) 37 _ _ (by rfl) w.heap.size (pkZ 3 0 0 ⟨#[]⟩ ⟨#[]⟩ (.slice none 0 0)) (by rfl) (by rfl) 37 _ hR5 (by kernel_rfl) (by rfl) hone5.out ?_))
  refine bodyPost_ret (v := .agg (pkZ 3 0 0 ⟨#[]⟩ ⟨#[]⟩ (.slice none 0 0))) ?_ rfl ?_
  · exact results_cell_row (p := 2) Tryd.results32 _ _ w.heap.size 37 (pkZ 3 0 0 ⟨#[]⟩ ⟨#[]⟩ (.slice none 0 0)) (0, 0) _ rfl HQ.out Tryd.underlying37 rfl (by kernel_rfl)
  · exact ⟨rfl, HF.out⟩
set_option maxHeartbeats 3200000 in
theorem head_pub1 : Calls Tryd.prog 32 #[.int .i64 50] w fun e w' => e = .returned (.agg (pkZ 3 1 0 ⟨#[]⟩ ⟨#[]⟩ (.slice none 0 0))) ∧ w.grownBy w' none := by
  have hR1 := (Blk.new w 37 (ackZ 0 0)).alloc (.cells (ackZ 0 0) 37)
  have hP1 : Blk ((w.alloc (.cells (ackZ 0 0) 37)).alloc (.cells (ackZ 0 0) 37)) (w.heap.size + 1) 37 (ackZ 0 0) := by
    have h := Blk.new (w.alloc (.cells (ackZ 0 0) 37)) 37 (ackZ 0 0)
    rw [show (w.alloc (.cells (ackZ 0 0) 37)).heap.size = w.heap.size + 1 by simp] at h
    exact h
  have hg1 : w.grownBy ((w.alloc (.cells (ackZ 0 0) 37)).alloc (.cells (ackZ 0 0) 37)) none := only_alloc (only_alloc (only_refl w none) _) _
  have hP2 := hP1.rowed (ackZ 3 0)
  have hR2 := hR1.rowFar (g := w.heap.size + 1) (by omega) (ackZ 3 0)
  have hg2 := only_row hg1 (g := w.heap.size + 1) (by omega) (ackZ 3 0)
  obtain ⟨W, hW⟩ : ∃ W, ((w.alloc (.cells (ackZ 0 0) 37)).alloc (.cells (ackZ 0 0) 37)).setRow (w.heap.size + 1) (ackZ 3 0) = W := ⟨_, rfl⟩
  have hone3 := Lib.hid (ack_one 3 0)
  have HW := Lib.hid hW
  rw [hW] at hP2 hR2 hg2
  clear hW
  unfold ackZ at hR1 hP1 HW
  go_enter Tryd.func32, Tryd.ntmps32
  go_upto_region 2 with (refine wpList_store_row (by rfl) 37 _ _ (by rfl) (w.heap.size + 1) (ackZ 3 0) (by rfl) (by rfl) 37 _ hP1 (by kernel_rfl) (by rfl) hone3.out ?_; unfold ackZ)
  rw [HW.out]
  have c0 : W.cell? ⟨w.heap.size + 1, 0, none⟩ = some (.int .i64 3) := hP2.cell 0
  have c1 : W.cell? ⟨w.heap.size + 1, 1, none⟩ = some (.bool false) := hP2.cell 1
  have c2 : W.cell? ⟨w.heap.size + 1, 2, none⟩ = some (.bool false) := hP2.cell 2
  have c3 : W.cell? ⟨w.heap.size + 1, 3, none⟩ = some (.int .i64 0) := hP2.cell 3
  have f1 := hP2.frozen 1
  have f2 := hP2.frozen 2
  have f3 := hP2.frozen 3
  have b1 : bits .and .i64 50 8 = 0 := by decide
  have b2 : bits .and .i64 25 3 = 1 := by decide
  have b3 : bits .and .i64 50 1 = 0 := by decide
  go_upto_region 7 with (first
    | (go_at_call 33; refine must_true.mono ?_; rintro e w' ⟨rfl, rfl⟩))
  have hP5 : Blk (((W.setCell ⟨w.heap.size + 1, 1, none⟩ (.bool false)).setCell ⟨w.heap.size + 1, 3, none⟩ (.int .i64 1)).setCell ⟨w.heap.size + 1, 2, none⟩ (.bool false)) (w.heap.size + 1) 37 (pkZ 3 1 0 ⟨#[]⟩ ⟨#[]⟩ (.slice none 0 0)) := ((hP2.put 1 (.bool false)).put 3 (.int .i64 1)).put 2 (.bool false)
  have hne : w.heap.size ≠ w.heap.size + 1 := by omega
  have hR5 := ((hR2.far (p := ⟨w.heap.size + 1, 1, none⟩) hne (.bool false)).far (p := ⟨w.heap.size + 1, 3, none⟩) hne (.int .i64 1)).far (p := ⟨w.heap.size + 1, 2, none⟩) hne (.bool false)
  have hg5 := only_new (only_new (only_new hg2 (p := ⟨w.heap.size + 1, 1, none⟩) (by simp) (.bool false)) (p := ⟨w.heap.size + 1, 3, none⟩) (by simp) (.int .i64 1)) (p := ⟨w.heap.size + 1, 2, none⟩) (by simp) (.bool false)
  generalize (((W.setCell ⟨w.heap.size + 1, 1, none⟩ (.bool false)).setCell ⟨w.heap.size + 1, 3, none⟩ (.int .i64 1)).setCell ⟨w.heap.size + 1, 2, none⟩ (.bool false)) = W5 at *
  have d1 : W5.cell? ⟨w.heap.size + 1, 1, none⟩ = some (.bool false) := hP5.cell 1
  have d3 : W5.cell? ⟨w.heap.size + 1, 3, none⟩ = some (.int .i64 1) := hP5.cell 3
  have HQ := Lib.hid (hR5.rowed (pkZ 3 1 0 ⟨#[]⟩ ⟨#[]⟩ (.slice none 0 0)))
  have HF := Lib.hid (only_row hg5 (Nat.le_refl _) (pkZ 3 1 0 ⟨#[]⟩ ⟨#[]⟩ (.slice none 0 0)))
  have hone5 := Lib.hid (pk_one 3 1 0 ⟨#[]⟩ ⟨#[]⟩ none 0 0)
  clear c0 c1 c2 c3 f1 f2 f3 hg5
  unfold pkZ at hP5
  unfold ackZ at hR5
  go_wp2_with (first
    | (go_at_call 33; refine must_true.mono ?_; rintro e w' ⟨rfl, rfl⟩)
    | (refine wpList_load_row (by rfl) 37 _ (by rfl) (w.heap.size + 1) (by rfl) 37 _ (0, 0) _ hP5 Tryd.underlying37 (by rfl) (by kernel_rfl) ?_)
    | (refine wpList_store_row (by rfl) 37 _ _ (by rfl) w.heap.size (pkZ 3 1 0 ⟨#[]⟩ ⟨#[]⟩ (.slice none 0 0)) (by rfl) (by rfl) 37 _ hR5 (by kernel_rfl) (by rfl) hone5.out ?_))
  refine bodyPost_ret (v := .agg (pkZ 3 1 0 ⟨#[]⟩ ⟨#[]⟩ (.slice none 0 0))) ?_ rfl ?_
  · exact results_cell_row (p := 2) Tryd.results32 _ _ w.heap.size 37 (pkZ 3 1 0 ⟨#[]⟩ ⟨#[]⟩ (.slice none 0 0)) (0, 0) _ rfl HQ.out Tryd.underlying37 rfl (by kernel_rfl)
  · exact ⟨rfl, HF.out⟩
set_option maxHeartbeats 3200000 in
theorem head_pub2 : Calls Tryd.prog 32 #[.int .i64 52] w fun e w' => e = .returned (.agg (pkZ 3 2 0 ⟨#[]⟩ ⟨#[]⟩ (.slice none 0 0))) ∧ w.grownBy w' none := by
  have hR1 := (Blk.new w 37 (ackZ 0 0)).alloc (.cells (ackZ 0 0) 37)
  have hP1 : Blk ((w.alloc (.cells (ackZ 0 0) 37)).alloc (.cells (ackZ 0 0) 37)) (w.heap.size + 1) 37 (ackZ 0 0) := by
    have h := Blk.new (w.alloc (.cells (ackZ 0 0) 37)) 37 (ackZ 0 0)
    rw [show (w.alloc (.cells (ackZ 0 0) 37)).heap.size = w.heap.size + 1 by simp] at h
    exact h
  have hg1 : w.grownBy ((w.alloc (.cells (ackZ 0 0) 37)).alloc (.cells (ackZ 0 0) 37)) none := only_alloc (only_alloc (only_refl w none) _) _
  have hP2 := hP1.rowed (ackZ 3 0)
  have hR2 := hR1.rowFar (g := w.heap.size + 1) (by omega) (ackZ 3 0)
  have hg2 := only_row hg1 (g := w.heap.size + 1) (by omega) (ackZ 3 0)
  obtain ⟨W, hW⟩ : ∃ W, ((w.alloc (.cells (ackZ 0 0) 37)).alloc (.cells (ackZ 0 0) 37)).setRow (w.heap.size + 1) (ackZ 3 0) = W := ⟨_, rfl⟩
  have hone3 := Lib.hid (ack_one 3 0)
  have HW := Lib.hid hW
  rw [hW] at hP2 hR2 hg2
  clear hW
  unfold ackZ at hR1 hP1 HW
  go_enter Tryd.func32, Tryd.ntmps32
  go_upto_region 2 with (refine wpList_store_row (by rfl) 37 _ _ (by rfl) (w.heap.size + 1) (ackZ 3 0) (by rfl) (by rfl) 37 _ hP1 (by kernel_rfl) (by rfl) hone3.out ?_; unfold ackZ)
  rw [HW.out]
  have c0 : W.cell? ⟨w.heap.size + 1, 0, none⟩ = some (.int .i64 3) := hP2.cell 0
  have c1 : W.cell? ⟨w.heap.size + 1, 1, none⟩ = some (.bool false) := hP2.cell 1
  have c2 : W.cell? ⟨w.heap.size + 1, 2, none⟩ = some (.bool false) := hP2.cell 2
  have c3 : W.cell? ⟨w.heap.size + 1, 3, none⟩ = some (.int .i64 0) := hP2.cell 3
  have f1 := hP2.frozen 1
  have f2 := hP2.frozen 2
  have f3 := hP2.frozen 3
  have b1 : bits .and .i64 52 8 = 0 := by decide
  have b2 : bits .and .i64 26 3 = 2 := by decide
  have b3 : bits .and .i64 52 1 = 0 := by decide
  go_upto_region 7 with (first
    | (go_at_call 33; refine must_true.mono ?_; rintro e w' ⟨rfl, rfl⟩))
  have hP5 : Blk (((W.setCell ⟨w.heap.size + 1, 1, none⟩ (.bool false)).setCell ⟨w.heap.size + 1, 3, none⟩ (.int .i64 2)).setCell ⟨w.heap.size + 1, 2, none⟩ (.bool false)) (w.heap.size + 1) 37 (pkZ 3 2 0 ⟨#[]⟩ ⟨#[]⟩ (.slice none 0 0)) := ((hP2.put 1 (.bool false)).put 3 (.int .i64 2)).put 2 (.bool false)
  have hne : w.heap.size ≠ w.heap.size + 1 := by omega
  have hR5 := ((hR2.far (p := ⟨w.heap.size + 1, 1, none⟩) hne (.bool false)).far (p := ⟨w.heap.size + 1, 3, none⟩) hne (.int .i64 2)).far (p := ⟨w.heap.size + 1, 2, none⟩) hne (.bool false)
  have hg5 := only_new (only_new (only_new hg2 (p := ⟨w.heap.size + 1, 1, none⟩) (by simp) (.bool false)) (p := ⟨w.heap.size + 1, 3, none⟩) (by simp) (.int .i64 2)) (p := ⟨w.heap.size + 1, 2, none⟩) (by simp) (.bool false)
  generalize (((W.setCell ⟨w.heap.size + 1, 1, none⟩ (.bool false)).setCell ⟨w.heap.size + 1, 3, none⟩ (.int .i64 2)).setCell ⟨w.heap.size + 1, 2, none⟩ (.bool false)) = W5 at *
  have d1 : W5.cell? ⟨w.heap.size + 1, 1, none⟩ = some (.bool false) := hP5.cell 1
  have d3 : W5.cell? ⟨w.heap.size + 1, 3, none⟩ = some (.int .i64 2) := hP5.cell 3
  have HQ := Lib.hid (hR5.rowed (pkZ 3 2 0 ⟨#[]⟩ ⟨#[]⟩ (.slice none 0 0)))
  have HF := Lib.hid (only_row hg5 (Nat.le_refl _) (pkZ 3 2 0 ⟨#[]⟩ ⟨#[]⟩ (.slice none 0 0)))
  have hone5 := Lib.hid (pk_one 3 2 0 ⟨#[]⟩ ⟨#[]⟩ none 0 0)
  clear c0 c1 c2 c3 f1 f2 f3 hg5
  unfold pkZ at hP5
  unfold ackZ at hR5
  go_wp2_with (first
    | (go_at_call 33; refine must_true.mono ?_; rintro e w' ⟨rfl, rfl⟩)
    | (refine wpList_load_row (by rfl) 37 _ (by rfl) (w.heap.size + 1) (by rfl) 37 _ (0, 0) _ hP5 Tryd.underlying37 (by rfl) (by kernel_rfl) ?_)
    | (refine wpList_store_row (by rfl) 37 _ _ (by rfl) w.heap.size (pkZ 3 2 0 ⟨#[]⟩ ⟨#[]⟩ (.slice none 0 0)) (by rfl) (by rfl) 37 _ hR5 (by kernel_rfl) (by rfl) hone5.out ?_))
  refine bodyPost_ret (v := .agg (pkZ 3 2 0 ⟨#[]⟩ ⟨#[]⟩ (.slice none 0 0))) ?_ rfl ?_
  · exact results_cell_row (p := 2) Tryd.results32 _ _ w.heap.size 37 (pkZ 3 2 0 ⟨#[]⟩ ⟨#[]⟩ (.slice none 0 0)) (0, 0) _ rfl HQ.out Tryd.underlying37 rfl (by kernel_rfl)
  · exact ⟨rfl, HF.out⟩
theorem head_pub (q : Nat) (hq : q ≤ 2) : Calls Tryd.prog 32 #[.int .i64 ((48 + 2 * q : Nat) : Int)] w fun e w' => e = .returned (.agg (pkZ 3 q 0 ⟨#[]⟩ ⟨#[]⟩ (.slice none 0 0))) ∧ w.grownBy w' none := by
  have : q = 0 ∨ q = 1 ∨ q = 2 := by omega
  rcases this with rfl | rfl | rfl
  · exact head_pub0
  · exact head_pub1
  · exact head_pub2
end
end Go.Proofs.YtcepfhnlbnlnhaaDoor
