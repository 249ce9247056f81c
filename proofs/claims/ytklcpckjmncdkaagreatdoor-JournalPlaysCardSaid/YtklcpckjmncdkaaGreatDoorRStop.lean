/- THE WALK of the document's stopped. -/
import Derived.Test.YtklcpckjmncdkaaGreatDoorRDisk
namespace Go.Proofs.YtklcpckjmncdkaaGreatDoor
set_option maxRecDepth 100000
open Go.RowKit
section
variable {w : World} {g : Nat} {D : Dk}
set_option maxHeartbeats 800000 in
theorem rstop_1 (h : RDiskAt w g D) (hD : D.cut = 1)  : Calls Tryz.prog 48 #[.pointer (some ⟨g, 0, none⟩)] w fun e w' => e = .returned (.int .i64 (D.stopped.1 : Nat)) ∧ RDiskAt w' g D.stopped.2 ∧ w.grownBy w' (some g) := by
  have ht : D.ticked = { D with cut := 0 } := by unfold Dk.ticked; rw [hD]
  have hs : D.stopped = (240, D.ticked) := by unfold Dk.stopped; rw [if_pos hD]
  rw [hs]
  have okt : (D.ticked).Ok := h.ok.ticked
  obtain ⟨⟨kv, hb, hr⟩, ok⟩ := h
  obtain ⟨c0, c1, c2, c3, c4, c5, c6, c7, c8, c9⟩ := rdk_cells hb
  have hf := fun i => hb.frozen i
  have hog : w.grownBy (w.setCell ⟨g, 6, none⟩ (.int .i64 0)) (some g) := only_put (only_refl w (some g)) 6 (.int .i64 0)
  have hd : RDiskAt (w.setCell ⟨g, 6, none⟩ (.int .i64 0)) g D.ticked := by
    refine ⟨⟨kv, ?_, ?_⟩, okt⟩
    · have hbb := (hb.put 6 (.int .i64 0))
      rw [ht]
      show Blk _ _ _ (rdkCells _ kv)
      unfold rdkCells at hbb ⊢
      exact hbb
    · rw [ht]; exact hr.far hb (by decide) hog
  rw [hD] at c6
  have hbd := ok.cut
  have hbd2 := ok.brk
  unfold I64 at hbd hbd2
  have H := Lib.hid hd
  have Ho := Lib.hid hog
  clear hd hog hs okt ht hD
  go_enter Tryz.func48, Tryz.ntmps48
  go_wp2_with fail
  go_ret
  exact ⟨rfl, H.out, Ho.out⟩
set_option maxHeartbeats 800000 in
theorem rstop_zf (h : RDiskAt w g D) (hD : D.cut = 0) (hB : D.brk = 0) (hF : D.full = true) : Calls Tryz.prog 48 #[.pointer (some ⟨g, 0, none⟩)] w fun e w' => e = .returned (.int .i64 (D.stopped.1 : Nat)) ∧ RDiskAt w' g D.stopped.2 ∧ w.grownBy w' (some g) := by
  have ht : D.ticked = D := by unfold Dk.ticked; rw [hD]; cases D; simp only at hD; subst hD; rfl
  have hbk : D.ticked.broken = D := by rw [ht]; unfold Dk.broken; rw [if_neg (by first | omega | (simp only; omega))]
  have hs : D.stopped = (241, D.ticked.broken) := by unfold Dk.stopped; rw [if_neg (by omega), if_pos (by rw [hbk]; exact hF)]
  rw [hs]
  have okt : (D.ticked.broken).Ok := h.ok.ticked.broken
  obtain ⟨⟨kv, hb, hr⟩, ok⟩ := h
  obtain ⟨c0, c1, c2, c3, c4, c5, c6, c7, c8, c9⟩ := rdk_cells hb
  have hf := fun i => hb.frozen i
  have hog : w.grownBy w (some g) := only_refl w (some g)
  have hd : RDiskAt w g D.ticked.broken := by
    refine ⟨⟨kv, ?_, ?_⟩, okt⟩
    · have hbb := hb
      rw [hbk]
      show Blk _ _ _ (rdkCells _ kv)
      unfold rdkCells at hbb ⊢
      exact hbb
    · rw [hbk]; exact hr.far hb (by decide) hog
  rw [hD] at c6
  rw [hB] at c8
  rw [hF] at c9
  have hbd := ok.cut
  have hbd2 := ok.brk
  unfold I64 at hbd hbd2
  have H := Lib.hid hd
  have Ho := Lib.hid hog
  clear hd hog hs okt ht hbk hD hB hF
  go_enter Tryz.func48, Tryz.ntmps48
  go_wp2_with fail
  go_ret
  exact ⟨rfl, H.out, Ho.out⟩
set_option maxHeartbeats 800000 in
theorem rstop_zn (h : RDiskAt w g D) (hD : D.cut = 0) (hB : D.brk = 0) (hF : D.full = false) : Calls Tryz.prog 48 #[.pointer (some ⟨g, 0, none⟩)] w fun e w' => e = .returned (.int .i64 (D.stopped.1 : Nat)) ∧ RDiskAt w' g D.stopped.2 ∧ w.grownBy w' (some g) := by
  have ht : D.ticked = D := by unfold Dk.ticked; rw [hD]; cases D; simp only at hD; subst hD; rfl
  have hbk : D.ticked.broken = D := by rw [ht]; unfold Dk.broken; rw [if_neg (by first | omega | (simp only; omega))]
  have hs : D.stopped = (0, D.ticked.broken) := by unfold Dk.stopped; rw [if_neg (by omega), if_neg (by rw [hbk, hF]; simp)]
  rw [hs]
  have okt : (D.ticked.broken).Ok := h.ok.ticked.broken
  obtain ⟨⟨kv, hb, hr⟩, ok⟩ := h
  obtain ⟨c0, c1, c2, c3, c4, c5, c6, c7, c8, c9⟩ := rdk_cells hb
  have hf := fun i => hb.frozen i
  have hog : w.grownBy w (some g) := only_refl w (some g)
  have hd : RDiskAt w g D.ticked.broken := by
    refine ⟨⟨kv, ?_, ?_⟩, okt⟩
    · have hbb := hb
      rw [hbk]
      show Blk _ _ _ (rdkCells _ kv)
      unfold rdkCells at hbb ⊢
      exact hbb
    · rw [hbk]; exact hr.far hb (by decide) hog
  rw [hD] at c6
  rw [hB] at c8
  rw [hF] at c9
  have hbd := ok.cut
  have hbd2 := ok.brk
  unfold I64 at hbd hbd2
  have H := Lib.hid hd
  have Ho := Lib.hid hog
  clear hd hog hs okt ht hbk hD hB hF
  go_enter Tryz.func48, Tryz.ntmps48
  go_wp2_with fail
  go_ret
  exact ⟨rfl, H.out, Ho.out⟩
set_option maxHeartbeats 800000 in
theorem rstop_z1 (h : RDiskAt w g D) (hD : D.cut = 0) (hB : D.brk = 1) : Calls Tryz.prog 48 #[.pointer (some ⟨g, 0, none⟩)] w fun e w' => e = .returned (.int .i64 (D.stopped.1 : Nat)) ∧ RDiskAt w' g D.stopped.2 ∧ w.grownBy w' (some g) := by
  have ht : D.ticked = D := by unfold Dk.ticked; rw [hD]; cases D; simp only at hD; subst hD; rfl
  have hbk : D.ticked.broken = { D with brk := 0, full := true } := by rw [ht]; unfold Dk.broken; rw [if_pos (by first | omega | (simp only; omega))]; simp only [hB]; rfl
  have hs : D.stopped = (241, D.ticked.broken) := by unfold Dk.stopped; rw [if_neg (by omega), if_pos (by rw [hbk])]
  rw [hs]
  have okt : (D.ticked.broken).Ok := h.ok.ticked.broken
  obtain ⟨⟨kv, hb, hr⟩, ok⟩ := h
  obtain ⟨c0, c1, c2, c3, c4, c5, c6, c7, c8, c9⟩ := rdk_cells hb
  have hf := fun i => hb.frozen i
  have hog : w.grownBy ((w.setCell ⟨g, 8, none⟩ (.int .i64 0)).setCell ⟨g, 9, none⟩ (.bool true)) (some g) := only_put (only_put (only_refl w (some g)) 8 (.int .i64 0)) 9 (.bool true)
  have hd : RDiskAt ((w.setCell ⟨g, 8, none⟩ (.int .i64 0)).setCell ⟨g, 9, none⟩ (.bool true)) g D.ticked.broken := by
    refine ⟨⟨kv, ?_, ?_⟩, okt⟩
    · have hbb := ((hb).put 8 (.int .i64 0)).put 9 (.bool true)
      rw [hbk]
      show Blk _ _ _ (rdkCells _ kv)
      unfold rdkCells at hbb ⊢
      exact hbb
    · rw [hbk]; exact hr.far hb (by decide) hog
  rw [hD] at c6
  rw [hB] at c8
  have hbd := ok.cut
  have hbd2 := ok.brk
  unfold I64 at hbd hbd2
  have H := Lib.hid hd
  have Ho := Lib.hid hog
  clear hd hog hs okt ht hbk hD hB
  go_enter Tryz.func48, Tryz.ntmps48
  go_wp2_with fail
  go_ret
  exact ⟨rfl, H.out, Ho.out⟩
set_option maxHeartbeats 800000 in
theorem rstop_zm (h : RDiskAt w g D) (hD : D.cut = 0) (hB : 2 ≤ D.brk) : Calls Tryz.prog 48 #[.pointer (some ⟨g, 0, none⟩)] w fun e w' => e = .returned (.int .i64 (D.stopped.1 : Nat)) ∧ RDiskAt w' g D.stopped.2 ∧ w.grownBy w' (some g) := by
  have ht : D.ticked = D := by unfold Dk.ticked; rw [hD]; cases D; simp only at hD; subst hD; rfl
  have hF : D.full = false := h.ok.full (by omega)
  have hbk : D.ticked.broken = { D with brk := D.brk - 1, full := D.full } := by rw [ht, hF]; unfold Dk.broken; rw [if_pos (by first | omega | (simp only; omega)), show (D.brk == 1) = false from by rw [beq_eq_false_iff_ne]; omega]
  have hs : D.stopped = (0, D.ticked.broken) := by unfold Dk.stopped; rw [if_neg (by omega), if_neg (by rw [hbk]; simp only; rw [hF]; simp)]
  rw [hs]
  have okt : (D.ticked.broken).Ok := h.ok.ticked.broken
  obtain ⟨⟨kv, hb, hr⟩, ok⟩ := h
  obtain ⟨c0, c1, c2, c3, c4, c5, c6, c7, c8, c9⟩ := rdk_cells hb
  have hf := fun i => hb.frozen i
  have hog : w.grownBy (w.setCell ⟨g, 8, none⟩ (.int .i64 ((D.brk : Int) - 1))) (some g) := only_put (only_refl w (some g)) 8 (.int .i64 ((D.brk : Int) - 1))
  have hd : RDiskAt (w.setCell ⟨g, 8, none⟩ (.int .i64 ((D.brk : Int) - 1))) g D.ticked.broken := by
    refine ⟨⟨kv, ?_, ?_⟩, okt⟩
    · have hbb := (hb).put 8 (.int .i64 ((D.brk : Int) - 1))
      rw [hbk]
      have e8 : ((D.brk - 1 : Nat) : Int) = (D.brk : Int) - 1 := by omega
      show Blk _ _ _ (rdkCells _ kv)
      unfold rdkCells at hbb ⊢
      simp only [e8]
      exact hbb
    · rw [hbk]; exact hr.far hb (by decide) hog
  rw [hD] at c6
  rw [hF] at c9
  have hbd := ok.cut
  have hbd2 := ok.brk
  unfold I64 at hbd hbd2
  have H := Lib.hid hd
  have Ho := Lib.hid hog
  clear hd hog hs okt ht hbk hD hF
  go_enter Tryz.func48, Tryz.ntmps48
  go_wp2_with fail
  go_ret
  exact ⟨rfl, H.out, Ho.out⟩
set_option maxHeartbeats 800000 in
theorem rstop_mf (h : RDiskAt w g D) (hD : 2 ≤ D.cut) (hB : D.brk = 0) (hF : D.full = true) : Calls Tryz.prog 48 #[.pointer (some ⟨g, 0, none⟩)] w fun e w' => e = .returned (.int .i64 (D.stopped.1 : Nat)) ∧ RDiskAt w' g D.stopped.2 ∧ w.grownBy w' (some g) := by
  have ht : D.ticked = { D with cut := D.cut - 1 } := rfl
  have hbk : D.ticked.broken = { D with cut := D.cut - 1 } := by rw [ht]; unfold Dk.broken; rw [if_neg (by first | omega | (simp only; omega))]
  have hs : D.stopped = (241, D.ticked.broken) := by unfold Dk.stopped; rw [if_neg (by omega), if_pos (by rw [hbk]; exact hF)]
  rw [hs]
  have okt : (D.ticked.broken).Ok := h.ok.ticked.broken
  obtain ⟨⟨kv, hb, hr⟩, ok⟩ := h
  obtain ⟨c0, c1, c2, c3, c4, c5, c6, c7, c8, c9⟩ := rdk_cells hb
  have hf := fun i => hb.frozen i
  have hog : w.grownBy (w.setCell ⟨g, 6, none⟩ (.int .i64 ((D.cut : Int) - 1))) (some g) := only_put (only_refl w (some g)) 6 (.int .i64 ((D.cut : Int) - 1))
  have hd : RDiskAt (w.setCell ⟨g, 6, none⟩ (.int .i64 ((D.cut : Int) - 1))) g D.ticked.broken := by
    refine ⟨⟨kv, ?_, ?_⟩, okt⟩
    · have hbb := (hb.put 6 (.int .i64 ((D.cut : Int) - 1)))
      rw [hbk]
      have e6 : ((D.cut - 1 : Nat) : Int) = (D.cut : Int) - 1 := by omega
      show Blk _ _ _ (rdkCells _ kv)
      unfold rdkCells at hbb ⊢
      simp only [e6]
      exact hbb
    · rw [hbk]; exact hr.far hb (by decide) hog
  rw [hB] at c8
  rw [hF] at c9
  have hbd := ok.cut
  have hbd2 := ok.brk
  unfold I64 at hbd hbd2
  have H := Lib.hid hd
  have Ho := Lib.hid hog
  clear hd hog hs okt ht hbk hB hF
  go_enter Tryz.func48, Tryz.ntmps48
  go_wp2_with fail
  go_ret
  exact ⟨rfl, H.out, Ho.out⟩
set_option maxHeartbeats 800000 in
theorem rstop_mn (h : RDiskAt w g D) (hD : 2 ≤ D.cut) (hB : D.brk = 0) (hF : D.full = false) : Calls Tryz.prog 48 #[.pointer (some ⟨g, 0, none⟩)] w fun e w' => e = .returned (.int .i64 (D.stopped.1 : Nat)) ∧ RDiskAt w' g D.stopped.2 ∧ w.grownBy w' (some g) := by
  have ht : D.ticked = { D with cut := D.cut - 1 } := rfl
  have hbk : D.ticked.broken = { D with cut := D.cut - 1 } := by rw [ht]; unfold Dk.broken; rw [if_neg (by first | omega | (simp only; omega))]
  have hs : D.stopped = (0, D.ticked.broken) := by unfold Dk.stopped; rw [if_neg (by omega), if_neg (by rw [hbk]; simp only; rw [hF]; simp)]
  rw [hs]
  have okt : (D.ticked.broken).Ok := h.ok.ticked.broken
  obtain ⟨⟨kv, hb, hr⟩, ok⟩ := h
  obtain ⟨c0, c1, c2, c3, c4, c5, c6, c7, c8, c9⟩ := rdk_cells hb
  have hf := fun i => hb.frozen i
  have hog : w.grownBy (w.setCell ⟨g, 6, none⟩ (.int .i64 ((D.cut : Int) - 1))) (some g) := only_put (only_refl w (some g)) 6 (.int .i64 ((D.cut : Int) - 1))
  have hd : RDiskAt (w.setCell ⟨g, 6, none⟩ (.int .i64 ((D.cut : Int) - 1))) g D.ticked.broken := by
    refine ⟨⟨kv, ?_, ?_⟩, okt⟩
    · have hbb := (hb.put 6 (.int .i64 ((D.cut : Int) - 1)))
      rw [hbk]
      have e6 : ((D.cut - 1 : Nat) : Int) = (D.cut : Int) - 1 := by omega
      show Blk _ _ _ (rdkCells _ kv)
      unfold rdkCells at hbb ⊢
      simp only [e6]
      exact hbb
    · rw [hbk]; exact hr.far hb (by decide) hog
  rw [hB] at c8
  rw [hF] at c9
  have hbd := ok.cut
  have hbd2 := ok.brk
  unfold I64 at hbd hbd2
  have H := Lib.hid hd
  have Ho := Lib.hid hog
  clear hd hog hs okt ht hbk hB hF
  go_enter Tryz.func48, Tryz.ntmps48
  go_wp2_with fail
  go_ret
  exact ⟨rfl, H.out, Ho.out⟩
set_option maxHeartbeats 800000 in
theorem rstop_m1 (h : RDiskAt w g D) (hD : 2 ≤ D.cut) (hB : D.brk = 1) : Calls Tryz.prog 48 #[.pointer (some ⟨g, 0, none⟩)] w fun e w' => e = .returned (.int .i64 (D.stopped.1 : Nat)) ∧ RDiskAt w' g D.stopped.2 ∧ w.grownBy w' (some g) := by
  have ht : D.ticked = { D with cut := D.cut - 1 } := rfl
  have hbk : D.ticked.broken = { D with cut := D.cut - 1, brk := 0, full := true } := by rw [ht]; unfold Dk.broken; rw [if_pos (by first | omega | (simp only; omega))]; simp only [hB]; rfl
  have hs : D.stopped = (241, D.ticked.broken) := by unfold Dk.stopped; rw [if_neg (by omega), if_pos (by rw [hbk])]
  rw [hs]
  have okt : (D.ticked.broken).Ok := h.ok.ticked.broken
  obtain ⟨⟨kv, hb, hr⟩, ok⟩ := h
  obtain ⟨c0, c1, c2, c3, c4, c5, c6, c7, c8, c9⟩ := rdk_cells hb
  have hf := fun i => hb.frozen i
  have hog : w.grownBy (((w.setCell ⟨g, 6, none⟩ (.int .i64 ((D.cut : Int) - 1))).setCell ⟨g, 8, none⟩ (.int .i64 0)).setCell ⟨g, 9, none⟩ (.bool true)) (some g) := only_put (only_put (only_put (only_refl w (some g)) 6 (.int .i64 ((D.cut : Int) - 1))) 8 (.int .i64 0)) 9 (.bool true)
  have hd : RDiskAt (((w.setCell ⟨g, 6, none⟩ (.int .i64 ((D.cut : Int) - 1))).setCell ⟨g, 8, none⟩ (.int .i64 0)).setCell ⟨g, 9, none⟩ (.bool true)) g D.ticked.broken := by
    refine ⟨⟨kv, ?_, ?_⟩, okt⟩
    · have hbb := (((hb.put 6 (.int .i64 ((D.cut : Int) - 1)))).put 8 (.int .i64 0)).put 9 (.bool true)
      rw [hbk]
      have e6 : ((D.cut - 1 : Nat) : Int) = (D.cut : Int) - 1 := by omega
      show Blk _ _ _ (rdkCells _ kv)
      unfold rdkCells at hbb ⊢
      simp only [e6]
      exact hbb
    · rw [hbk]; exact hr.far hb (by decide) hog
  rw [hB] at c8
  have hbd := ok.cut
  have hbd2 := ok.brk
  unfold I64 at hbd hbd2
  have H := Lib.hid hd
  have Ho := Lib.hid hog
  clear hd hog hs okt ht hbk hB
  go_enter Tryz.func48, Tryz.ntmps48
  go_wp2_with fail
  go_ret
  exact ⟨rfl, H.out, Ho.out⟩
set_option maxHeartbeats 800000 in
theorem rstop_mm (h : RDiskAt w g D) (hD : 2 ≤ D.cut) (hB : 2 ≤ D.brk) : Calls Tryz.prog 48 #[.pointer (some ⟨g, 0, none⟩)] w fun e w' => e = .returned (.int .i64 (D.stopped.1 : Nat)) ∧ RDiskAt w' g D.stopped.2 ∧ w.grownBy w' (some g) := by
  have ht : D.ticked = { D with cut := D.cut - 1 } := rfl
  have hF : D.full = false := h.ok.full (by omega)
  have hbk : D.ticked.broken = { D with cut := D.cut - 1, brk := D.brk - 1, full := D.full } := by rw [ht, hF]; unfold Dk.broken; rw [if_pos (by first | omega | (simp only; omega)), show (D.brk == 1) = false from by rw [beq_eq_false_iff_ne]; omega]
  have hs : D.stopped = (0, D.ticked.broken) := by unfold Dk.stopped; rw [if_neg (by omega), if_neg (by rw [hbk]; simp only; rw [hF]; simp)]
  rw [hs]
  have okt : (D.ticked.broken).Ok := h.ok.ticked.broken
  obtain ⟨⟨kv, hb, hr⟩, ok⟩ := h
  obtain ⟨c0, c1, c2, c3, c4, c5, c6, c7, c8, c9⟩ := rdk_cells hb
  have hf := fun i => hb.frozen i
  have hog : w.grownBy ((w.setCell ⟨g, 6, none⟩ (.int .i64 ((D.cut : Int) - 1))).setCell ⟨g, 8, none⟩ (.int .i64 ((D.brk : Int) - 1))) (some g) := only_put (only_put (only_refl w (some g)) 6 (.int .i64 ((D.cut : Int) - 1))) 8 (.int .i64 ((D.brk : Int) - 1))
  have hd : RDiskAt ((w.setCell ⟨g, 6, none⟩ (.int .i64 ((D.cut : Int) - 1))).setCell ⟨g, 8, none⟩ (.int .i64 ((D.brk : Int) - 1))) g D.ticked.broken := by
    refine ⟨⟨kv, ?_, ?_⟩, okt⟩
    · have hbb := ((hb.put 6 (.int .i64 ((D.cut : Int) - 1)))).put 8 (.int .i64 ((D.brk : Int) - 1))
      rw [hbk]
      have e6 : ((D.cut - 1 : Nat) : Int) = (D.cut : Int) - 1 := by omega
      have e8 : ((D.brk - 1 : Nat) : Int) = (D.brk : Int) - 1 := by omega
      show Blk _ _ _ (rdkCells _ kv)
      unfold rdkCells at hbb ⊢
      simp only [e6, e8]
      exact hbb
    · rw [hbk]; exact hr.far hb (by decide) hog
  rw [hF] at c9
  have hbd := ok.cut
  have hbd2 := ok.brk
  unfold I64 at hbd hbd2
  have H := Lib.hid hd
  have Ho := Lib.hid hog
  clear hd hog hs okt ht hbk hF
  go_enter Tryz.func48, Tryz.ntmps48
  go_wp2_with fail
  go_ret
  exact ⟨rfl, H.out, Ho.out⟩
theorem rstopped_any (h : RDiskAt w g D) : Calls Tryz.prog 48 #[.pointer (some ⟨g, 0, none⟩)] w fun e w' => e = .returned (.int .i64 (D.stopped.1 : Nat)) ∧ RDiskAt w' g D.stopped.2 ∧ w.grownBy w' (some g) := by
  by_cases h1 : D.cut = 1
  · exact rstop_1 h h1
  have hb : D.brk = 0 ∨ D.brk = 1 ∨ 2 ≤ D.brk := by omega
  by_cases h0 : D.cut = 0
  · rcases hb with hb | hb | hb
    · cases hF : D.full with
      | true => exact rstop_zf h h0 hb hF
      | false => exact rstop_zn h h0 hb hF
    · exact rstop_z1 h h0 hb
    · exact rstop_zm h h0 hb
  · have h2 : 2 ≤ D.cut := by omega
    rcases hb with hb | hb | hb
    · cases hF : D.full with
      | true => exact rstop_mf h h2 hb hF
      | false => exact rstop_mn h h2 hb hF
    · exact rstop_m1 h h2 hb
    · exact rstop_mm h h2 hb
end
end Go.Proofs.YtklcpckjmncdkaaGreatDoor
