/- THE WALK of change: one change is done, cut short, or refused. -/
import Derived.Test.YtklcpckjmncdkaaGreatDoorDiskL
namespace Go.Proofs.YtklcpckjmncdkaaGreatDoor
set_option maxRecDepth 100000
open Go.RowKit
section
variable {w : World} {g : Nat} {D : Dk}
set_option maxHeartbeats 1600000 in
theorem change_cut (h : DiskAt w g D) {fa fc : Nat} {ca cc : Array Value} {A C : Dk → Dk} (hD : D.cut = 1)
    (hrc : ∀ W, (callFunc fc cc).run Tryz.prog W = .ok (.enter fc cc) W)
    (hc : ∀ W, w.grownBy W (some g) → DiskAt W g D.ticked → Calls Tryz.prog fc cc W fun e w' => e = .returned (.tuple #[]) ∧ DiskAt w' g (C D.ticked) ∧ W.grownBy w' (some g)) (hk : (C D.ticked).keep = D.keep) :
    Calls Tryz.prog 46 #[.pointer (some ⟨g, 0, none⟩), .func (.func fa) #[] ca, .func (.func fc) #[] cc] w fun e w' =>
      e = .returned (.int .u8 ((D.change A C).1 : Nat)) ∧ DiskAt w' g (D.change A C).2 ∧ w.grownBy w' (some g) := by
  have hch : D.change A C = (240, (C D.ticked).lose D.keep) := by unfold Dk.change; rw [if_pos hD]
  rw [hch]
  obtain ⟨⟨kv, hb, hr⟩, ok⟩ := h
  obtain ⟨c0, c1, c2, c3, c4, c5, c6, c7, c8, c9⟩ := dk_cells hb
  have hf := fun i => hb.frozen i
  have h1 : DiskAt (w.setCell ⟨g, 6, none⟩ (.int .i64 0)) g D.ticked := ⟨⟨kv, by have := hb.put 6 (.int .i64 0); unfold Dk.ticked; rw [hD]; exact this, hr.far hb (by decide) (only_put (only_refl _ _) _ _)⟩, ok.ticked⟩
  have h2 := hc _ (only_put (only_refl w g) _ _) h1
  rw [hD] at c6
  have H2 := Lib.hid h2
  have Hk := Lib.hid hk
  clear h2 hc hD hch hk h1
  go_enter Tryz.func46, Tryz.ntmps46
  go_wp2_with fail
  refine (H2.out).mono ?_
  rintro e w1 ⟨rfl, hd1, ho1⟩
  obtain ⟨⟨kv1, hb1, hr1⟩, ok1⟩ := hd1
  have hl := lose_any (w := w1) (g := g) (D := C D.ticked) ⟨⟨kv1, hb1, hr1⟩, ok1⟩ (hr1.ints hb1 (by decide)) ok1.keep
  obtain ⟨d0, d1, d2, d3, d4, d5, d6, d7, d8, d9⟩ := dk_cells hb1
  have Hl := Lib.hid hl
  clear hl c0 c1 c2 c3 c4 c5 c6 c7 c8 c9 hf
  go_wp2_with fail
  refine (Hl.out).mono ?_
  rintro e w2 ⟨rfl, hd2, ho2⟩
  rw [Hk.out] at hd2
  go_wp2_with fail
  go_ret
  exact ⟨rfl, hd2, only_trans (only_trans (only_put (only_refl _ _) _ _) ho1) ho2⟩

set_option maxHeartbeats 1600000 in
theorem change_zf (h : DiskAt w g D) {fa fc : Nat} {ca cc : Array Value} {A C : Dk → Dk} (hD : D.cut = 0) (hB : D.brk = 0) (hF : D.full = true) :
    Calls Tryz.prog 46 #[.pointer (some ⟨g, 0, none⟩), .func (.func fa) #[] ca, .func (.func fc) #[] cc] w fun e w' =>
      e = .returned (.int .u8 ((D.change A C).1 : Nat)) ∧ DiskAt w' g (D.change A C).2 ∧ w.grownBy w' (some g) := by
  have ht : D.ticked = D := by unfold Dk.ticked; rw [hD]; cases D; simp only at hD; subst hD; rfl
  have hbk : D.ticked.broken = D := by rw [ht]; unfold Dk.broken; rw [if_neg (by first | omega | (simp only; omega))]
  have hch : D.change A C = (241, D.ticked.broken) := by unfold Dk.change; rw [if_neg (by omega), if_pos (by rw [hbk]; exact hF)]
  rw [hch]
  have okt := h.ok.ticked.broken
  obtain ⟨⟨kv, hb, hr⟩, ok⟩ := h
  obtain ⟨c0, c1, c2, c3, c4, c5, c6, c7, c8, c9⟩ := dk_cells hb
  have hf := fun i => hb.frozen i
  have hog : w.grownBy w (some g) := only_refl w (some g)
  have hd : DiskAt w g D.ticked.broken := by
    refine ⟨⟨kv, ?_, ?_⟩, okt⟩
    · have hbb := hb
      rw [hbk]
      show Blk _ _ _ (dkCells _ kv)
      unfold dkCells at hbb ⊢
      exact hbb
    · rw [hbk]; exact hr.far hb (by decide) hog
  rw [hD] at c6
  rw [hB] at c8
  rw [hF] at c9
  have hbd := ok.cut
  have hbd2 := ok.brk
  unfold I64 at hbd hbd2
  have H := Lib.hid hd
  have Ho := Lib.hid hog
  clear hd hog hch hbk ht okt hD hB hF
  go_enter Tryz.func46, Tryz.ntmps46
  go_wp2_with fail
  go_ret
  exact ⟨rfl, H.out, Ho.out⟩

set_option maxHeartbeats 1600000 in
theorem change_zn (h : DiskAt w g D) {fa fc : Nat} {ca cc : Array Value} {A C : Dk → Dk} (hD : D.cut = 0) (hB : D.brk = 0) (hF : D.full = false)
    (hra : ∀ W, (callFunc fa ca).run Tryz.prog W = .ok (.enter fa ca) W)
    (ha : ∀ W, w.grownBy W (some g) → DiskAt W g D.ticked.broken → Calls Tryz.prog fa ca W fun e w' => e = .returned (.tuple #[]) ∧ DiskAt w' g (A D.ticked.broken) ∧ W.grownBy w' (some g)) :
    Calls Tryz.prog 46 #[.pointer (some ⟨g, 0, none⟩), .func (.func fa) #[] ca, .func (.func fc) #[] cc] w fun e w' =>
      e = .returned (.int .u8 ((D.change A C).1 : Nat)) ∧ DiskAt w' g (D.change A C).2 ∧ w.grownBy w' (some g) := by
  have ht : D.ticked = D := by unfold Dk.ticked; rw [hD]; cases D; simp only at hD; subst hD; rfl
  have hbk : D.ticked.broken = D := by rw [ht]; unfold Dk.broken; rw [if_neg (by first | omega | (simp only; omega))]
  have hch : D.change A C = (0, A D.ticked.broken) := by unfold Dk.change; rw [if_neg (by omega), if_neg (by rw [hbk]; rw [hF]; simp)]
  rw [hch]
  have okt := h.ok.ticked.broken
  obtain ⟨⟨kv, hb, hr⟩, ok⟩ := h
  obtain ⟨c0, c1, c2, c3, c4, c5, c6, c7, c8, c9⟩ := dk_cells hb
  have hf := fun i => hb.frozen i
  have hog : w.grownBy w (some g) := only_refl w (some g)
  have hd : DiskAt w g D.ticked.broken := by
    refine ⟨⟨kv, ?_, ?_⟩, okt⟩
    · have hbb := hb
      rw [hbk]
      show Blk _ _ _ (dkCells _ kv)
      unfold dkCells at hbb ⊢
      exact hbb
    · rw [hbk]; exact hr.far hb (by decide) hog
  rw [hD] at c6
  rw [hB] at c8
  rw [hF] at c9
  have hbd := ok.cut
  have hbd2 := ok.brk
  unfold I64 at hbd hbd2
  have H := Lib.hid (ha _ hog hd)
  have Ho := Lib.hid hog
  clear ha hd hog hch hbk ht okt hD hB hF
  go_enter Tryz.func46, Tryz.ntmps46
  go_wp2_with fail
  refine (H.out).mono ?_
  rintro e w1 ⟨rfl, hd1, ho1⟩
  go_wp2_with fail
  go_ret
  exact ⟨rfl, hd1, only_trans Ho.out ho1⟩

set_option maxHeartbeats 1600000 in
theorem change_z1 (h : DiskAt w g D) {fa fc : Nat} {ca cc : Array Value} {A C : Dk → Dk} (hD : D.cut = 0) (hB : D.brk = 1) :
    Calls Tryz.prog 46 #[.pointer (some ⟨g, 0, none⟩), .func (.func fa) #[] ca, .func (.func fc) #[] cc] w fun e w' =>
      e = .returned (.int .u8 ((D.change A C).1 : Nat)) ∧ DiskAt w' g (D.change A C).2 ∧ w.grownBy w' (some g) := by
  have ht : D.ticked = D := by unfold Dk.ticked; rw [hD]; cases D; simp only at hD; subst hD; rfl
  have hbk : D.ticked.broken = { D with brk := 0, full := true } := by rw [ht]; unfold Dk.broken; rw [if_pos (by first | omega | (simp only; omega))]; simp only [hB]; rfl
  have hch : D.change A C = (241, D.ticked.broken) := by unfold Dk.change; rw [if_neg (by omega), if_pos (by rw [hbk])]
  rw [hch]
  have okt := h.ok.ticked.broken
  obtain ⟨⟨kv, hb, hr⟩, ok⟩ := h
  obtain ⟨c0, c1, c2, c3, c4, c5, c6, c7, c8, c9⟩ := dk_cells hb
  have hf := fun i => hb.frozen i
  have hog : w.grownBy ((w.setCell ⟨g, 8, none⟩ (.int .i64 0)).setCell ⟨g, 9, none⟩ (.bool true)) (some g) := only_put (only_put (only_refl w (some g)) 8 (.int .i64 0)) 9 (.bool true)
  have hd : DiskAt ((w.setCell ⟨g, 8, none⟩ (.int .i64 0)).setCell ⟨g, 9, none⟩ (.bool true)) g D.ticked.broken := by
    refine ⟨⟨kv, ?_, ?_⟩, okt⟩
    · have hbb := ((hb).put 8 (.int .i64 0)).put 9 (.bool true)
      rw [hbk]
      show Blk _ _ _ (dkCells _ kv)
      unfold dkCells at hbb ⊢
      exact hbb
    · rw [hbk]; exact hr.far hb (by decide) hog
  rw [hD] at c6
  rw [hB] at c8
  have hbd := ok.cut
  have hbd2 := ok.brk
  unfold I64 at hbd hbd2
  have H := Lib.hid hd
  have Ho := Lib.hid hog
  clear hd hog hch hbk ht okt hD hB
  go_enter Tryz.func46, Tryz.ntmps46
  go_wp2_with fail
  go_ret
  exact ⟨rfl, H.out, Ho.out⟩

set_option maxHeartbeats 1600000 in
theorem change_zm (h : DiskAt w g D) {fa fc : Nat} {ca cc : Array Value} {A C : Dk → Dk} (hD : D.cut = 0) (hB : 2 ≤ D.brk)
    (hra : ∀ W, (callFunc fa ca).run Tryz.prog W = .ok (.enter fa ca) W)
    (ha : ∀ W, w.grownBy W (some g) → DiskAt W g D.ticked.broken → Calls Tryz.prog fa ca W fun e w' => e = .returned (.tuple #[]) ∧ DiskAt w' g (A D.ticked.broken) ∧ W.grownBy w' (some g)) :
    Calls Tryz.prog 46 #[.pointer (some ⟨g, 0, none⟩), .func (.func fa) #[] ca, .func (.func fc) #[] cc] w fun e w' =>
      e = .returned (.int .u8 ((D.change A C).1 : Nat)) ∧ DiskAt w' g (D.change A C).2 ∧ w.grownBy w' (some g) := by
  have ht : D.ticked = D := by unfold Dk.ticked; rw [hD]; cases D; simp only at hD; subst hD; rfl
  have hbk : D.ticked.broken = { D with brk := D.brk - 1, full := false } := by rw [ht]; unfold Dk.broken; rw [if_pos (by first | omega | (simp only; omega)), show (D.brk == 1) = false from by rw [beq_eq_false_iff_ne]; omega]
  have hch : D.change A C = (0, A D.ticked.broken) := by unfold Dk.change; rw [if_neg (by omega), if_neg (by rw [hbk]; simp)]
  rw [hch]
  have okt := h.ok.ticked.broken
  obtain ⟨⟨kv, hb, hr⟩, ok⟩ := h
  obtain ⟨c0, c1, c2, c3, c4, c5, c6, c7, c8, c9⟩ := dk_cells hb
  have hf := fun i => hb.frozen i
  have hog : w.grownBy ((w.setCell ⟨g, 8, none⟩ (.int .i64 ((D.brk : Int) - 1))).setCell ⟨g, 9, none⟩ (.bool false)) (some g) := only_put (only_put (only_refl w (some g)) 8 (.int .i64 ((D.brk : Int) - 1))) 9 (.bool false)
  have hd : DiskAt ((w.setCell ⟨g, 8, none⟩ (.int .i64 ((D.brk : Int) - 1))).setCell ⟨g, 9, none⟩ (.bool false)) g D.ticked.broken := by
    refine ⟨⟨kv, ?_, ?_⟩, okt⟩
    · have hbb := ((hb).put 8 (.int .i64 ((D.brk : Int) - 1))).put 9 (.bool false)
      rw [hbk]
      have e8 : ((D.brk - 1 : Nat) : Int) = (D.brk : Int) - 1 := by omega
      show Blk _ _ _ (dkCells _ kv)
      unfold dkCells at hbb ⊢
      simp only [e8]
      exact hbb
    · rw [hbk]; exact hr.far hb (by decide) hog
  rw [hD] at c6
  have hbd := ok.cut
  have hbd2 := ok.brk
  unfold I64 at hbd hbd2
  have H := Lib.hid (ha _ hog hd)
  have Ho := Lib.hid hog
  clear ha hd hog hch hbk ht okt hD
  go_enter Tryz.func46, Tryz.ntmps46
  go_wp2_with fail
  refine (H.out).mono ?_
  rintro e w1 ⟨rfl, hd1, ho1⟩
  go_wp2_with fail
  go_ret
  exact ⟨rfl, hd1, only_trans Ho.out ho1⟩

set_option maxHeartbeats 1600000 in
theorem change_mf (h : DiskAt w g D) {fa fc : Nat} {ca cc : Array Value} {A C : Dk → Dk} (hD : 2 ≤ D.cut) (hB : D.brk = 0) (hF : D.full = true) :
    Calls Tryz.prog 46 #[.pointer (some ⟨g, 0, none⟩), .func (.func fa) #[] ca, .func (.func fc) #[] cc] w fun e w' =>
      e = .returned (.int .u8 ((D.change A C).1 : Nat)) ∧ DiskAt w' g (D.change A C).2 ∧ w.grownBy w' (some g) := by
  have ht : D.ticked = { D with cut := D.cut - 1 } := rfl
  have hbk : D.ticked.broken = { D with cut := D.cut - 1 } := by rw [ht]; unfold Dk.broken; rw [if_neg (by first | omega | (simp only; omega))]
  have hch : D.change A C = (241, D.ticked.broken) := by unfold Dk.change; rw [if_neg (by omega), if_pos (by rw [hbk]; exact hF)]
  rw [hch]
  have okt := h.ok.ticked.broken
  obtain ⟨⟨kv, hb, hr⟩, ok⟩ := h
  obtain ⟨c0, c1, c2, c3, c4, c5, c6, c7, c8, c9⟩ := dk_cells hb
  have hf := fun i => hb.frozen i
  have hog : w.grownBy (w.setCell ⟨g, 6, none⟩ (.int .i64 ((D.cut : Int) - 1))) (some g) := only_put (only_refl w (some g)) 6 (.int .i64 ((D.cut : Int) - 1))
  have hd : DiskAt (w.setCell ⟨g, 6, none⟩ (.int .i64 ((D.cut : Int) - 1))) g D.ticked.broken := by
    refine ⟨⟨kv, ?_, ?_⟩, okt⟩
    · have hbb := (hb.put 6 (.int .i64 ((D.cut : Int) - 1)))
      rw [hbk]
      have e6 : ((D.cut - 1 : Nat) : Int) = (D.cut : Int) - 1 := by omega
      show Blk _ _ _ (dkCells _ kv)
      unfold dkCells at hbb ⊢
      simp only [e6]
      exact hbb
    · rw [hbk]; exact hr.far hb (by decide) hog
  rw [hB] at c8
  rw [hF] at c9
  have hbd := ok.cut
  have hbd2 := ok.brk
  unfold I64 at hbd hbd2
  have H := Lib.hid hd
  have Ho := Lib.hid hog
  clear hd hog hch hbk ht okt hB hF
  go_enter Tryz.func46, Tryz.ntmps46
  go_wp2_with fail
  go_ret
  exact ⟨rfl, H.out, Ho.out⟩

set_option maxHeartbeats 1600000 in
theorem change_mn (h : DiskAt w g D) {fa fc : Nat} {ca cc : Array Value} {A C : Dk → Dk} (hD : 2 ≤ D.cut) (hB : D.brk = 0) (hF : D.full = false)
    (hra : ∀ W, (callFunc fa ca).run Tryz.prog W = .ok (.enter fa ca) W)
    (ha : ∀ W, w.grownBy W (some g) → DiskAt W g D.ticked.broken → Calls Tryz.prog fa ca W fun e w' => e = .returned (.tuple #[]) ∧ DiskAt w' g (A D.ticked.broken) ∧ W.grownBy w' (some g)) :
    Calls Tryz.prog 46 #[.pointer (some ⟨g, 0, none⟩), .func (.func fa) #[] ca, .func (.func fc) #[] cc] w fun e w' =>
      e = .returned (.int .u8 ((D.change A C).1 : Nat)) ∧ DiskAt w' g (D.change A C).2 ∧ w.grownBy w' (some g) := by
  have ht : D.ticked = { D with cut := D.cut - 1 } := rfl
  have hbk : D.ticked.broken = { D with cut := D.cut - 1 } := by rw [ht]; unfold Dk.broken; rw [if_neg (by first | omega | (simp only; omega))]
  have hch : D.change A C = (0, A D.ticked.broken) := by unfold Dk.change; rw [if_neg (by omega), if_neg (by rw [hbk]; rw [hF]; simp)]
  rw [hch]
  have okt := h.ok.ticked.broken
  obtain ⟨⟨kv, hb, hr⟩, ok⟩ := h
  obtain ⟨c0, c1, c2, c3, c4, c5, c6, c7, c8, c9⟩ := dk_cells hb
  have hf := fun i => hb.frozen i
  have hog : w.grownBy (w.setCell ⟨g, 6, none⟩ (.int .i64 ((D.cut : Int) - 1))) (some g) := only_put (only_refl w (some g)) 6 (.int .i64 ((D.cut : Int) - 1))
  have hd : DiskAt (w.setCell ⟨g, 6, none⟩ (.int .i64 ((D.cut : Int) - 1))) g D.ticked.broken := by
    refine ⟨⟨kv, ?_, ?_⟩, okt⟩
    · have hbb := (hb.put 6 (.int .i64 ((D.cut : Int) - 1)))
      rw [hbk]
      have e6 : ((D.cut - 1 : Nat) : Int) = (D.cut : Int) - 1 := by omega
      show Blk _ _ _ (dkCells _ kv)
      unfold dkCells at hbb ⊢
      simp only [e6]
      exact hbb
    · rw [hbk]; exact hr.far hb (by decide) hog
  rw [hB] at c8
  rw [hF] at c9
  have hbd := ok.cut
  have hbd2 := ok.brk
  unfold I64 at hbd hbd2
  have H := Lib.hid (ha _ hog hd)
  have Ho := Lib.hid hog
  clear ha hd hog hch hbk ht okt hB hF
  go_enter Tryz.func46, Tryz.ntmps46
  go_wp2_with fail
  refine (H.out).mono ?_
  rintro e w1 ⟨rfl, hd1, ho1⟩
  go_wp2_with fail
  go_ret
  exact ⟨rfl, hd1, only_trans Ho.out ho1⟩

set_option maxHeartbeats 1600000 in
theorem change_m1 (h : DiskAt w g D) {fa fc : Nat} {ca cc : Array Value} {A C : Dk → Dk} (hD : 2 ≤ D.cut) (hB : D.brk = 1) :
    Calls Tryz.prog 46 #[.pointer (some ⟨g, 0, none⟩), .func (.func fa) #[] ca, .func (.func fc) #[] cc] w fun e w' =>
      e = .returned (.int .u8 ((D.change A C).1 : Nat)) ∧ DiskAt w' g (D.change A C).2 ∧ w.grownBy w' (some g) := by
  have ht : D.ticked = { D with cut := D.cut - 1 } := rfl
  have hbk : D.ticked.broken = { D with cut := D.cut - 1, brk := 0, full := true } := by rw [ht]; unfold Dk.broken; rw [if_pos (by first | omega | (simp only; omega))]; simp only [hB]; rfl
  have hch : D.change A C = (241, D.ticked.broken) := by unfold Dk.change; rw [if_neg (by omega), if_pos (by rw [hbk])]
  rw [hch]
  have okt := h.ok.ticked.broken
  obtain ⟨⟨kv, hb, hr⟩, ok⟩ := h
  obtain ⟨c0, c1, c2, c3, c4, c5, c6, c7, c8, c9⟩ := dk_cells hb
  have hf := fun i => hb.frozen i
  have hog : w.grownBy (((w.setCell ⟨g, 6, none⟩ (.int .i64 ((D.cut : Int) - 1))).setCell ⟨g, 8, none⟩ (.int .i64 0)).setCell ⟨g, 9, none⟩ (.bool true)) (some g) := only_put (only_put (only_put (only_refl w (some g)) 6 (.int .i64 ((D.cut : Int) - 1))) 8 (.int .i64 0)) 9 (.bool true)
  have hd : DiskAt (((w.setCell ⟨g, 6, none⟩ (.int .i64 ((D.cut : Int) - 1))).setCell ⟨g, 8, none⟩ (.int .i64 0)).setCell ⟨g, 9, none⟩ (.bool true)) g D.ticked.broken := by
    refine ⟨⟨kv, ?_, ?_⟩, okt⟩
    · have hbb := (((hb.put 6 (.int .i64 ((D.cut : Int) - 1)))).put 8 (.int .i64 0)).put 9 (.bool true)
      rw [hbk]
      have e6 : ((D.cut - 1 : Nat) : Int) = (D.cut : Int) - 1 := by omega
      show Blk _ _ _ (dkCells _ kv)
      unfold dkCells at hbb ⊢
      simp only [e6]
      exact hbb
    · rw [hbk]; exact hr.far hb (by decide) hog
  rw [hB] at c8
  have hbd := ok.cut
  have hbd2 := ok.brk
  unfold I64 at hbd hbd2
  have H := Lib.hid hd
  have Ho := Lib.hid hog
  clear hd hog hch hbk ht okt hB
  go_enter Tryz.func46, Tryz.ntmps46
  go_wp2_with fail
  go_ret
  exact ⟨rfl, H.out, Ho.out⟩

set_option maxHeartbeats 1600000 in
theorem change_mm (h : DiskAt w g D) {fa fc : Nat} {ca cc : Array Value} {A C : Dk → Dk} (hD : 2 ≤ D.cut) (hB : 2 ≤ D.brk)
    (hra : ∀ W, (callFunc fa ca).run Tryz.prog W = .ok (.enter fa ca) W)
    (ha : ∀ W, w.grownBy W (some g) → DiskAt W g D.ticked.broken → Calls Tryz.prog fa ca W fun e w' => e = .returned (.tuple #[]) ∧ DiskAt w' g (A D.ticked.broken) ∧ W.grownBy w' (some g)) :
    Calls Tryz.prog 46 #[.pointer (some ⟨g, 0, none⟩), .func (.func fa) #[] ca, .func (.func fc) #[] cc] w fun e w' =>
      e = .returned (.int .u8 ((D.change A C).1 : Nat)) ∧ DiskAt w' g (D.change A C).2 ∧ w.grownBy w' (some g) := by
  have ht : D.ticked = { D with cut := D.cut - 1 } := rfl
  have hbk : D.ticked.broken = { D with cut := D.cut - 1, brk := D.brk - 1, full := false } := by rw [ht]; unfold Dk.broken; rw [if_pos (by first | omega | (simp only; omega)), show (D.brk == 1) = false from by rw [beq_eq_false_iff_ne]; omega]
  have hch : D.change A C = (0, A D.ticked.broken) := by unfold Dk.change; rw [if_neg (by omega), if_neg (by rw [hbk]; simp)]
  rw [hch]
  have okt := h.ok.ticked.broken
  obtain ⟨⟨kv, hb, hr⟩, ok⟩ := h
  obtain ⟨c0, c1, c2, c3, c4, c5, c6, c7, c8, c9⟩ := dk_cells hb
  have hf := fun i => hb.frozen i
  have hog : w.grownBy (((w.setCell ⟨g, 6, none⟩ (.int .i64 ((D.cut : Int) - 1))).setCell ⟨g, 8, none⟩ (.int .i64 ((D.brk : Int) - 1))).setCell ⟨g, 9, none⟩ (.bool false)) (some g) := only_put (only_put (only_put (only_refl w (some g)) 6 (.int .i64 ((D.cut : Int) - 1))) 8 (.int .i64 ((D.brk : Int) - 1))) 9 (.bool false)
  have hd : DiskAt (((w.setCell ⟨g, 6, none⟩ (.int .i64 ((D.cut : Int) - 1))).setCell ⟨g, 8, none⟩ (.int .i64 ((D.brk : Int) - 1))).setCell ⟨g, 9, none⟩ (.bool false)) g D.ticked.broken := by
    refine ⟨⟨kv, ?_, ?_⟩, okt⟩
    · have hbb := (((hb.put 6 (.int .i64 ((D.cut : Int) - 1)))).put 8 (.int .i64 ((D.brk : Int) - 1))).put 9 (.bool false)
      rw [hbk]
      have e6 : ((D.cut - 1 : Nat) : Int) = (D.cut : Int) - 1 := by omega
      have e8 : ((D.brk - 1 : Nat) : Int) = (D.brk : Int) - 1 := by omega
      show Blk _ _ _ (dkCells _ kv)
      unfold dkCells at hbb ⊢
      simp only [e6, e8]
      exact hbb
    · rw [hbk]; exact hr.far hb (by decide) hog
  have hbd := ok.cut
  have hbd2 := ok.brk
  unfold I64 at hbd hbd2
  have H := Lib.hid (ha _ hog hd)
  have Ho := Lib.hid hog
  clear ha hd hog hch hbk ht okt
  go_enter Tryz.func46, Tryz.ntmps46
  go_wp2_with fail
  refine (H.out).mono ?_
  rintro e w1 ⟨rfl, hd1, ho1⟩
  go_wp2_with fail
  go_ret
  exact ⟨rfl, hd1, only_trans Ho.out ho1⟩

/-- All ways together. -/
theorem change_any (h : DiskAt w g D) {fa fc : Nat} {ca cc : Array Value} {A C : Dk → Dk}
    (hra : ∀ W, (callFunc fa ca).run Tryz.prog W = .ok (.enter fa ca) W) (hrc : ∀ W, (callFunc fc cc).run Tryz.prog W = .ok (.enter fc cc) W)
    (ha : ∀ W, w.grownBy W (some g) → DiskAt W g D.ticked.broken → Calls Tryz.prog fa ca W fun e w' => e = .returned (.tuple #[]) ∧ DiskAt w' g (A D.ticked.broken) ∧ W.grownBy w' (some g))
    (hc : ∀ W, w.grownBy W (some g) → DiskAt W g D.ticked → Calls Tryz.prog fc cc W fun e w' => e = .returned (.tuple #[]) ∧ DiskAt w' g (C D.ticked) ∧ W.grownBy w' (some g)) (hk : (C D.ticked).keep = D.keep) :
    Calls Tryz.prog 46 #[.pointer (some ⟨g, 0, none⟩), .func (.func fa) #[] ca, .func (.func fc) #[] cc] w fun e w' =>
      e = .returned (.int .u8 ((D.change A C).1 : Nat)) ∧ DiskAt w' g (D.change A C).2 ∧ w.grownBy w' (some g) := by
  by_cases h1 : D.cut = 1
  · exact change_cut h h1 hrc hc hk
  have hb : D.brk = 0 ∨ D.brk = 1 ∨ 2 ≤ D.brk := by omega
  by_cases h0 : D.cut = 0
  · rcases hb with hb | hb | hb
    · cases hF : D.full with
      | true => exact change_zf h h0 hb hF
      | false => exact change_zn h h0 hb hF hra ha
    · exact change_z1 h h0 hb
    · exact change_zm h h0 hb hra ha
  · have h2 : 2 ≤ D.cut := by omega
    rcases hb with hb | hb | hb
    · cases hF : D.full with
      | true => exact change_mf h h2 hb hF
      | false => exact change_mn h h2 hb hF hra ha
    · exact change_m1 h h2 hb
    · exact change_mm h h2 hb hra ha
end
end Go.Proofs.YtklcpckjmncdkaaGreatDoor
