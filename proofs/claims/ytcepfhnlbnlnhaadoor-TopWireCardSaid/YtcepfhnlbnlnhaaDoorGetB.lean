/- THE WALK of the packet's reader's sub. -/
import Derived.Test.YtcepfhnlbnlnhaaDoorGetA
namespace Go.Proofs.YtcepfhnlbnlnhaaDoor
set_option maxRecDepth 100000
open Go.RowKit

section
variable {w : World} {rb : Nat} {s : ByteArray}
set_option maxHeartbeats 1600000 in
/-- One subscription. -/
theorem rsub_gen (a q : Nat) (hq : q ≤ 2) (t : ByteArray) (hs : s.size ≤ 1000000000) (ha : a + 2 + numAt s a 2 + 1 ≤ s.size) (ht : s.extract (a + 2) (a + 2 + numAt s a 2) = t) (hok : tbad t 0 = none) (hqs : numAt s (a + 2 + numAt s a 2) 1 = q) (hT : U8 w) (hb : Rd w rb s a) :
    Calls Tryd.prog 67 #[.pointer (some ⟨rb, 0, none⟩)] w fun e w' => e = .returned (.agg (subZ t q)) ∧ Rd w' rb s (a + 2 + numAt s a 2 + 1) ∧ w.grownBy w' (some rb) := by
  have HTx := Lib.hid (fun (W : World) (hT : U8 W) (hb : Rd W rb s a) => rtext_gen a hs (by omega) (by rw [ht]; exact hok) hT hb)
  rw [ht] at HTx
  have HN := Lib.hid (fun (W : World) (hb : Rd W rb s (a + 2 + numAt s a 2)) => rnumber_gen 1 (.inl rfl) (a + 2 + numAt s a 2) hs (by omega) hb)
  rw [hqs] at HN
  generalize (a + 2 + numAt s a 2 : Nat) = n at *
  have hb0 : Rd (w.alloc (.cells (subZ ⟨#[]⟩ 0) 47)) rb s a := Blk.alloc hb _
  have hT0 := hT.kept (only_alloc (only_refl w none) (.cells (subZ ⟨#[]⟩ 0) 47))
  have HR := Lib.hid (HTx.out _ hT0 hb0)
  unfold subZ at HR
  go_enter Tryd.func67, Tryd.ntmps67
  go_wp2_with fail
  refine HR.out.mono ?_
  rintro e w1 ⟨rfl, h1, hk1⟩
  go_wp2_with fail
  have hX1 := Blk.new w1 47 (subZ t 0)
  have hR1 := (Blk.grown (w := w) hb (only_alloc (only_refl w none) (.cells (subZ ⟨#[]⟩ 0) 47)) (by simp)).lt
  have hrl : rb < w.heap.size := Blk.lt hb
  have hws := hk1.size
  rw [show (w.alloc (.cells #[.string ⟨#[]⟩, .int .i64 0, .bool false, .bool false, .int .i64 0] 47)).heap.size = w.heap.size + 1 by simp] at hws
  have HN2 := Lib.hid (HN.out _ (Blk.alloc h1 (.cells (subZ t 0) 47)))
  have hP := (Blk.new w 47 (subZ ⟨#[]⟩ 0)).grown hk1 (by simp; omega)
  have hP1 := hP.alloc (.cells (subZ t 0) 47)
  unfold subZ at HN2
  refine HN2.out.mono ?_
  rintro e w2 ⟨rfl, h2, hk2⟩
  have hX2 := hX1.grown hk2 (by simp; omega)
  have hP2 := hP1.grown hk2 (by simp; omega)
  have hA1 : bits .and .i64 (q : Int) 3 = (q : Int) := by
    have : q = 0 ∨ q = 1 ∨ q = 2 := by omega
    rcases this with rfl | rfl | rfl <;> decide
  have hA2 : bits .and .i64 (q : Int) 4 = 0 := by
    have : q = 0 ∨ q = 1 ∨ q = 2 := by omega
    rcases this with rfl | rfl | rfl <;> decide
  have hA3 : bits .and .i64 (q : Int) 8 = 0 := by
    have : q = 0 ∨ q = 1 ∨ q = 2 := by omega
    rcases this with rfl | rfl | rfl <;> decide
  have hA4 : (q : Int) / 16 = 0 := by omega
  have hA5 : bits .and .i64 0 3 = 0 := by decide
  have x1 : w2.cell? ⟨w1.heap.size, 1, none⟩ = some (.int .i64 0) := hX2.cell 1
  have x2 : w2.cell? ⟨w1.heap.size, 2, none⟩ = some (.bool false) := hX2.cell 2
  have x3 : w2.cell? ⟨w1.heap.size, 3, none⟩ = some (.bool false) := hX2.cell 3
  have x4 : w2.cell? ⟨w1.heap.size, 4, none⟩ = some (.int .i64 0) := hX2.cell 4
  have f1 := hX2.frozen 1
  have f2 := hX2.frozen 2
  have f3 := hX2.frozen 3
  have f4 := hX2.frozen 4
  go_upto_region 4 with fail
  have hX4 : Blk ((((w2.setCell ⟨w1.heap.size, 1, none⟩ (.int .i64 (q : Int))).setCell ⟨w1.heap.size, 2, none⟩ (.bool false)).setCell ⟨w1.heap.size, 3, none⟩ (.bool false)).setCell ⟨w1.heap.size, 4, none⟩ (.int .i64 0)) w1.heap.size 47 (subZ t q) := (((hX2.put 1 (.int .i64 (q : Int))).put 2 (.bool false)).put 3 (.bool false)).put 4 (.int .i64 0)
  have hne : w.heap.size ≠ w1.heap.size := by omega
  have hP4 := (((hP2.far (p := ⟨w1.heap.size, 1, none⟩) hne (.int .i64 (q : Int))).far (p := ⟨w1.heap.size, 2, none⟩) hne (.bool false)).far (p := ⟨w1.heap.size, 3, none⟩) hne (.bool false)).far (p := ⟨w1.heap.size, 4, none⟩) hne (.int .i64 0)
  have hnr : rb ≠ w1.heap.size := by omega
  have hR4 := (((Blk.far h2 (p := ⟨w1.heap.size, 1, none⟩) hnr (.int .i64 (q : Int))).far (p := ⟨w1.heap.size, 2, none⟩) hnr (.bool false)).far (p := ⟨w1.heap.size, 3, none⟩) hnr (.bool false)).far (p := ⟨w1.heap.size, 4, none⟩) hnr (.int .i64 0)
  have hg2 : w.grownBy w2 (some rb) := only_trans (only_trans (only_weak (only_alloc (only_refl w none) _) rb) hk1) (only_trans (only_weak (only_alloc (only_refl w1 none) _) rb) hk2)
  have hg4 := only_new (only_new (only_new (only_new hg2 (p := ⟨w1.heap.size, 1, none⟩) (by simp; omega) (.int .i64 (q : Int))) (p := ⟨w1.heap.size, 2, none⟩) (by simp; omega) (.bool false)) (p := ⟨w1.heap.size, 3, none⟩) (by simp; omega) (.bool false)) (p := ⟨w1.heap.size, 4, none⟩) (by simp; omega) (.int .i64 0)
  generalize ((((w2.setCell ⟨w1.heap.size, 1, none⟩ (.int .i64 (q : Int))).setCell ⟨w1.heap.size, 2, none⟩ (.bool false)).setCell ⟨w1.heap.size, 3, none⟩ (.bool false)).setCell ⟨w1.heap.size, 4, none⟩ (.int .i64 0)) = W4 at *
  have z1 : W4.cell? ⟨w1.heap.size, 1, none⟩ = some (.int .i64 (q : Int)) := hX4.cell 1
  have z4 : W4.cell? ⟨w1.heap.size, 4, none⟩ = some (.int .i64 0) := hX4.cell 4
  have hq3 : decide ((q : Int) < 3) = true := by simp; omega
  have hq4 : (q : Int) < 3 := by omega
  have hq64 : (q : Int) < 64 := by omega
  have hone : (subZ t q).all (·.oneCell') = true := by simp [subZ, Value.oneCell']
  have HO := Lib.hid hone
  have HX5 := Lib.hid (hP4.rowed (subZ t q))
  have HR5 := Lib.hid (hR4.rowFar (g := w.heap.size) (by omega) (subZ t q))
  have HG5 := Lib.hid (only_row hg4 (g := w.heap.size) (Nat.le_refl _) (subZ t q))
  unfold subZ at hP4
  clear x1 x2 x3 x4 f1 f2 f3 f4 hone
  go_wp2_with (first
    | (go_at_call 33; refine must_true.mono ?_; rintro e w' ⟨rfl, rfl⟩)
    | (refine wpList_load_row (by rfl) 47 _ (by rfl) w1.heap.size (by rfl) 47 _ (0, 0) _ hX4 Tryd.underlying47 (by rfl) (by kernel_rfl) ?_)
    | (refine wpList_store_row (by rfl) 47 _ _ (by rfl) w.heap.size (subZ t q) (by rfl) (by rfl) 47 _ hP4 (by kernel_rfl) (by rfl) HO.out ?_))
  refine bodyPost_ret (v := .agg (subZ t q)) ?_ rfl ?_
  · exact results_cell_row (p := 2) Tryd.results67 _ _ w.heap.size 47 (subZ t q) (0, 0) _ rfl HX5.out Tryd.underlying47 rfl (by kernel_rfl)
  · exact ⟨rfl, HR5.out, HG5.out⟩
end
end Go.Proofs.YtcepfhnlbnlnhaaDoor
