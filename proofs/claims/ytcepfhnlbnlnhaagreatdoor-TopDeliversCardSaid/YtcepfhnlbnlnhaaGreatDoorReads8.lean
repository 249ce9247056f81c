/- THE WALK of the stream's New and Feed at a PUBACK. -/
import Derived.Test.YtcepfhnlbnlnhaaGreatDoorReads7
import Derived.Deep.RegionHeld3
namespace Go.Proofs.YtcepfhnlbnlnhaaGreatDoor
set_option maxRecDepth 100000
open Go.RowKit

theorem Tryz.infoPack : (Tryz.prog.info? 56).map (fun i => (i.zero, i.size, i.bytes)) = some (some (.agg (ackZ 0 0)), 26, 328) := by kernel_rfl
theorem only_weak {a w : World} (h : a.grownBy w none) (g : Nat) : a.grownBy w (some g) := ⟨h.os, h.tape, h.output, h.size, fun i hi _ => h.block i hi (by simp)⟩
theorem row_news {W : World} {g : Nat} {t : TypeId} {cs : Array Value} (h : Blk W g t cs) (j : Nat) (u : Value) (hj : cs.toList[j]? = some u) : W.cell? ((⟨g, 0, none⟩ : Addr).add j) = some u := by
  have hc := h.cell j
  have hj' : cs[j]? = some u := by simpa using hj
  have ha : (⟨g, 0, none⟩ : Addr).add j = ⟨g, j, none⟩ := by
    simp [Addr.add]
    exact fun h => h.symm
  rw [ha, hc, hj']
theorem one_mem {cs : Array Value} (h : cs.all (·.oneCell') = true) (u : Value) (hu : u ∈ cs.toList) : u.oneCell' = true := by
  rw [Array.all_eq_true'] at h
  exact h u (by simpa using hu)
section
variable {w : World}
theorem snew_any (n : Int) : Calls Tryz.prog 28 #[.int .i64 n] w fun e w' => e = .returned (.pointer (some ⟨w.heap.size, 0, none⟩)) ∧ Blk w' w.heap.size 109 #[.int .i64 n, .string ⟨#[]⟩, .int .u8 0] ∧ w.grownBy w' none := by
  go_enter Tryz.func28, Tryz.ntmps28
  go_wp2_with fail
  go_ret
  exact ⟨rfl, Blk.new _ _ _, only_alloc (only_refl w none) _⟩
set_option maxHeartbeats 3200000 in
theorem feed_ack {rg : Nat} (hr : Blk w rg 109 #[.int .i64 100, .string ⟨#[]⟩, .int .u8 0]) : Calls Tryz.prog 29 #[.pointer (some ⟨rg, 0, none⟩), .string ⟨#[64, 2, 0, 7]⟩] w fun e w' => ∃ g cap, e = .returned (.tuple #[.slice (some ⟨g, 0, none⟩) 1 cap, .int .u8 0]) ∧ w'.cell? ⟨g, 4, none⟩ = some (.int .i64 7) ∧ w.grownBy w' (some rg) := by
  have hn := @World.ownsRow_nil
  have hadd : (⟨#[]⟩ : ByteArray) ++ ⟨#[64, 2, 0, 7]⟩ = ⟨#[64, 2, 0, 7]⟩ := by decide
  have r0 := hr.cell 0
  have r1 := hr.cell 1
  have r2 := hr.cell 2
  have hrl := hr.lt
  obtain ⟨ip, hip, hq0, hq1, hq2⟩ := info_parts Tryz.infoPack
  go_enter Tryz.func29, Tryz.ntmps29
  go_wp2_with fail
  go_region_held3 (fun w' => w'.cell? ⟨rg, 0, none⟩ = some (.int .i64 100) ∧ w'.cell? ⟨rg, 1, none⟩ = some (.string ⟨#[]⟩)) (first | go_keep | assumption | exact ⟨by assumption, by assumption⟩)
    (first
      | (go_at_call 48; (try rw [hadd]); refine split_ack.mono ?_; rintro e w3 ⟨sg, scap, rfl, hsc, hsg⟩; have k0 : w3.cell? ⟨rg, 0, none⟩ = some (.int .i64 100) := hsg.cell r0 (by simp); have k1 : w3.cell? ⟨rg, 1, none⟩ = some (.string ⟨#[]⟩) := hsg.cell r1 (by simp)))
  go_wp2_with fail
  refine wp_loop_rounds 2 ?_
  rw [rounds_succ]
  have hone7 := Lib.hid (ack_one 4 7)
  go_wp2_with fail
  refine get_ack.mono ?_
  rintro e w4 ⟨rfl, hk4⟩
  have hA := Blk.new w4 56 (ackZ 0 0)
  have hB := hA.rowed (ackZ 4 7)
  have hS5 : ((w4.alloc (.cells (ackZ 0 0) 56)).setRow w4.heap.size (ackZ 4 7)).heap.size = w4.heap.size + 1 := by simp [World.setRow]
  have hN := Blk.new ((w4.alloc (.cells (ackZ 0 0) 56)).setRow w4.heap.size (ackZ 4 7)) 56 (ackZ 4 7)
  rw [hS5] at hN
  have hS6 : (((w4.alloc (.cells (ackZ 0 0) 56)).setRow w4.heap.size (ackZ 4 7)).alloc (.cells (ackZ 4 7) 56)).heap.size = w4.heap.size + 2 := by rw [show ∀ (W : World) o, (W.alloc o).heap.size = W.heap.size + 1 from fun _ _ => by simp, hS5]
  have hg6 : w4.grownBy (((w4.alloc (.cells (ackZ 0 0) 56)).setRow w4.heap.size (ackZ 4 7)).alloc (.cells (ackZ 4 7) 56)) none := only_alloc (only_row (only_alloc (only_refl w4 none) _) (Nat.le_refl _) _) _
  have HN := Lib.hid (row_news hN)
  have HO := Lib.hid (one_mem (ack_one 4 7))
  go_wp2_with (first
    | (refine wpList_load_row (by rfl) 56 _ (by rfl) w4.heap.size (by rfl) 56 _ (0, 0) _ hB Tryz.underlying56 (by rfl) (by kernel_rfl) ?_)
    | (refine wpList_store_row (by rfl) 56 _ _ (by rfl) w4.heap.size (ackZ 4 7) (by rfl) (by rfl) 56 _ hA (by kernel_rfl) (by rfl) hone7.out ?_)
    | (at_builtin; refine wpList_append_lies _ (by rfl) (.tmp 56) (.tmp 58) 30 (by rfl) (w4.heap.size + 2) 56 ip _ 26 328 Tryz.underlying30 hip hq0 hq1 hq2 (by rfl) (by decide) (.slice none 0 0) 0 [] (by rfl) (hn _ _ _ _) ⟨w4.heap.size + 1, 0, none⟩ 1 1 (ackZ 4 7).toList (by rfl) (by rfl) HN.out HO.out (by omega) (by unfold maxLen; omega) (by omega) (Nat.le_of_eq hS6.symm) (w4.heap.size + 2) hS6 ?_; intro g1 cap w7 hown1 hg1 hat1 hlt1))
  have hc7 := World.ownsRow.cells hown1 (g := g1) rfl 4 _ rfl
  have hg7 : w.grownBy w7 none := only_trans (only_trans (only_trans (only_trans (only_drew (only_refl w none)) hsg) hk4) hg6) hg1
  have hr7 := hr.grown hg7 (by simp)
  have d1 := hr7.cell 1
  have e1 := hr7.frozen 1
  have d2 := hr7.cell 2
  have e2 := hr7.frozen 2
  have hlt7 := hg7.size
  have hg1e : rg ≠ g1 := by
    have := hsg.size; have := hk4.size; have := hg1.size
    have hh : g1 = w4.heap.size + 2 := by
      rcases hat1 with h | h
      · exact absurd h (by simp [Value.ownBlock])
      · exact h
    have : w.drew.heap.size = w.heap.size := rfl
    omega
  have hgP := only_put (only_put (only_weak hg7 rg) 1 (.string ⟨#[]⟩)) 2 (.int .u8 0)
  clear hown1 hN HN HO hA hB hg6 hS5 hS6 hk4 hsg hsc k0 k1 r0 r1 r2 hadd hn
  rw [rounds_succ]
  go_wp2_with fail
  go_ret2
  refine ⟨g1, cap, rfl, ?_, hgP⟩
  exact (World.cell?_setCell_far _ _ _ _ hg1e).trans ((World.cell?_setCell_far _ _ _ _ hg1e).trans hc7)
end
end Go.Proofs.YtcepfhnlbnlnhaaGreatDoor
