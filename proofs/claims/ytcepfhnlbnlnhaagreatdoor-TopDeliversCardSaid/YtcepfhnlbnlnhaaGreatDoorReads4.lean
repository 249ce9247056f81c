/- THE WALKS of the packet's head, varint.Get and Get at a PUBACK. -/
import Derived.Test.YtcepfhnlbnlnhaaGreatDoorReads3
import Derived.Defers
import Derived.Recover
import Derived.Laws.Pointers
namespace Go.Proofs.YtcepfhnlbnlnhaaGreatDoor
set_option maxRecDepth 100000
open Go.RowKit

theorem Blk.rowed {w : World} {g : Nat} {t : TypeId} {old : Array Value} (h : Blk w g t old) (cs : Array Value) : Blk (w.setRow g cs) g t cs := setRow_heap w g old cs t (0, 0) h
theorem Blk.rowFar {w : World} {g k : Nat} {t : TypeId} {c : Array Value} (h : Blk w k t c) (hk : k ≠ g) (cs : Array Value) : Blk (w.setRow g cs) k t c := (setRow_other w g k cs hk).trans h
theorem only_row {a w : World} {g : Nat} {row : Option Nat} (h : a.grownBy w row) (hg : a.heap.size ≤ g) (cs : Array Value) : a.grownBy (w.setRow g cs) row :=
  ⟨h.os, h.tape, h.output, by simpa using h.size, fun i hi hne => (setRow_other w g i cs (by omega)).trans (h.block i hi hne)⟩
theorem only_rowOwn {a w : World} {g : Nat} (h : a.grownBy w (some g)) (cs : Array Value) : a.grownBy (w.setRow g cs) (some g) :=
  ⟨h.os, h.tape, h.output, by simpa using h.size, fun i hi hne => (setRow_other w g i cs (fun e => hne (by rw [e]))).trans (h.block i hi hne)⟩
/-- The same, over whole numbers: what a walk writes. -/
def ackZ (k n : Int) : Array Value :=
  #[.int .i64 k, .bool false, .bool false, .int .i64 0, .int .i64 n, .string ⟨#[]⟩, .string ⟨#[]⟩, .int .u8 0, .slice none 0 0, .slice none 0 0, .string ⟨#[]⟩, .bool false, .int .i64 0, .bool false, .string ⟨#[]⟩, .string ⟨#[]⟩, .int .i64 0,
    .bool false, .slice none 0 0, .bool false, .bool false, .string ⟨#[]⟩, .string ⟨#[]⟩, .bool false, .slice none 0 0, .slice none 0 0]
theorem ackZ_four : ackZ 4 0 = ackV 4 0 := rfl
theorem ack_one (k n : Int) : (ackZ k n).all (·.oneCell') = true := by simp [ackZ, Value.oneCell']
theorem Tryz.infoPacket : (Tryz.prog.info? 56).map (·.size) = some 26 := by kernel_rfl
section
variable {w : World}
set_option maxHeartbeats 1600000 in
theorem head_ack : Calls Tryz.prog 69 #[.int .i64 64] w fun e w' => e = .returned (.agg (ackZ 4 0)) ∧ w.grownBy w' none := by
  have hR1 := (Blk.new w 56 (ackZ 0 0)).alloc (.cells (ackZ 0 0) 56)
  have hP1 : Blk ((w.alloc (.cells (ackZ 0 0) 56)).alloc (.cells (ackZ 0 0) 56)) (w.heap.size + 1) 56 (ackZ 0 0) := by
    have h := Blk.new (w.alloc (.cells (ackZ 0 0) 56)) 56 (ackZ 0 0)
    rw [show (w.alloc (.cells (ackZ 0 0) 56)).heap.size = w.heap.size + 1 by simp] at h
    exact h
  have hg1 : w.grownBy ((w.alloc (.cells (ackZ 0 0) 56)).alloc (.cells (ackZ 0 0) 56)) none := only_alloc (only_alloc (only_refl w none) _) _
  have hP2 := hP1.rowed (ackZ 4 0)
  have hR2 := hR1.rowFar (g := w.heap.size + 1) (by omega) (ackZ 4 0)
  have hg2 := only_row hg1 (g := w.heap.size + 1) (by omega) (ackZ 4 0)
  have c0 : (((w.alloc (.cells (ackZ 0 0) 56)).alloc (.cells (ackZ 0 0) 56)).setRow (w.heap.size + 1) (ackZ 4 0)).cell? ⟨w.heap.size + 1, 0, none⟩ = some (.int .i64 4) := hP2.cell 0
  have hQ := hR2.rowed (ackZ 4 0)
  have hF := only_row hg2 (Nat.le_refl _) (ackZ 4 0)
  have HQ := Lib.hid hQ
  have HF := Lib.hid hF
  have hone4 := Lib.hid (ack_one 4 0)
  clear hQ hF hg2 hg1
  unfold ackZ at hR1 hP1 hP2 hR2 c0
  go_enter Tryz.func69, Tryz.ntmps69
  go_wp2_with (first
    | (go_at_call 70; refine must_true.mono ?_; rintro e w' ⟨rfl, rfl⟩)
    | (go_at_call 39; refine flags_four.mono ?_; rintro e w' ⟨rfl, rfl⟩)
    | (refine wpList_load_row (by rfl) 56 _ (by rfl) (w.heap.size + 1) (by rfl) 56 _ (0, 0) _ hP2 Tryz.underlying56 (by rfl) (by kernel_rfl) ?_)
    | (refine wpList_store_row (by rfl) 56 _ _ (by rfl) (w.heap.size + 1) (ackZ 4 0) (by rfl) (by rfl) 56 _ hP1 (by kernel_rfl) (by rfl) hone4.out ?_; unfold ackZ)
    | (refine wpList_store_row (by rfl) 56 _ _ (by rfl) w.heap.size (ackZ 4 0) (by rfl) (by rfl) 56 _ hR2 (by kernel_rfl) (by rfl) hone4.out ?_; unfold ackZ))
  refine bodyPost_ret (v := .agg (ackZ 4 0)) ?_ rfl ?_
  · exact results_cell_row (p := 2) Tryz.results69 _ _ w.heap.size 56 (ackZ 4 0) (0, 0) _ rfl HQ.out Tryz.underlying56 rfl (by kernel_rfl)
  · exact ⟨rfl, HF.out⟩
end
end Go.Proofs.YtcepfhnlbnlnhaaGreatDoor
