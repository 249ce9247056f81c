/- THE WALK of Put at a PUBACK. -/
import Derived.Test.YtcepfhnlbnlnhaaGreatDoorReads
namespace Go.Proofs.YtcepfhnlbnlnhaaGreatDoor
set_option maxRecDepth 100000
open Go.RowKit

theorem grown_lk {a b c : World} {pb : Nat} (h : a.grownBy b none) (k : Lk none pb b c) (hp : a.heap.size ≤ pb) : a.grownBy c none :=
  ⟨k.os.trans h.os, k.tape.trans h.tape, k.output.trans h.output, Nat.le_trans h.size k.size, fun i hi _ =>
    (k.block i _ ((h.block i hi (by simp)).trans (Array.getElem?_eq_getElem hi)) (by simp) (by omega) (.inl (by omega))).trans (Array.getElem?_eq_getElem hi).symm⟩
section
variable {w : World}
set_option maxHeartbeats 800000 in
theorem flags_four : Calls Tryz.prog 39 #[.int .i64 4] w fun e w' => e = .returned (.int .i64 0) ∧ w = w' := by
  go_enter Tryz.func39, Tryz.ntmps39
  go_wp2_with fail
  go_ret
  exact ⟨rfl, rfl⟩
set_option maxHeartbeats 800000 in
theorem vsize_two : Calls Tryz.prog 66 #[.int .i64 2] w fun e w' => e = .returned (.int .i64 1) ∧ w = w' := by
  go_enter Tryz.func66, Tryz.ntmps66
  go_wp2_with fail
  go_ret
  exact ⟨rfl, rfl⟩
set_option maxHeartbeats 1600000 in
theorem vput_two : Calls Tryz.prog 46 #[.int .i64 2] w fun e w' => e = .returned (.tuple #[.string ⟨#[2]⟩, .int .u8 0]) ∧ w.grownBy w' none := by
  obtain ⟨i0, hi0, hz0, hz1, hz2⟩ := info_parts Tryz.infoU8
  have hn := @World.ownsRow_nil
  go_enter Tryz.func46, Tryz.ntmps46
  go_wp2_with (go_at_call 66; refine vsize_two.mono ?_; rintro e w' ⟨rfl, rfl⟩)
  refine wp_loop_rounds 2 ?_
  rw [rounds_succ]
  go_wp2_with (at_builtin; refine wpList_append_lies _ rfl _ _ 36 rfl w.heap.size 5 i0 _ 1 1 Tryz.underlying36 hi0 hz0 hz1 hz2 rfl (by decide) _ _ _ rfl (hn _ _ _ _) ⟨w.heap.size, 0, none⟩ 1 1 [.int .u8 2] rfl rfl (one_cell _ _ _) (by intro u hu; simp at hu; subst hu; rfl) (by omega) (by unfold maxLen; omega) (by omega) (by simp) (w.heap.size + 1) (by simp) ?_; intro g cap w1 hown1 hg1 hat1 hlt1)
  rw [rounds_succ]
  have hg1' : w.grownBy w1 none := only_trans (only_alloc (only_refl w none) _) (show (w.alloc (.cells #[.int .u8 2] 5)).grownBy w1 none from hg1)
  have hB : BRow w1 w.heap.size (.slice (some ⟨g, 0, none⟩) 1 cap) [2] := hown1
  have hconv := run_convert_bytes_back (P := Tryz.prog) w1 36 9 5 ⟨g, 0, none⟩ cap [2] Tryz.underlying36 Tryz.underlying5 Tryz.underlying9 (BRow.cellsAt hB)
  have hconv' : (convert 36 9 (.slice (some ⟨g, 0, none⟩) 1 cap)).run Tryz.prog w1 = .ok (.string ⟨#[2]⟩) w1 := hconv
  clear hconv hB hown1
  go_wp2_with fail
  go_ret2
  exact ⟨rfl, hg1'⟩
set_option maxHeartbeats 3200000 in
theorem put_ack : Calls Tryz.prog 27 #[.agg (ackV 4 7)] w fun e w' => e = .returned (.tuple #[.string ⟨#[64, 2, 0, 7]⟩, .int .u8 0]) ∧ w.grownBy w' none := by
  have hX : Blk (w.alloc (.cells (ackV 4 7) 56)) w.heap.size 56 (ackV 4 7) := Blk.new _ _ _
  have hX2 := hX.alloc (.cells #[.pointer none, .slice none 0 0, .int .u8 0] 100)
  have hW : WrAt ((w.alloc (.cells (ackV 4 7) 56)).alloc (.cells #[.pointer none, .slice none 0 0, .int .u8 0] 100)) (w.heap.size + 1) [] 0 := by
    refine ⟨.pointer none, .slice none 0 0, .inl rfl, ?_, World.ownsRow_nil _ _ _ _⟩
    have h := Blk.new (w.alloc (.cells (ackV 4 7) 56)) 100 #[.pointer none, .slice none 0 0, .int .u8 ((0 : Nat) : Int)]
    rw [show (w.alloc (.cells (ackV 4 7) 56)).heap.size = w.heap.size + 1 by simp] at h
    exact h
  have hB := Lib.hid (wbody_ack hW 7 (by omega) (by omega) (by simp))
  have hk0 : Lk none (w.heap.size + 1) (w.alloc (.cells (ackV 4 7) 56)) ((w.alloc (.cells (ackV 4 7) 56)).alloc (.cells #[.pointer none, .slice none 0 0, .int .u8 0] 100)) := (Lk.refl _ _ _).allocR _
  have HFx := Lib.hid (fun W => fixed_any 1 64 (.inl rfl) (by decide) W)
  have hbe1 : be 1 64 = [64] := by decide
  have hbe2 : be 2 7 = [0, 7] := by decide
  rw [hbe1] at HFx
  rw [hbe2, List.nil_append] at hB
  unfold ackV at *
  go_enter Tryz.func27, Tryz.ntmps27
  go_wp2_with (first
    | (go_at_call 39; refine flags_four.mono ?_; rintro e w' ⟨rfl, rfl⟩)
    | (refine wpList_load_row (by rfl) 56 _ (by rfl) w.heap.size (by rfl) 56 _ (0, 0) _ hX2 Tryz.underlying56 (by rfl) (by kernel_rfl) ?_))
  refine hB.out.mono ?_
  rintro e w1 ⟨rfl, h1, hk1⟩
  have hX3 := hk1.blk hX2 (by simp) (by omega) (by decide)
  have c2 := h1.cells
  have x0 := hX3.cell 0
  have hg1 : w.grownBy w1 none := grown_lk (only_alloc (only_refl w none) _) (hk0.trans hk1) (by omega)
  clear hX hX2 hW hk0
  go_wp2_with (go_at_call 44; refine (wlen_any h1).mono ?_; rintro e w' ⟨rfl, rfl⟩)
  refine (HFx.out _).mono ?_
  rintro e w2 ⟨rfl, hb2⟩
  have hg2 := grown_below hb2 (Nat.le_refl _)
  have h2 := h1.grown hg2
  go_wp2_with (go_at_call 44; refine (wlen_any h2).mono ?_; rintro e w' ⟨rfl, rfl⟩)
  refine vput_two.mono ?_
  rintro e w3 ⟨rfl, hg3⟩
  have h3 := h2.grown hg3
  go_wp2_with fail
  refine (wstring_any h3 (by simp)).mono ?_
  rintro e w4 ⟨rfl, hk4⟩
  go_wp2_with fail
  go_ret2
  refine ⟨rfl, ?_⟩
  have hg13 := only_trans (only_trans hg1 hg2) hg3
  exact grown_lk hg13 hk4 (by omega)
end
end Go.Proofs.YtcepfhnlbnlnhaaGreatDoor
