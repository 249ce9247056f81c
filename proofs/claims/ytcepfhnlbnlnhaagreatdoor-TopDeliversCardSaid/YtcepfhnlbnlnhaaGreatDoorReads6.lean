/- THE WALK of packet.Get at a PUBACK. -/
import Derived.Test.YtcepfhnlbnlnhaaGreatDoorReads5
namespace Go.Proofs.YtcepfhnlbnlnhaaGreatDoor
set_option maxRecDepth 100000
open Go.RowKit

section
variable {w : World}
set_option maxHeartbeats 3200000 in
theorem get_ack : Calls Tryz.prog 49 #[.string ⟨#[64, 2, 0, 7]⟩] w fun e w' => e = .returned (.tuple #[.agg (ackZ 4 7), .int .u8 0]) ∧ w.grownBy w' none := by
  have hmf : ∀ (fn : Fn) (first cap : Array Value) (w : World), (Instr.makeFunc fn first cap).run Tryz.prog w = .ok (.func fn first cap) w := fun _ _ _ _ => rfl
  have hy : wrap64 ((((⟨#[64, 2, 0, 7]⟩ : ByteArray)[0]'(by decide)).toNat : Nat) : Int) = 64 := by kernel_rfl
  have hone4 := Lib.hid (ack_one 4 0)
  have hone7 := Lib.hid (ack_one 4 7)
  have hR0 := (Blk.new w 56 (ackZ 0 0)).alloc (.cells #[.int .u8 0] 33)
  have hC0 : Blk ((w.alloc (.cells (ackZ 0 0) 56)).alloc (.cells #[.int .u8 0] 33)) (w.heap.size + 1) 33 #[.int .u8 0] := by
    have h := Blk.new (w.alloc (.cells (ackZ 0 0) 56)) 33 #[.int .u8 0]
    rw [show (w.alloc (.cells (ackZ 0 0) 56)).heap.size = w.heap.size + 1 by simp] at h
    exact h
  have hg0 : w.grownBy ((w.alloc (.cells (ackZ 0 0) 56)).alloc (.cells #[.int .u8 0] 33)) none := only_alloc (only_alloc (only_refl w none) _) _
  have HR0 := Lib.hid hR0
  have HC0 := Lib.hid hC0
  have HG0 := Lib.hid hg0
  have HH := Lib.hid (fun W => head_ack (w := W))
  clear hR0 hC0 hg0
  unfold ackZ at HR0 HC0 HG0
  go_enter_defers Tryz.func49, Tryz.ntmps49
  go_wp2_with fail
  refine (HH.out _).mono ?_
  rintro e w1 ⟨rfl, hk1⟩
  have hR1 := HR0.out.grown hk1 (by simp)
  have hC1 := HC0.out.grown hk1 (by simp)
  have hg1 := only_trans HG0.out hk1
  clear HR0 HC0 HG0 HH hk1
  unfold ackZ
  go_wp2_with (refine wpList_store_row (by rfl) 56 _ _ (by rfl) w.heap.size (ackZ 4 0) (by rfl) (by rfl) 56 _ hR1 (by kernel_rfl) (by rfl) hone4.out ?_)
  refine vget_two.mono ?_
  rintro e w2 ⟨rfl, hw2⟩
  have hR2 : Blk w2 w.heap.size 56 (ackZ 4 0) := hw2 ▸ hR1.rowed _
  have hC2 : Blk w2 (w.heap.size + 1) 33 #[.int .u8 0] := hw2 ▸ hC1.rowFar (by omega) _
  have hg2 : w.grownBy w2 none := hw2 ▸ only_row hg1 (Nat.le_refl _) _
  clear hw2 hR1 hC1 hg1
  have hx : (⟨#[64, 2, 0, 7]⟩ : ByteArray).extract 2 4 = ⟨#[0, 7]⟩ := by decide
  have c0 := hC2.cell 0
  have f0 := hC2.frozen 0
  have hR3 := (hR2.far (p := ⟨w.heap.size + 1, 0, none⟩) (by simp) (.int .u8 0)).alloc (.cells #[.string ⟨#[0, 7]⟩, .int .i64 0] 128)
  have hB3 : Blk ((w2.setCell ⟨w.heap.size + 1, 0, none⟩ (.int .u8 0)).alloc (.cells #[.string ⟨#[0, 7]⟩, .int .i64 0] 128)) w2.heap.size 128 #[.string ⟨#[0, 7]⟩, .int .i64 0] := by
    have h := Blk.new (w2.setCell ⟨w.heap.size + 1, 0, none⟩ (.int .u8 0)) 128 #[.string ⟨#[0, 7]⟩, .int .i64 0]
    rw [show (w2.setCell ⟨w.heap.size + 1, 0, none⟩ (.int .u8 0)).heap.size = w2.heap.size by simp [World.setCell]] at h
    exact h
  have hC3 := (hC2.put 0 (.int .u8 0)).alloc (.cells #[.string ⟨#[0, 7]⟩, .int .i64 0] 128)
  have hg3 : w.grownBy ((w2.setCell ⟨w.heap.size + 1, 0, none⟩ (.int .u8 0)).alloc (.cells #[.string ⟨#[0, 7]⟩, .int .i64 0] 128)) none := only_alloc (only_new hg2 (p := ⟨w.heap.size + 1, 0, none⟩) (by simp) _) _
  have hws := hg2.size
  have hcl := hC2.lt
  have HBd := Lib.hid (rbody_ack hB3 hR3)
  have HC3 := Lib.hid hC3
  have HG3 := Lib.hid hg3
  clear hR3 hB3 hC3 hg3
  go_wp2_with (go_at_call 70; refine must_true.mono ?_; rintro e w' ⟨rfl, rfl⟩)
  refine HBd.out.mono ?_
  rintro e w4 ⟨rfl, hR4, hdu⟩
  have hC4 : Blk w4 (w.heap.size + 1) 33 #[.int .u8 0] := (hdu.block _ HC3.out.lt (by omega) (by omega)).trans HC3.out
  have hg4 := grown_duo HG3.out hdu (by omega) (Nat.le_refl _)
  have hR4' : Blk w4 w.heap.size 56 (ackZ 4 7) := hR4
  have hR5 := hR4'.rowed (ackZ 4 7)
  have hC5 := hC4.rowFar (g := w.heap.size) (by omega) (ackZ 4 7)
  have hg5 := only_row hg4 (Nat.le_refl _) (ackZ 4 7)
  have e0 := hC5.cell 0
  have e1 := hC5.frozen 0
  have HR6 := Lib.hid (hR5.far (p := ⟨w.heap.size + 1, 0, none⟩) (by simp) (.int .u8 0))
  have HC6 := Lib.hid (hC5.put 0 (.int .u8 0))
  have HG6 := Lib.hid (only_new hg5 (p := ⟨w.heap.size + 1, 0, none⟩) (by simp) (.int .u8 0))
  clear hR4 hR5 hg5 hg4 hC5 hC4
  unfold ackZ at hR4'
  go_wp2_with (first
    | (refine wpList_load_row (by rfl) 56 _ (by rfl) w.heap.size (by rfl) 56 _ (0, 0) _ hR4' Tryz.underlying56 (by rfl) (by kernel_rfl) ?_)
    | (refine wpList_store_row (by rfl) 56 _ _ (by rfl) w.heap.size (ackZ 4 7) (by rfl) (by rfl) 56 _ hR4' (by kernel_rfl) (by rfl) hone7.out ?_))
  refine leaves_cons (f := 68) (args := #[.pointer (some ⟨w.heap.size, 0, none⟩), .pointer (some ⟨w.heap.size + 1, 0, none⟩)]) (by simp) (by simp [go_sem]) ?_
  refine (catch_idle ⟨w.heap.size, 0, none⟩ ⟨w.heap.size + 1, 0, none⟩).mono ?_
  rintro e u' w6 ⟨rfl, rfl, hw6⟩
  have hR6 : Blk w6 w.heap.size 56 (ackZ 4 7) := hw6 ▸ HR6.out
  have hC6 : Blk w6 (w.heap.size + 1) 33 #[.int .u8 0] := hw6 ▸ HC6.out
  have hg6 : w.grownBy w6 none := hw6 ▸ HG6.out
  clear hw6 HR6 HC6 HG6 hR4' hdu hmf e0 e1
  have hld : (loadVar 56 ⟨w.heap.size, 0, none⟩).run Tryz.prog w6 = .ok (.agg (ackZ 4 7)) w6 := run_loadVar_row w6 _ _ _ _ (0, 0) _ hR6 Tryz.underlying56 rfl (by kernel_rfl)
  have hcd : w6.cell? ⟨w.heap.size + 1, 0, none⟩ = some (.int .u8 0) := hC6.cell 0
  have hld2 : (loadVar 33 ⟨w.heap.size + 1, 0, none⟩).run Tryz.prog w6 = .ok (.int .u8 0) w6 := by
    simp [loadVar, isAgg, underlying, Tryz.underlying33, hcd, Result.andThen]
  clear hcd
  have HL := hld
  have HL2 := hld2
  generalize ackZ 4 7 = V at *
  simp [Leaves, settle, results, Tryz.results49, asAddr, hld, hld2, Sem.run_bind, Result.andThen]
  exact hg6
end
end Go.Proofs.YtcepfhnlbnlnhaaGreatDoor
