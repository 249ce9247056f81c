/- THE WALKS of varint.Get and packet.Get at a PUBACK. -/
import Derived.Test.YtcepfhnlbnlnhaaGreatDoorReads4
import Derived.Deep.DeepCutAuto
namespace Go.Proofs.YtcepfhnlbnlnhaaGreatDoor
set_option maxRecDepth 100000
open Go.RowKit

def ackS : ByteArray := ⟨#[64, 2, 0, 7]⟩
section
variable {w : World}
theorem and_two (w : World) : (binOp BinOp.and 3 (.int .i64 2) (.int .i64 127)).run Tryz.prog w = .ok (.int .i64 2) w := by kernel_rfl
theorem shl_two (w : World) : (binOp BinOp.shl 3 (.int .i64 2) (.int .i64 0)).run Tryz.prog w = .ok (.int .i64 2) w := by kernel_rfl
theorem or_two (w : World) : (binOp BinOp.or 3 (.int .i64 0) (.int .i64 2)).run Tryz.prog w = .ok (.int .i64 2) w := by kernel_rfl
set_option maxHeartbeats 1600000 in
theorem vget_two : Calls Tryz.prog 67 #[.string ⟨#[64, 2, 0, 7]⟩, .int .i64 1] w fun e w' => e = .returned (.tuple #[.int .i64 2, .int .i64 2, .int .u8 0]) ∧ w' = w := by
  have hy : wrap64 ((((⟨#[64, 2, 0, 7]⟩ : ByteArray)[1]'(by decide)).toNat : Nat) : Int) = 2 := by kernel_rfl
  have hz : bits BinOp.or IntKind.i64 0 (wrap64 (bits BinOp.and IntKind.i64 2 127)) = 2 := by kernel_rfl
  go_enter Tryz.func67, Tryz.ntmps67
  go_wp2_with fail
  refine wp_loop_rounds 1 ?_
  rw [rounds_succ]
  go_upto_region 11 with fail
  try rw [hz]
  try rw [hy]
  go_wp2_with (go_at_call 66; refine vsize_two.mono ?_; rintro e w' ⟨rfl, rfl⟩)
  go_ret3
  exact ⟨rfl, rfl⟩
theorem noFault (w : World) : (Instr.typeAssert .nilIface 20 122 true).run Tryz.prog w = .ok (.tuple #[.int .u8 0, .bool false]) w := by kernel_rfl
theorem catch_idle (p c : Addr) : CallsD Tryz.prog 68 #[.pointer (some p), .pointer (some c)] .returning w fun e u' w' => e = .returned (.tuple #[]) ∧ u' = .returning ∧ w' = w := by
  refine callsD_of_wpS Tryz.func68 rfl fun c₀ cs hu => ?_
  have hN := noFault
  apply wpS_seq
  apply wpS_region
  simp [wpOpsS, go_sem, recoverD, hu, Tryz.ntmps68, Exit.thenS, hN]
  apply wpS_seq
  apply wpS_region
  simp [wpOpsS, go_sem, Exit.thenS]
  refine wpS_cond (t := false) (by simp [Act.eval]) ?_
  simp only [Bool.false_eq_true, if_false]
  refine wpS_of_wp (wp_skip ?_)
  cases c₀
  simp_all [bodyPostS, results, Tryz.results68]
end
end Go.Proofs.YtcepfhnlbnlnhaaGreatDoor
