/- THE WALK of DiskNil: of a nil disk nothing is there. -/
import Derived.Test.YtklcpckjmncdkaaScript
import Derived.Test.YtklcpckjmncdkaaWakes
namespace Go.Proofs.Ytklcpckjmncdkaa
open Go.RowKit
attribute [local go_sem ↓] Go.wp_at_zero Go.wp_at_succ

theorem find_nil (n : Int) (w : World) : Calls Try.prog 41 #[.pointer none, .int .i64 n] w fun e w' => e = .returned (.tuple #[.pointer none, .int .u8 128]) ∧ w = w' := by
  go_enter Try.func41, Try.ntmps41
  go_wp2_with fail
  go_ret2
  exact ⟨rfl, rfl⟩
theorem read_nil (n : Int) (w : World) : Calls Try.prog 19 #[.pointer none, .int .i64 n] w fun e w' => e = .returned (.tuple #[.string ⟨#[]⟩, .int .u8 128]) ∧ w = w' := by
  have hf := Lib.hid (fun w => find_nil n w)
  go_enter Try.func19, Try.ntmps19
  go_wp2_with fail
  refine (hf.out _).mono ?_
  rintro e w' ⟨rfl, rfl⟩
  go_wp2_with fail
  go_ret2
  exact ⟨rfl, rfl⟩
theorem append_nil (n : Int) (s : ByteArray) (w : World) : Calls Try.prog 23 #[.pointer none, .int .i64 n, .string s] w fun e w' => e = .returned (.int .u8 128) ∧ w.grownBy w' none := by
  have hf := Lib.hid (fun w => find_nil n w)
  go_enter Try.func23, Try.ntmps23
  go_wp2_with fail
  refine (hf.out _).mono ?_
  rintro e w' ⟨rfl, rfl⟩
  go_wp2_with fail
  go_ret
  refine ⟨rfl, ?_⟩
  exact only_alloc (only_alloc (only_refl _ _) _) _
theorem sync_nil (n : Int) (w : World) : Calls Try.prog 27 #[.pointer none, .int .i64 n] w fun e w' => e = .returned (.int .u8 128) ∧ w.grownBy w' none := by
  have hf := Lib.hid (fun w => find_nil n w)
  go_enter Try.func27, Try.ntmps27
  go_wp2_with fail
  refine (hf.out _).mono ?_
  rintro e w' ⟨rfl, rfl⟩
  go_wp2_with fail
  go_ret
  refine ⟨rfl, ?_⟩
  exact only_alloc (only_refl _ _) _
theorem clear_nil (n : Int) (w : World) : Calls Try.prog 28 #[.pointer none, .int .i64 n] w fun e w' => e = .returned (.int .u8 128) ∧ w.grownBy w' none := by
  have hf := Lib.hid (fun w => find_nil n w)
  go_enter Try.func28, Try.ntmps28
  go_wp2_with fail
  refine (hf.out _).mono ?_
  rintro e w' ⟨rfl, rfl⟩
  go_wp2_with fail
  go_ret
  refine ⟨rfl, ?_⟩
  exact only_alloc (only_refl _ _) _
theorem lasts_nil (n : Int) (w : World) : Calls Try.prog 20 #[.pointer none, .int .i64 n] w fun e w' => e = .returned (.int .i64 0) ∧ w = w' := by
  go_enter Try.func20, Try.ntmps20
  go_wp2_with fail
  go_ret
  exact ⟨rfl, rfl⟩
theorem off_nil (w : World) : Calls Try.prog 22 #[.pointer none] w fun e w' => e = .returned (.bool false) ∧ w = w' := by
  go_enter Try.func22, Try.ntmps22
  go_wp2_with fail
  go_ret
  exact ⟨rfl, rfl⟩
theorem cut_nil (n : Int) (v : Value) (w : World) : Calls Try.prog 24 #[.pointer none, .int .i64 n, v] w fun e w' => e = .returned (.tuple #[]) ∧ w = w' := by
  go_enter Try.func24, Try.ntmps24
  go_wp2_with fail
  go_end0
  exact ⟨rfl, rfl⟩
theorem break_nil (n : Int) (w : World) : Calls Try.prog 25 #[.pointer none, .int .i64 n] w fun e w' => e = .returned (.tuple #[]) ∧ w = w' := by
  go_enter Try.func25, Try.ntmps25
  go_wp2_with fail
  go_end0
  exact ⟨rfl, rfl⟩
theorem crash_nil (v : Value) (w : World) : Calls Try.prog 21 #[.pointer none, v] w fun e w' => e = .returned (.tuple #[]) ∧ w = w' := by
  go_enter Try.func21, Try.ntmps21
  go_wp2_with fail
  refine bodyPost_ret (results_none rfl _ _ _) rfl ?_
  exact ⟨rfl, rfl⟩
theorem on_nil (w : World) : Calls Try.prog 26 #[.pointer none] w fun e w' => e = .returned (.tuple #[]) ∧ w = w' := by
  go_enter Try.func26, Try.ntmps26
  go_wp2_with fail
  go_end0
  exact ⟨rfl, rfl⟩
set_option maxRecDepth 100000 in
set_option maxHeartbeats 3200000 in
theorem nil_law (w : World) (d f n : Int) (s : ByteArray) (kA : Option Addr) (kl kc : Nat) :
    Calls Try.prog 7 #[.agg #[.int .i64 d, .int .i64 f, .int .i64 n, .string s, .slice kA kl kc]] w fun e w' => e = .returned (.bool true) ∧ Below w.heap.size w w' := by
  have c1 := Lib.hid (fun w => read_nil f w)
  have c2 := Lib.hid (fun w => cut_nil n (.slice kA kl kc) w)
  have c3 := Lib.hid (fun w => break_nil n w)
  have c4 := Lib.hid (fun w => crash_nil (.slice kA kl kc) w)
  have c5 := Lib.hid (fun w => on_nil w)
  have c6 := Lib.hid (fun w => append_nil f s w)
  have c7 := Lib.hid (fun w => sync_nil f w)
  have c8 := Lib.hid (fun w => clear_nil f w)
  have c9 := Lib.hid (fun w => lasts_nil f w)
  have c10 := Lib.hid (fun w => off_nil w)
  have hbk := Blk.new w 42 #[.int .i64 d, .int .i64 f, .int .i64 n, .string s, .slice kA kl kc]
  go_enter Try.func7, Try.ntmps7
  go_wp2_with fail
  refine (c1.out _).mono ?_
  rintro e w' ⟨rfl, rfl⟩
  go_wp2_with fail
  refine (c2.out _).mono ?_
  rintro e w' ⟨rfl, rfl⟩
  go_wp2_with fail
  refine (c3.out _).mono ?_
  rintro e w' ⟨rfl, rfl⟩
  go_wp2_with fail
  refine (c4.out _).mono ?_
  rintro e w' ⟨rfl, rfl⟩
  go_wp2_with fail
  refine (c5.out _).mono ?_
  rintro e w' ⟨rfl, rfl⟩
  go_wp2_with fail
  refine (wakes_any _).mono ?_
  rintro e w1 ⟨rfl, hg1⟩
  have hb1 := hbk.grown hg1 (by simp)
  have d1 := hb1.cell 1
  have d3 := hb1.cell 3
  go_wp2_with fail
  refine (c6.out _).mono ?_
  rintro e w2 ⟨rfl, hg2⟩
  have hb2 := hb1.grown hg2 (by simp)
  have e1 := hb2.cell 1
  clear d1 d3
  go_wp2_with fail
  refine (c7.out _).mono ?_
  rintro e w3 ⟨rfl, hg3⟩
  have hb3 := hb2.grown hg3 (by simp)
  have f1 := hb3.cell 1
  clear e1
  go_wp2_with fail
  refine (c8.out _).mono ?_
  rintro e w4 ⟨rfl, hg4⟩
  have hb4 := hb3.grown hg4 (by simp)
  have g1 := hb4.cell 1
  clear f1
  go_wp2_with fail
  refine (c9.out _).mono ?_
  rintro e w' ⟨rfl, rfl⟩
  go_wp2_with fail
  refine (c10.out _).mono ?_
  rintro e w' ⟨rfl, rfl⟩
  go_wp2_with fail
  go_ret
  have b0 : Below w.heap.size w (w.alloc (.cells #[.int .i64 d, .int .i64 f, .int .i64 n, .string s, .slice kA kl kc] 42)) := (Below.refl _ w).alloc (Nat.le_refl _) _
  have b1 := b0.grown hg1 b0.size (by simp)
  have b2 := b1.grown hg2 b1.size (by simp)
  have b3 := b2.grown hg3 b2.size (by simp)
  exact ⟨rfl, b3.grown hg4 b3.size (by simp)⟩
end Go.Proofs.Ytklcpckjmncdkaa
