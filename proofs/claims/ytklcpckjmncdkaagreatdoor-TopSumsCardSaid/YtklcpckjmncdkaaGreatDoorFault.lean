/- THE WALKS of fault.New, CodeOf, Wrap; of the journal's failed, and of the statements' code. -/
import Derived.Test.YtklcpckjmncdkaaGreatDoorAs
namespace Go.Proofs.YtklcpckjmncdkaaGreatDoor
set_option maxRecDepth 100000
open Go.RowKit

/-- The library's one variable that is laid. -/
def Hand (w : World) : Prop := w.cell? ⟨0, 0, none⟩ = some (.iface 181 (.agg #[.pointer (some ⟨3, 34, none⟩)]))
theorem Hand.lt {w : World} (h : Hand w) : 0 < w.heap.size := by
  rcases Nat.eq_zero_or_pos w.heap.size with h0 | h'
  · unfold Hand at h; simp [World.cell?, h0] at h
  · exact h'
theorem Hand.grown {w w' : World} {row : Option Nat} (h : Hand w) (hb : w.grownBy w' row) (hr : some 0 ≠ row) : Hand w' := by
  unfold Hand at h ⊢
  rw [← h]
  exact World.cell?_of_block (w := w) (a := ⟨0, 0, none⟩) (hb.block 0 (Hand.lt h) hr)
theorem Hand.alloc {w : World} (h : Hand w) (o : Obj) : Hand (w.alloc o) := h.grown (only_alloc (only_refl w none) o) (by simp)

/-- A fault. -/
def errV (p : Nat) : Value := .iface 153 (.pointer (some ⟨p, 0, none⟩))
structure Faulty (w : World) (p : Nat) (c : Nat) : Prop where
  at_ : ∃ wh cause, Blk w p 155 #[.int .u8 (c : Int), .string wh, cause]
theorem Faulty.grown {w w' : World} {p c : Nat} {row : Option Nat} (h : Faulty w p c) (hb : w.grownBy w' row) (hr : some p ≠ row) : Faulty w' p c := by
  obtain ⟨wh, ca, hk⟩ := h
  exact ⟨wh, ca, hk.grown hb hr⟩
/-- The error of a code; of 0 none. -/
def IsErr (w : World) (v : Value) (c : Nat) : Prop := (c = 0 ∧ v = .nilIface) ∨ (c ≠ 0 ∧ ∃ p, v = errV p ∧ Faulty w p c)
theorem IsErr.grown {w w' : World} {v : Value} {c : Nat} (h : IsErr w v c) (hb : w.grownBy w' none) : IsErr w' v c := by
  rcases h with h | ⟨h0, p, hv, hf⟩
  · exact .inl h
  · exact .inr ⟨h0, p, hv, hf.grown hb (by simp)⟩

section
variable {w : World}
set_option maxHeartbeats 800000 in
theorem fnew_any (c : Nat) (wh : ByteArray) : Calls Tryz.prog 72 #[.int .u8 (c : Int), .string wh] w fun e w' => ∃ p, e = .returned (errV p) ∧ w.heap.size ≤ p ∧ Faulty w' p c ∧ w.grownBy w' none := by
  go_enter Tryz.func72, Tryz.ntmps72
  go_wp2_with fail
  go_ret
  exact ⟨w.heap.size, rfl, Nat.le_refl _, ⟨_, _, Blk.new _ _ _⟩, only_alloc (only_refl _ _) _⟩
theorem codeOf_nil : Calls Tryz.prog 56 #[.nilIface] w fun e w' => e = .returned (.int .u8 0) ∧ w = w' := by
  go_enter Tryz.func56, Tryz.ntmps56
  go_wp2_with fail
  go_ret
  exact ⟨rfl, rfl⟩
set_option maxHeartbeats 1600000 in
theorem codeOf_err {p c : Nat} (hH : Hand w) (hf : Faulty w p c) : Calls Tryz.prog 56 #[errV p] w fun e w' => e = .returned (.int .u8 (c : Int)) ∧ w.grownBy w' none := by
  obtain ⟨wh, ca, hb⟩ := hf
  have hpl := hb.lt
  have hA := Lib.hid (as_hit ⟨p, 0, none⟩ ⟨w.heap.size, 0, none⟩ (.pointer none) (w.alloc (.cells #[.pointer none] 153)) (hH.alloc _) ((Blk.new w _ _).cell 0) ((Blk.new w _ _).frozen 0))
  unfold errV
  go_enter Tryz.func56, Tryz.ntmps56
  go_wp2_with fail
  refine hA.out.mono ?_
  rintro e w1 ⟨rfl, hw1⟩
  have hg1 : w.grownBy w1 none := by
    rw [hw1]
    exact only_new (only_alloc (only_alloc (only_alloc (only_alloc (only_alloc (only_refl _ _) _) _) _) _) _) (by simp) _
  have c1 : w1.cell? ⟨w.heap.size, 0, none⟩ = some (.pointer (some ⟨p, 0, none⟩)) := by
    rw [hw1]
    exact ((((((Blk.new w 153 #[.pointer none]).alloc _).alloc _).alloc _).alloc _).put 0 (.pointer (some ⟨p, 0, none⟩))).cell 0
  have hb1 := hb.grown hg1 (by simp)
  have c2 := hb1.cell 0
  clear hw1 hA
  go_wp2_with fail
  go_ret
  exact ⟨rfl, hg1⟩
set_option maxHeartbeats 800000 in
theorem wrap_err {p c : Nat} (wh : ByteArray) (hH : Hand w) (hf : Faulty w p c) : Calls Tryz.prog 71 #[.string wh, errV p] w fun e w' => ∃ q, e = .returned (errV q) ∧ w.heap.size ≤ q ∧ Faulty w' q c ∧ w.grownBy w' none := by
  have hc := Lib.hid (codeOf_err hH hf)
  unfold errV at *
  go_enter Tryz.func71, Tryz.ntmps71
  go_wp2_with fail
  refine hc.out.mono ?_
  rintro e w1 ⟨rfl, hg1⟩
  go_wp2_with fail
  go_ret
  exact ⟨w1.heap.size, rfl, hg1.size, ⟨_, _, Blk.new _ _ _⟩, only_trans hg1 (only_alloc (only_refl _ _) _)⟩
set_option maxHeartbeats 800000 in
theorem failed_ok (wh : ByteArray) : Calls Tryz.prog 35 #[.string wh, .int .u8 0] w fun e w' => e = .returned .nilIface ∧ w = w' := by
  go_enter Tryz.func35, Tryz.ntmps35
  go_wp2_with fail
  go_ret
  exact ⟨rfl, rfl⟩
set_option maxHeartbeats 800000 in
theorem failed_bad {c : Nat} (wh : ByteArray) (hH : Hand w) (hc : c ≠ 0) : Calls Tryz.prog 35 #[.string wh, .int .u8 (c : Int)] w fun e w' => ∃ q, e = .returned (errV q) ∧ w.heap.size ≤ q ∧ Faulty w' q c ∧ w.grownBy w' none := by
  have hn := Lib.hid (fnew_any (w := w) c wh)
  have hcb : ((c : Int) == 0) = false := by simp [hc]
  go_enter Tryz.func35, Tryz.ntmps35
  go_wp2_with fail
  refine hn.out.mono ?_
  rintro e w1 ⟨p, rfl, hp, hf1, hg1⟩
  have hw := Lib.hid (wrap_err ⟨#[106, 111, 117, 114, 110, 97, 108]⟩ (hH.grown hg1 (by simp)) hf1)
  unfold errV at *
  go_wp2_with fail
  refine hw.out.mono ?_
  rintro e w2 ⟨q, rfl, hq, hf2, hg2⟩
  go_wp2_with fail
  go_ret
  exact ⟨q, rfl, Nat.le_trans hg1.size hq, hf2, only_trans hg1 hg2⟩
/-- A code as an error. -/
theorem failed_any {c : Nat} (wh : ByteArray) (hH : Hand w) : Calls Tryz.prog 35 #[.string wh, .int .u8 (c : Int)] w fun e w' => ∃ v, e = .returned v ∧ IsErr w' v c ∧ w.grownBy w' none := by
  by_cases hc : c = 0
  · subst hc
    exact (failed_ok wh).mono fun e w' ⟨he, hw⟩ => ⟨_, he, .inl ⟨rfl, rfl⟩, hw ▸ only_refl _ _⟩
  · exact (failed_bad wh hH hc).mono fun e w' ⟨q, he, _, hf, hg⟩ => ⟨_, he, .inr ⟨hc, q, rfl, hf⟩, hg⟩
theorem codeOf_any {v : Value} {c : Nat} (hH : Hand w) (h : IsErr w v c) : Calls Tryz.prog 56 #[v] w fun e w' => e = .returned (.int .u8 (c : Int)) ∧ w.grownBy w' none := by
  rcases h with ⟨rfl, rfl⟩ | ⟨_, p, rfl, hf⟩
  · exact codeOf_nil.mono fun e w' ⟨he, hw⟩ => ⟨he, hw ▸ only_refl _ _⟩
  · exact codeOf_err hH hf
theorem code_any {v : Value} {c : Nat} (hH : Hand w) (h : IsErr w v c) (hc : c < 256) : Calls Tryz.prog 23 #[v] w fun e w' => e = .returned (.int .i64 (c : Int)) ∧ w.grownBy w' none := by
  have hC := Lib.hid (codeOf_any hH h)
  have hw : IntKind.i64.wrap (c : Int) = (c : Int) := IntWalk.i64_in _ (by omega)
  go_enter Tryz.func23, Tryz.ntmps23
  go_wp2_with fail
  refine hC.out.mono ?_
  rintro e w1 ⟨rfl, hg⟩
  go_wp2_with fail
  go_ret
  exact ⟨rfl, hg⟩
end
end Go.Proofs.YtklcpckjmncdkaaGreatDoor
