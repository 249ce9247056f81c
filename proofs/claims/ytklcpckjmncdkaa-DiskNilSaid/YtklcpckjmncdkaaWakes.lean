/- THE WALK of wakes: what the document fixes. -/
import Derived.Test.YtklcpckjmncdkaaActs
namespace Go.Proofs.Ytklcpckjmncdkaa
open Go.RowKit
attribute [local go_sem ↓] Go.wp_at_zero Go.wp_at_succ

def wk0 : Dk := Dk.new 100
def wk1 : Dk := (wk0.append 0 ⟨#[97, 98]⟩).2
def wk2 : Dk := (wk1.doSync 0).2
def wk3 : Dk := (wk2.append 0 ⟨#[99, 100, 101]⟩).2
def wk4 : Dk := wk3.crash [2]
theorem wk_a1 : (wk0.append 0 ⟨#[97, 98]⟩).1 = 0 := by decide +kernel
theorem wk_a2 : (wk1.doSync 0).1 = 0 := by decide +kernel
theorem wk_a3 : (wk2.append 0 ⟨#[99, 100, 101]⟩).1 = 0 := by decide +kernel
theorem wk_r : wk4.read 0 = (⟨#[97, 98, 99, 100]⟩, 0) := by decide +kernel
theorem wk_l : wk4.lasts 0 = 4 := by decide +kernel
theorem wk_o : wk4.off = false := by decide +kernel

theorem wk_ap1 {w : World} {g : Nat} (h : DiskAt w g wk0) : Calls Try.prog 23 #[.pointer (some ⟨g, 0, none⟩), .int .i64 0, .string ⟨#[97, 98]⟩] w fun e w' => e = .returned (.int .u8 0) ∧ DiskAt w' g wk1 ∧ w.grownBy w' (some g) :=
  (append_any h 0 ⟨#[97, 98]⟩ (by decide)).mono fun e w' ⟨he, hd, hg⟩ => ⟨by rw [he, wk_a1]; rfl, hd, hg⟩
theorem wk_sy {w : World} {g : Nat} (h : DiskAt w g wk1) : Calls Try.prog 27 #[.pointer (some ⟨g, 0, none⟩), .int .i64 0] w fun e w' => e = .returned (.int .u8 0) ∧ DiskAt w' g wk2 ∧ w.grownBy w' (some g) :=
  (sync_any h 0).mono fun e w' ⟨he, hd, hg⟩ => ⟨by rw [he, wk_a2]; rfl, hd, hg⟩
theorem wk_ap2 {w : World} {g : Nat} (h : DiskAt w g wk2) : Calls Try.prog 23 #[.pointer (some ⟨g, 0, none⟩), .int .i64 0, .string ⟨#[99, 100, 101]⟩] w fun e w' => e = .returned (.int .u8 0) ∧ DiskAt w' g wk3 ∧ w.grownBy w' (some g) :=
  (append_any h 0 ⟨#[99, 100, 101]⟩ (by decide)).mono fun e w' ⟨he, hd, hg⟩ => ⟨by rw [he, wk_a3]; rfl, hd, hg⟩
theorem wk_rd {w : World} {g : Nat} (h : DiskAt w g wk4) : Calls Try.prog 19 #[.pointer (some ⟨g, 0, none⟩), .int .i64 0] w fun e w' => e = .returned (.tuple #[.string ⟨#[97, 98, 99, 100]⟩, .int .u8 0]) ∧ w = w' :=
  (read_any h 0).mono fun e w' ⟨he, hw⟩ => ⟨by rw [he, wk_r]; rfl, hw⟩
theorem wk_la {w : World} {g : Nat} (h : DiskAt w g wk4) : Calls Try.prog 20 #[.pointer (some ⟨g, 0, none⟩), .int .i64 0] w fun e w' => e = .returned (.int .i64 4) ∧ w = w' :=
  (lasts_any h 0).mono fun e w' ⟨he, hw⟩ => ⟨by rw [he, wk_l]; rfl, hw⟩
theorem wk_of {w : World} {g : Nat} (h : DiskAt w g wk4) : Calls Try.prog 22 #[.pointer (some ⟨g, 0, none⟩)] w fun e w' => e = .returned (.bool false) ∧ w = w' :=
  (off_any h).mono fun e w' ⟨he, hw⟩ => ⟨by rw [he, wk_o], hw⟩
theorem wk_two {w : World} {g : Nat} (h : DiskAt w g wk3) : Ints (w.alloc (.cells #[.int .i64 2] 3)) g (.slice (some ⟨w.heap.size, 0, none⟩) 1 1) [2] := by
  refine ⟨_, _, rfl, fun j hj => ⟨w.heap.size, 0, rfl, by have := h.lt; omega, ?_⟩⟩
  obtain rfl : j = 0 := by simp at hj; omega
  exact (Blk.new w 3 #[.int .i64 2]).cell 0
set_option maxHeartbeats 1600000 in
theorem wakes_any (w : World) : Calls Try.prog 16 #[] w fun e w' => e = .returned (.bool true) ∧ w.grownBy w' none := by
  go_enter Try.func16, Try.ntmps16
  go_wp2_with fail
  refine (new_any 100 _).mono ?_
  rintro e w1 ⟨g, rfl, hgs, hd0, hg0⟩
  go_wp2_with fail
  refine (wk_ap1 hd0).mono ?_
  rintro e w2 ⟨rfl, hd1, hg1⟩
  go_wp2_with fail
  refine (wk_sy hd1).mono ?_
  rintro e w3 ⟨rfl, hd2, hg2⟩
  go_wp2_with fail
  refine (wk_ap2 hd2).mono ?_
  rintro e w4 ⟨rfl, hd3, hg3⟩
  go_wp2_with fail
  refine (crash_any (hd3.grown (only_alloc (only_refl _ _) _)) (wk_two hd3) (by intro k hk; simp at hk; subst hk; unfold I64; omega)).mono ?_
  rintro e w5 ⟨rfl, hd4, hg4⟩
  have hd4 : DiskAt w5 g wk4 := hd4
  go_wp2_with fail
  refine (wk_rd hd4).mono ?_
  rintro e w' ⟨rfl, rfl⟩
  go_wp2_with fail
  refine (wk_la hd4).mono ?_
  rintro e w' ⟨rfl, rfl⟩
  go_wp2_with fail
  refine (wk_of hd4).mono ?_
  rintro e w' ⟨rfl, rfl⟩
  go_wp2_with fail
  go_ret
  refine ⟨rfl, ?_⟩
  have hr : ∀ k, some g = some k → w.heap.size ≤ k := fun k hk => by injection hk with hk; omega
  have b0 : Below w.heap.size w w1 := (Below.refl _ _).grown hg0 (Nat.le_refl _) (by simp)
  have b1 := b0.grown hg1 b0.size hr
  have b2 := b1.grown hg2 b1.size hr
  have b3 := b2.grown hg3 b2.size hr
  have b4 := (b3.alloc b3.size _).grown hg4 (b3.alloc b3.size _).size hr
  exact only_below b4 none
end Go.Proofs.Ytklcpckjmncdkaa
