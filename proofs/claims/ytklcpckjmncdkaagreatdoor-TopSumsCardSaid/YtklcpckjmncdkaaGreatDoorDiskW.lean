/- THE WALKS of the program's disk: each method does to the disk in memory what the plain mathematics says. -/
import Derived.Test.YtklcpckjmncdkaaGreatDoorDiskAt
import Derived.BigQuiet
import Derived.Deep.QuietTactic
import Derived.BigRegion
import Derived.ChangeAlike
import Derived.StillTailTactics
import Derived.Deep.RegionHeld3
import Derived.Deep.DrawnRows
namespace Go.Proofs.YtklcpckjmncdkaaGreatDoor
set_option maxRecDepth 100000
open Go.RowKit

attribute [local go_sem ↓] Go.wp_at_zero Go.wp_at_succ
theorem ret_int' {k : IntKind} {a b : Int} (h : a = b) : Ending.returned (.int k a) = .returned (.int k b) := by rw [h]
theorem dk_cells {w : World} {g : Nat} {D : Dk} {kv : Value} (h : Blk w g 79 (dkCells D kv)) :
    w.cell? ⟨g, 0, none⟩ = some (.string D.b0) ∧ w.cell? ⟨g, 1, none⟩ = some (.int .i64 (D.l0 : Int)) ∧ w.cell? ⟨g, 2, none⟩ = some (.string D.b1) ∧ w.cell? ⟨g, 3, none⟩ = some (.int .i64 (D.l1 : Int)) ∧
    w.cell? ⟨g, 4, none⟩ = some (.int .i64 (D.lim : Int)) ∧ w.cell? ⟨g, 5, none⟩ = some (.bool D.off) ∧ w.cell? ⟨g, 6, none⟩ = some (.int .i64 (D.cut : Int)) ∧ w.cell? ⟨g, 7, none⟩ = some kv ∧
    w.cell? ⟨g, 8, none⟩ = some (.int .i64 (D.brk : Int)) ∧ w.cell? ⟨g, 9, none⟩ = some (.bool D.full) :=
  ⟨h.cell 0, h.cell 1, h.cell 2, h.cell 3, h.cell 4, h.cell 5, h.cell 6, h.cell 7, h.cell 8, h.cell 9⟩

theorem kept_neg (n : Nat) (k : Int) (hn : n ≤ 16777216) (h : k < 0) (hk : -9223372036854775808 ≤ k) : wrap64 ((n : Int) + (k + 1).tmod ((n : Int) + 1)) = ((kept n k : Nat) : Int) := by
  obtain ⟨j, hj⟩ := Int.eq_ofNat_of_zero_le (show 0 ≤ -(k + 1) by omega)
  have e1 : k + 1 = -(j : Int) := by omega
  have e2 : ((n : Int) + 1) = ((n + 1 : Nat) : Int) := by omega
  have e3 : kept n k = n - j % (n + 1) := by unfold kept; rw [if_neg (by omega), hj, Int.toNat_natCast]
  have e4 : j % (n + 1) ≤ n := by have := Nat.mod_lt j (show 0 < n + 1 by omega); omega
  have e5 : (j : Int).tmod ((n + 1 : Nat) : Int) = ((j % (n + 1) : Nat) : Int) := rfl
  rw [e1, e2, Int.neg_tmod, e5, e3, IntWalk.wrap64_in _ (by omega)]
  omega
section
variable {w : World} {g : Nat} {D : Dk}

set_option maxHeartbeats 400000 in
theorem clear_any (h : DiskAt w g D) : Calls Tryz.prog 33 #[.pointer (some ⟨g, 0, none⟩)] w fun e w' => e = .returned (.tuple #[]) ∧ DiskAt w' g D.cleared ∧ w.grownBy w' (some g) := by
  obtain ⟨⟨kv, hb, hr⟩, ok⟩ := h
  obtain ⟨c0, c1, c2, c3, c4, c5, c6, c7, c8, c9⟩ := dk_cells hb
  have hf := fun i => hb.frozen i
  go_enter Tryz.func33, Tryz.ntmps33
  go_wp2
  go_end0
  exact ⟨rfl, ⟨⟨_, (((hb.put 6 _).put 7 _).put 8 _).put 9 _, IntRow.nil _⟩, ok.cleared⟩, only_put (only_put (only_put (only_put (only_refl _ _) _ _) _ _) _ _) _ _⟩

set_option maxHeartbeats 400000 in
theorem on_any (h : DiskAt w g D) : Calls Tryz.prog 7 #[.pointer (some ⟨g, 0, none⟩)] w fun e w' => e = .returned (.tuple #[]) ∧ DiskAt w' g D.on ∧ w.grownBy w' (some g) := by
  obtain ⟨⟨kv, hb, hr⟩, ok⟩ := h
  obtain ⟨c0, c1, c2, c3, c4, c5, c6, c7, c8, c9⟩ := dk_cells hb
  have hf := fun i => hb.frozen i
  go_enter Tryz.func7, Tryz.ntmps7
  go_wp2_with fail
  refine (clear_any (D := { D with off := false }) ⟨⟨kv, hb.put 5 _, hr.far hb (by decide) (only_put (only_refl _ _) _ _)⟩, ⟨ok.l0, ok.l1, ok.sum, ok.lim, ok.full, ok.cut, ok.brk, ok.keep⟩⟩).mono ?_
  rintro e w1 ⟨rfl, hd, ho⟩
  go_wp2_with fail
  go_end0
  exact ⟨rfl, hd, only_trans (only_put (only_refl _ _) _ _) ho⟩

set_option maxHeartbeats 400000 in
theorem break_any (h : DiskAt w g D) (n : Int) (hn : I64 n) : Calls Tryz.prog 62 #[.pointer (some ⟨g, 0, none⟩), .int .i64 n] w fun e w' => e = .returned (.tuple #[]) ∧ DiskAt w' g (D.doBreak n) ∧ w.grownBy w' (some g) := by
  obtain ⟨⟨kv, hb, hr⟩, ok⟩ := h
  obtain ⟨c0, c1, c2, c3, c4, c5, c6, c7, c8, c9⟩ := dk_cells hb
  have hf := fun i => hb.frozen i
  have hk : ∀ m : Nat, I64 m → DiskAt ((w.setCell ⟨g, 8, none⟩ (.int .i64 (m : Int))).setCell ⟨g, 9, none⟩ (.bool false)) g { D with brk := m, full := false } := fun m hm =>
    ⟨⟨kv, (hb.put 8 _).put 9 _, hr.far hb (by decide) (only_put (only_put (only_refl _ _) _ _) _ _)⟩, ⟨ok.l0, ok.l1, ok.sum, ok.lim, fun _ => rfl, ok.cut, hm, ok.keep⟩⟩
  by_cases h0 : 0 < n
  · obtain ⟨m, rfl⟩ := Int.eq_ofNat_of_zero_le (Int.le_of_lt h0)
    have h0' : 0 < m := by omega
    have Hk := Lib.hid (hk m hn)
    clear hk
    go_enter Tryz.func62, Tryz.ntmps62
    go_wp2_with fail
    go_end0
    exact ⟨rfl, Hk.out, only_put (only_put (only_refl _ _) _ _) _ _⟩
  · have Hk := Lib.hid (hk 0 i64_zero)
    have hz : D.doBreak n = { D with brk := 0, full := false } := by unfold Dk.doBreak; rw [show n.toNat = 0 from by omega]
    rw [hz]
    clear hk hz
    go_enter Tryz.func62, Tryz.ntmps62
    go_wp2_with fail
    go_end0
    exact ⟨rfl, Hk.out, only_put (only_put (only_refl _ _) _ _) _ _⟩

set_option maxHeartbeats 400000 in
theorem lasts_any (h : DiskAt w g D) (n : Int) : Calls Tryz.prog 58 #[.pointer (some ⟨g, 0, none⟩), .int .i64 n] w fun e w' => e = .returned (.int .i64 (D.lasts n : Nat)) ∧ w = w' := by
  obtain ⟨⟨kv, hb, hr⟩, ok⟩ := h
  obtain ⟨c0, c1, c2, c3, c4, c5, c6, c7, c8, c9⟩ := dk_cells hb
  by_cases h0 : n = 0
  · subst h0
    go_enter Tryz.func58, Tryz.ntmps58
    go_wp2_with fail
    go_ret
    exact ⟨rfl, rfl⟩
  by_cases h1 : n = 1
  · subst h1
    go_enter Tryz.func58, Tryz.ntmps58
    go_wp2_with fail
    go_ret
    exact ⟨rfl, rfl⟩
  · have hz : D.lasts n = 0 := by simp [Dk.lasts, h0, h1]
    rw [hz]
    have hlt : n < 0 ∨ 2 ≤ n := by omega
    clear hz h0 h1
    rcases hlt with hlt | hlt
    · have hd : decide (n < 0) = true := by simpa using hlt
      go_enter Tryz.func58, Tryz.ntmps58
      go_wp2_with fail
      go_ret
      exact ⟨rfl, rfl⟩
    · have hd : decide (n < 0) = false := by simp; omega
      go_enter Tryz.func58, Tryz.ntmps58
      go_wp2_with fail
      go_ret
      exact ⟨rfl, rfl⟩

set_option maxHeartbeats 400000 in
theorem off_any (h : DiskAt w g D) : Calls Tryz.prog 57 #[.pointer (some ⟨g, 0, none⟩)] w fun e w' => e = .returned (.bool D.off) ∧ w = w' := by
  obtain ⟨⟨kv, hb, hr⟩, ok⟩ := h
  obtain ⟨c0, c1, c2, c3, c4, c5, c6, c7, c8, c9⟩ := dk_cells hb
  go_enter Tryz.func57, Tryz.ntmps57
  go_wp2_with fail
  go_ret
  exact ⟨rfl, rfl⟩

set_option maxHeartbeats 400000 in
theorem kept_any (n : Nat) (k : Int) (hn : n ≤ 16777216) (hk : I64 k) (w : World) : Calls Tryz.prog 103 #[.int .i64 n, .int .i64 k] w fun e w' => e = .returned (.int .i64 (kept n k : Nat)) ∧ w = w' := by
  unfold I64 at hk
  by_cases h : 0 ≤ k
  · go_enter Tryz.func103, Tryz.ntmps103
    go_wp2_with fail
    go_ret
    exact ⟨ret_int' (by unfold kept; rw [if_pos h]; obtain ⟨j, rfl⟩ := Int.eq_ofNat_of_zero_le h; rw [Int.toNat_natCast]; simp), rfl⟩
  · have hneg := kept_neg n k hn (by omega) hk.1
    have Hn := Lib.hid hneg
    clear hneg
    go_enter Tryz.func103, Tryz.ntmps103
    go_wp2_with fail
    go_ret
    exact ⟨ret_int' Hn.out, rfl⟩

set_option maxHeartbeats 400000 in
theorem find_bad (h : DiskAt w g D) (n : Int) (hn : D.find n ≠ 0) : Calls Tryz.prog 44 #[.pointer (some ⟨g, 0, none⟩), .int .i64 n] w fun e w' => e = .returned (.tuple #[.pointer none, .int .u8 (D.find n : Nat)]) ∧ w = w' := by
  obtain ⟨⟨kv, hb, hr⟩, ok⟩ := h
  obtain ⟨c0, c1, c2, c3, c4, c5, c6, c7, c8, c9⟩ := dk_cells hb
  cases ho : D.off with
  | true =>
    have e : D.find n = 240 := by simp [Dk.find, ho]
    rw [e]
    rw [ho] at c5
    clear hn e ho
    go_enter Tryz.func44, Tryz.ntmps44
    go_wp2_with fail
    go_ret2
    exact ⟨rfl, rfl⟩
  | false =>
    have hz : ¬ (n = 0 ∨ n = 1) := fun hz => hn (by simp [Dk.find, ho, hz])
    have e : D.find n = 242 := by simp [Dk.find, ho, hz]
    rw [e]
    rw [ho] at c5
    have hlt : n < 0 ∨ 2 ≤ n := by omega
    clear hn e ho hz
    rcases hlt with hlt | hlt
    · have hd : decide (n < 0) = true := by simpa using hlt
      go_enter Tryz.func44, Tryz.ntmps44
      go_wp2_with fail
      go_ret2
      exact ⟨rfl, rfl⟩
    · have hd : decide (n < 0) = false := by simp; omega
      go_enter Tryz.func44, Tryz.ntmps44
      go_wp2_with fail
      go_ret2
      exact ⟨rfl, rfl⟩
/-- Where a file's cells begin. -/
def fileOff (n : Int) : Nat := if n = 0 then 0 else 2
set_option maxHeartbeats 400000 in
theorem find_ok (h : DiskAt w g D) (n : Int) (hn : D.find n = 0) : Calls Tryz.prog 44 #[.pointer (some ⟨g, 0, none⟩), .int .i64 n] w fun e w' => e = .returned (.tuple #[.pointer (some ⟨g, fileOff n, none⟩), .int .u8 0]) ∧ w = w' := by
  obtain ⟨⟨kv, hb, hr⟩, ok⟩ := h
  obtain ⟨c0, c1, c2, c3, c4, c5, c6, c7, c8, c9⟩ := dk_cells hb
  have ho : D.off = false := by
    unfold Dk.find at hn
    split at hn
    · cases hn
    · rename_i h; simpa using h
  have hz : n = 0 ∨ n = 1 := by
    by_cases hz : n = 0 ∨ n = 1
    · exact hz
    · simp [Dk.find, ho, hz] at hn
  rw [ho] at c5
  clear hn ho
  rcases hz with rfl | rfl
  all_goals
    go_enter Tryz.func44, Tryz.ntmps44
    go_wp2_with fail
    go_ret2
    exact ⟨rfl, rfl⟩

theorem Dk.find_ok_iff {n : Int} (h : D.find n = 0) : D.off = false ∧ (n = 0 ∨ n = 1) := by
  unfold Dk.find at h
  split at h
  · cases h
  · rename_i ho
    split at h
    · rename_i hz; exact ⟨by simpa using ho, hz⟩
    · cases h

set_option maxHeartbeats 400000 in
theorem read_any (h : DiskAt w g D) (n : Int) : Calls Tryz.prog 36 #[.pointer (some ⟨g, 0, none⟩), .int .i64 n] w fun e w' => e = .returned (.tuple #[.string (D.read n).1, .int .u8 ((D.read n).2 : Nat)]) ∧ w = w' := by
  by_cases hn : D.find n = 0
  · have e : D.read n = (D.bytes n, 0) := by simp [Dk.read, hn]
    rw [e]
    have Hf := Lib.hid (find_ok h n hn)
    obtain ⟨_, hz⟩ := Dk.find_ok_iff hn
    obtain ⟨⟨kv, hb, hr⟩, ok⟩ := h
    obtain ⟨c0, c1, c2, c3, c4, c5, c6, c7, c8, c9⟩ := dk_cells hb
    clear hn e
    rcases hz with rfl | rfl
    all_goals
      go_enter Tryz.func36, Tryz.ntmps36
      go_wp2_with fail
      refine (Hf.out).mono ?_
      rintro e w' ⟨rfl, rfl⟩
      unfold fileOff
      go_wp2_with fail
      go_ret2
      exact ⟨rfl, rfl⟩
  · have e : D.read n = (⟨#[]⟩, D.find n) := by simp [Dk.read, hn]
    rw [e]
    have Hf := Lib.hid (find_bad h n hn)
    have hc : (((D.find n : Nat) : Int) != 0) = true := by rw [bne_iff_ne]; omega
    clear hn e
    go_enter Tryz.func36, Tryz.ntmps36
    go_wp2_with fail
    refine (Hf.out).mono ?_
    rintro e w' ⟨rfl, rfl⟩
    go_wp2_with fail
    go_ret2
    exact ⟨rfl, rfl⟩

theorem kept_flip (n : Nat) (k : Int) (hn : n ≤ 16777216) (hk : I64 k) (w : World) : Calls Tryz.prog 103 #[.int .i64 n, .int .i64 k] w fun e w' => e = .returned (.int .i64 (kept n k : Nat)) ∧ w' = w :=
  (kept_any n k hn hk w).mono fun _ _ h => ⟨h.1, h.2.symm⟩
end
end Go.Proofs.YtklcpckjmncdkaaGreatDoor
