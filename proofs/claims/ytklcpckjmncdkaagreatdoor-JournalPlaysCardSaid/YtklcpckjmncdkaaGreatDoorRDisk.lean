/- THE WALKS of the document's disk: the simple ones. -/
import Derived.Test.YtklcpckjmncdkaaGreatDoorDiskW
namespace Go.Proofs.YtklcpckjmncdkaaGreatDoor
set_option maxRecDepth 100000
open Go.RowKit
attribute [local go_sem ↓] Go.wp_at_zero Go.wp_at_succ

/-- The document's disk. -/
def rdkCells (D : Dk) (kv : Value) : Array Value :=
  #[.string D.b0, .string D.b1, .int .i64 (D.l0 : Int), .int .i64 (D.l1 : Int), .int .i64 (D.lim : Int), .bool D.off, .int .i64 (D.cut : Int), kv, .int .i64 (D.brk : Int), .bool D.full]
structure RDiskAt (w : World) (g : Nat) (D : Dk) : Prop where
  at_ : ∃ kv, Blk w g 95 (rdkCells D kv) ∧ IntRow w kv D.keep
  ok : D.Ok
theorem RDiskAt.lt {w : World} {g : Nat} {D : Dk} (h : RDiskAt w g D) : g < w.heap.size := by obtain ⟨⟨_, hb, _⟩, _⟩ := h; exact hb.lt
theorem RDiskAt.far {w w' : World} {g : Nat} {D : Dk} (h : RDiskAt w g D) {g' : Nat} {t : TypeId} {cs : Array Value} (hg : Blk w g' t cs) (ht : t ≠ 3) (hne : g ≠ g') (hb : w.grownBy w' (some g')) : RDiskAt w' g D := by
  obtain ⟨⟨kv, hk, hr⟩, ho⟩ := h
  exact ⟨⟨kv, hk.grown hb (by simpa using hne), hr.far hg ht hb⟩, ho⟩
theorem RDiskAt.grown {w w' : World} {g : Nat} {D : Dk} (h : RDiskAt w g D) (hb : w.grownBy w' none) : RDiskAt w' g D := by
  obtain ⟨⟨kv, hk, hr⟩, ho⟩ := h
  exact ⟨⟨kv, hk.grown hb (by simp), hr.grown hb⟩, ho⟩
theorem rdk_cells {w : World} {g : Nat} {D : Dk} {kv : Value} (h : Blk w g 95 (rdkCells D kv)) :
    w.cell? ⟨g, 0, none⟩ = some (.string D.b0) ∧ w.cell? ⟨g, 1, none⟩ = some (.string D.b1) ∧ w.cell? ⟨g, 2, none⟩ = some (.int .i64 (D.l0 : Int)) ∧ w.cell? ⟨g, 3, none⟩ = some (.int .i64 (D.l1 : Int)) ∧
    w.cell? ⟨g, 4, none⟩ = some (.int .i64 (D.lim : Int)) ∧ w.cell? ⟨g, 5, none⟩ = some (.bool D.off) ∧ w.cell? ⟨g, 6, none⟩ = some (.int .i64 (D.cut : Int)) ∧ w.cell? ⟨g, 7, none⟩ = some kv ∧
    w.cell? ⟨g, 8, none⟩ = some (.int .i64 (D.brk : Int)) ∧ w.cell? ⟨g, 9, none⟩ = some (.bool D.full) :=
  ⟨h.cell 0, h.cell 1, h.cell 2, h.cell 3, h.cell 4, h.cell 5, h.cell 6, h.cell 7, h.cell 8, h.cell 9⟩

section
variable {w : World} {g : Nat} {D : Dk}
set_option maxHeartbeats 400000 in
theorem ron_any (h : RDiskAt w g D) : Calls Tryz.prog 65 #[.pointer (some ⟨g, 0, none⟩)] w fun e w' => e = .returned (.tuple #[]) ∧ RDiskAt w' g D.on ∧ w.grownBy w' (some g) := by
  obtain ⟨⟨kv, hb, hr⟩, ok⟩ := h
  obtain ⟨c0, c1, c2, c3, c4, c5, c6, c7, c8, c9⟩ := rdk_cells hb
  have hf := fun i => hb.frozen i
  go_enter Tryz.func65, Tryz.ntmps65
  go_wp2_with fail
  go_end0
  exact ⟨rfl, ⟨⟨_, ((((hb.put 5 _).put 6 _).put 7 _).put 8 _).put 9 _, IntRow.nil _⟩, ok.on⟩, only_put (only_put (only_put (only_put (only_put (only_refl _ _) _ _) _ _) _ _) _ _) _ _⟩

set_option maxHeartbeats 400000 in
theorem rbreak_any (h : RDiskAt w g D) (n : Int) (hn : I64 n) : Calls Tryz.prog 63 #[.pointer (some ⟨g, 0, none⟩), .int .i64 n] w fun e w' => e = .returned (.tuple #[]) ∧ RDiskAt w' g (D.doBreak n) ∧ w.grownBy w' (some g) := by
  have okb := h.ok.doBreak hn
  obtain ⟨⟨kv, hb, hr⟩, ok⟩ := h
  obtain ⟨c0, c1, c2, c3, c4, c5, c6, c7, c8, c9⟩ := rdk_cells hb
  have hf := fun i => hb.frozen i
  by_cases h0 : 0 < n
  · have hk : RDiskAt (((w.setCell ⟨g, 8, none⟩ (.int .i64 0)).setCell ⟨g, 8, none⟩ (.int .i64 n)).setCell ⟨g, 9, none⟩ (.bool false)) g (D.doBreak n) := by
      refine ⟨⟨kv, ?_, hr.far hb (by decide) (only_put (only_put (only_put (only_refl _ _) _ _) _ _) _ _)⟩, okb⟩
      have e : n = ((n.toNat : Nat) : Int) := by omega
      have hbb := ((hb.put 8 (.int .i64 0)).put 8 (.int .i64 n)).put 9 (.bool false)
      unfold Dk.doBreak
      rw [e] at hbb ⊢
      exact hbb
    have Hk := Lib.hid hk
    clear hk
    go_enter Tryz.func63, Tryz.ntmps63
    go_wp2_with fail
    go_end0
    exact ⟨rfl, Hk.out, only_put (only_put (only_put (only_refl _ _) _ _) _ _) _ _⟩
  · have hk : RDiskAt ((w.setCell ⟨g, 8, none⟩ (.int .i64 0)).setCell ⟨g, 9, none⟩ (.bool false)) g (D.doBreak n) := by
      refine ⟨⟨kv, ?_, hr.far hb (by decide) (only_put (only_put (only_refl _ _) _ _) _ _)⟩, okb⟩
      have hbb := (hb.put 8 (.int .i64 0)).put 9 (.bool false)
      unfold Dk.doBreak
      rw [show n.toNat = 0 from by omega]
      exact hbb
    have Hk := Lib.hid hk
    clear hk
    go_enter Tryz.func63, Tryz.ntmps63
    go_wp2_with fail
    go_end0
    exact ⟨rfl, Hk.out, only_put (only_put (only_refl _ _) _ _) _ _⟩

set_option maxHeartbeats 400000 in
theorem rkept_any (n : Nat) (k : Int) (hn : n ≤ 16777216) (hk : I64 k) (w : World) : Calls Tryz.prog 85 #[.int .i64 n, .int .i64 k] w fun e w' => e = .returned (.int .i64 (kept n k : Nat)) ∧ w = w' := by
  unfold I64 at hk
  by_cases h : 0 ≤ k
  · go_enter Tryz.func85, Tryz.ntmps85
    go_wp2_with fail
    go_ret
    exact ⟨ret_int' (by unfold kept; rw [if_pos h]; obtain ⟨j, rfl⟩ := Int.eq_ofNat_of_zero_le h; rw [Int.toNat_natCast]; simp), rfl⟩
  · have hneg := kept_neg n k hn (by omega) hk.1
    have Hn := Lib.hid hneg
    clear hneg
    go_enter Tryz.func85, Tryz.ntmps85
    go_wp2_with fail
    go_ret
    exact ⟨ret_int' Hn.out, rfl⟩

set_option maxHeartbeats 400000 in
theorem rfind_any (h : RDiskAt w g D) (n : Int) : Calls Tryz.prog 47 #[.pointer (some ⟨g, 0, none⟩), .int .i64 n] w fun e w' => e = .returned (.int .i64 (D.find n : Nat)) ∧ w = w' := by
  obtain ⟨⟨kv, hb, hr⟩, ok⟩ := h
  obtain ⟨c0, c1, c2, c3, c4, c5, c6, c7, c8, c9⟩ := rdk_cells hb
  unfold Dk.find
  cases ho : D.off with
  | true =>
    rw [ho] at c5
    clear ho
    go_enter Tryz.func47, Tryz.ntmps47
    go_wp2_with fail
    go_ret
    exact ⟨rfl, rfl⟩
  | false =>
    rw [ho] at c5
    clear ho
    by_cases h0 : n = 0
    · subst h0
      go_enter Tryz.func47, Tryz.ntmps47
      go_wp2_with fail
      go_ret
      exact ⟨rfl, rfl⟩
    by_cases h1 : n = 1
    · subst h1
      go_enter Tryz.func47, Tryz.ntmps47
      go_wp2_with fail
      go_ret
      exact ⟨rfl, rfl⟩
    · rw [if_neg (by decide), if_neg (by omega)]
      have b0 : (n != 0) = true := by rw [bne_iff_ne]; omega
      have b1 : (n != 1) = true := by rw [bne_iff_ne]; omega
      clear h0 h1
      go_enter Tryz.func47, Tryz.ntmps47
      go_wp2_with fail
      go_ret
      exact ⟨rfl, rfl⟩

set_option maxHeartbeats 400000 in
theorem rread_any (h : RDiskAt w g D) (n : Int) : Calls Tryz.prog 52 #[.pointer (some ⟨g, 0, none⟩), .int .i64 n] w fun e w' => e = .returned (.tuple #[.string (D.read n).1, .int .i64 ((D.read n).2 : Nat)]) ∧ w = w' := by
  have Hf := Lib.hid (rfind_any h n)
  obtain ⟨⟨kv, hb, hr⟩, ok⟩ := h
  obtain ⟨c0, c1, c2, c3, c4, c5, c6, c7, c8, c9⟩ := rdk_cells hb
  by_cases hn : D.find n = 0
  · have e : D.read n = (D.bytes n, 0) := by simp [Dk.read, hn]
    obtain ⟨_, hz⟩ := Dk.find_ok_iff hn
    rw [e]
    rw [hn] at Hf
    clear hn e
    rcases hz with rfl | rfl
    all_goals
      go_enter Tryz.func52, Tryz.ntmps52
      go_wp2_with fail
      refine (Hf.out).mono ?_
      rintro e w' ⟨rfl, rfl⟩
      go_wp2_with fail
      go_ret2
      exact ⟨rfl, rfl⟩
  · have e : D.read n = (⟨#[]⟩, D.find n) := by simp [Dk.read, hn]
    rw [e]
    have hc : (((D.find n : Nat) : Int) != 0) = true := by rw [bne_iff_ne]; omega
    clear hn e
    go_enter Tryz.func52, Tryz.ntmps52
    go_wp2_with fail
    refine (Hf.out).mono ?_
    rintro e w' ⟨rfl, rfl⟩
    go_wp2_with fail
    go_ret2
    exact ⟨rfl, rfl⟩

/-- What New leaves. -/
def IsRDisk (D : Dk) (w : World) (e : Ending) (w' : World) : Prop := ∃ g, e = .returned (.pointer (some ⟨g, 0, none⟩)) ∧ w.heap.size ≤ g ∧ RDiskAt w' g D ∧ w.grownBy w' none
set_option maxHeartbeats 800000 in
theorem rnew_any (n : Int) (w : World) : Calls Tryz.prog 16 #[.int .i64 n] w (IsRDisk (Dk.new n) w) := by
  have hfin : ∀ m : Int, m = max 0 (min n 16777216) → IsRDisk (Dk.new n) w (.returned (.pointer (some ⟨w.heap.size, 0, none⟩)))
      (w.alloc (.cells #[.string ⟨#[]⟩, .string ⟨#[]⟩, .int .i64 0, .int .i64 0, .int .i64 m, .bool false, .int .i64 0, .slice none 0 0, .int .i64 0, .bool false] 95)) := by
    intro m hm
    refine ⟨w.heap.size, rfl, Nat.le_refl _, ⟨⟨.slice none 0 0, ?_, IntRow.nil _⟩, Dk.new_ok n⟩, only_alloc (only_refl _ _) _⟩
    have e : ((Dk.new n).lim : Int) = m := by simp only [Dk.new]; omega
    unfold rdkCells
    rw [e]
    exact Blk.new _ _ _
  by_cases h1 : n ≤ 16777216
  · by_cases h0 : 0 ≤ n
    · have H := Lib.hid (hfin n (by omega))
      clear hfin
      go_enter Tryz.func16, Tryz.ntmps16
      go_wp2_with fail
      go_ret
      exact H.out
    · have H := Lib.hid (hfin 0 (by omega))
      clear hfin
      go_enter Tryz.func16, Tryz.ntmps16
      go_wp2_with fail
      go_ret
      exact H.out
  · have H := Lib.hid (hfin 16777216 (by omega))
    clear hfin
    go_enter Tryz.func16, Tryz.ntmps16
    go_wp2_with fail
    go_ret
    exact H.out
end
end Go.Proofs.YtklcpckjmncdkaaGreatDoor
