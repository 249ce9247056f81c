/- THE WALK of the loss of power. -/
import Derived.Test.YtklcpckjmncdkaaGreatDoorDiskW
namespace Go.Proofs.YtklcpckjmncdkaaGreatDoor
set_option maxRecDepth 100000
open Go.RowKit
section
variable {w wr : World} {g : Nat} {D : Dk} {kv : Value} {ks : List Int} {k : Int} {nl : Nat}
theorem blk_lose0 (h : Blk wr g 79 (dkCells D kv)) (hk : ks.getD 0 0 = k) (hnl : nl = D.l0 + kept (D.b0.size - D.l0) k) (ok : D.l0 ≤ D.b0.size) :
    Blk (((wr.setCell ⟨g, 0, none⟩ (.string (D.b0.extract 0 nl))).setCell ⟨g, 1, none⟩ (.int .i64 (nl : Int))).drew) g 79 (dkCells (D.lose0 ks) kv) := by
  have e1 : cutTo D.b0 D.l0 (ks.getD 0 0) = D.b0.extract 0 nl := by rw [hk, hnl]; rfl
  have e2 : (cutTo D.b0 D.l0 (ks.getD 0 0)).size = nl := by rw [cutTo_size _ ok, hk, hnl]
  have := ((h.put 0 (.string (D.b0.extract 0 nl))).put 1 (.int .i64 (nl : Int))).drew
  unfold Dk.lose0
  rw [e2, e1]
  exact this
theorem blk_lose1 (h : Blk wr g 79 (dkCells (D.lose0 ks) kv)) (hk : ks.getD 1 0 = k) (hnl : nl = D.l1 + kept (D.b1.size - D.l1) k) (ok : D.l1 ≤ D.b1.size) :
    Blk (((wr.setCell ⟨g, 2, none⟩ (.string (D.b1.extract 0 nl))).setCell ⟨g, 3, none⟩ (.int .i64 (nl : Int))).drew) g 79 (dkCells ((D.lose0 ks).lose1 ks) kv) := by
  have e1 : cutTo D.b1 D.l1 (ks.getD 1 0) = D.b1.extract 0 nl := by rw [hk, hnl]; rfl
  have e2 : (cutTo D.b1 D.l1 (ks.getD 1 0)).size = nl := by rw [cutTo_size _ ok, hk, hnl]
  have := ((h.put 2 (.string (D.b1.extract 0 nl))).put 3 (.int .i64 (nl : Int))).drew
  unfold Dk.lose1
  show Blk _ _ _ (dkCells { D.lose0 ks with b1 := cutTo D.b1 D.l1 (ks.getD 1 0), l1 := (cutTo D.b1 D.l1 (ks.getD 1 0)).size } kv)
  rw [e2, e1]
  exact this
end
section
variable {w : World} {g : Nat} {D : Dk}
set_option maxHeartbeats 1600000 in
theorem lose_any (h : DiskAt w g D) {kv' : Value} {ks : List Int} (hk : Ints w g kv' ks) (h64 : ∀ k ∈ ks, I64 k) : Calls Tryz.prog 70 #[.pointer (some ⟨g, 0, none⟩), kv'] w fun e w' => e = .returned (.tuple #[]) ∧ DiskAt w' g (D.lose ks) ∧ w.grownBy w' (some g) := by
  obtain ⟨⟨kv, hb, hr⟩, ok⟩ := h
  obtain ⟨A, c, rfl, hcell⟩ := hk
  have hblk := hb
  go_enter Tryz.func70, Tryz.ntmps70
  go_wp2_with fail
  go_loopw [7] (fun i wr => ∃ m : Nat, m ≤ 2 ∧ i = .int .i64 (m : Int) ∧ w.grownBy wr (some g) ∧ Blk wr g 79 (dkCells (if m = 0 then D else if m = 1 then D.lose0 ks else (D.lose0 ks).lose1 ks) kv)) (fun i _ => 2 - (intOf i).toNat)
  case atStart => exact ⟨0, by omega, rfl, only_refl _ _, hb⟩
  case round =>
    obtain ⟨m, hm, rfl, hg, hb1⟩ := hrel
    clear hb
    obtain rfl | rfl | rfl : m = 0 ∨ m = 1 ∨ m = 2 := by omega
    · rw [if_pos rfl] at hb1
      obtain ⟨c0, c1, c2, c3, c4, c5, c6, c7, c8, c9⟩ := dk_cells hb1
      have hf := fun i => hb1.frozen i
      by_cases hl : 0 < ks.length
      · obtain ⟨b, off, rfl, hne, hc⟩ := hcell 0 hl
        have hc' := hg.cell hc (by simpa using hne)
        have hk0 : ks.getD 0 0 = ks[0] := by simp [hl]
        have h640 := h64 ks[0] (List.getElem_mem hl)
        rw [Nat.add_zero] at hc'
        clear hcell hc
        generalize ks[0] = k0 at *
        have hsz : D.b0.size - D.l0 ≤ 16777216 := by have := ok.sum; have := ok.lim; omega
        have hle := kept_le (D.b0.size - D.l0) k0
        have ok0 := ok.l0
        have e1 : IntKind.i64.wrap ((D.b0.size : Int) - (D.l0 : Int)) = ((D.b0.size - D.l0 : Nat) : Int) := by rw [IntWalk.i64_in _ (by omega)]; omega
        have hkept := fun w => kept_flip (D.b0.size - D.l0) k0 hsz h640 w
        have hct := fun nl hnl => blk_lose0 (nl := nl) hb1 hk0 hnl ok0
        generalize hsz' : D.b0.size - D.l0 = sz at *
        have hnl : D.l0 + kept sz k0 ≤ D.b0.size := by omega
        clear hsz'
        have e2 : IntKind.i64.wrap ((D.l0 : Int) + ((kept sz k0 : Nat) : Int)) = ((D.l0 + kept sz k0 : Nat) : Int) := by have := ok.sum; have := ok.lim; rw [IntWalk.i64_in _ (by omega)]; omega
        have Hct := Lib.hid (hct _ rfl)
        generalize kept sz k0 = kp at *
        generalize D.l0 + kp = nl at *
        have i1 : (0 : Int) ≤ (nl : Int) := Int.natCast_nonneg _
        have i2 : (nl : Int) ≤ (D.b0.size : Int) := by omega
        clear hct hle
        go_wp2_with fail
        refine wp_region_still_tail 25 (by kernel_rfl) (by kernel_rfl) ?_
        simp only [List.take_succ_cons, List.take_zero, List.drop_succ_cons, List.drop_zero]
        change wpStill _ _ wr.drew _ _ _
        repeat still_step
        still_call (hkept wr.drew)
        repeat still_step
        refine wpStill_nil ?_
        go_wp2_with fail
        go_roundw
        case rel => exact ⟨1, by omega, rfl, only_drew (only_put (only_put hg _ _) _ _), Hct.out⟩
        case measure => simp [intOf]
      · obtain ⟨k0, hk0, hk00⟩ : ∃ k0 : Int, ks.getD 0 0 = k0 ∧ k0 = 0 := ⟨_, rfl, by rw [List.getD_eq_getElem?_getD, List.getElem?_eq_none (by omega)]; rfl⟩
        have h640 : I64 k0 := hk00 ▸ i64_zero
        clear hcell
        have hsz : D.b0.size - D.l0 ≤ 16777216 := by have := ok.sum; have := ok.lim; omega
        have hle := kept_le (D.b0.size - D.l0) k0
        have ok0 := ok.l0
        have e1 : IntKind.i64.wrap ((D.b0.size : Int) - (D.l0 : Int)) = ((D.b0.size - D.l0 : Nat) : Int) := by rw [IntWalk.i64_in _ (by omega)]; omega
        have hkept := fun w => kept_flip (D.b0.size - D.l0) k0 hsz h640 w
        have hct := fun nl hnl => blk_lose0 (nl := nl) hb1 hk0 hnl ok0
        generalize hsz' : D.b0.size - D.l0 = sz at *
        have hnl : D.l0 + kept sz k0 ≤ D.b0.size := by omega
        clear hsz'
        have e2 : IntKind.i64.wrap ((D.l0 : Int) + ((kept sz k0 : Nat) : Int)) = ((D.l0 + kept sz k0 : Nat) : Int) := by have := ok.sum; have := ok.lim; rw [IntWalk.i64_in _ (by omega)]; omega
        have Hct := Lib.hid (hct _ rfl)
        generalize kept sz k0 = kp at *
        generalize D.l0 + kp = nl at *
        have i1 : (0 : Int) ≤ (nl : Int) := Int.natCast_nonneg _
        have i2 : (nl : Int) ≤ (D.b0.size : Int) := by omega
        clear hct hle
        clear hk0
        subst hk00
        go_wp2_with fail
        refine wp_region_still_tail 25 (by kernel_rfl) (by kernel_rfl) ?_
        simp only [List.take_succ_cons, List.take_zero, List.drop_succ_cons, List.drop_zero]
        change wpStill _ _ wr.drew _ _ _
        repeat still_step
        still_call (hkept wr.drew)
        repeat still_step
        refine wpStill_nil ?_
        go_wp2_with fail
        go_roundw
        case rel => exact ⟨1, by omega, rfl, only_drew (only_put (only_put hg _ _) _ _), Hct.out⟩
        case measure => simp [intOf]
    · rw [if_neg (by omega), if_pos rfl] at hb1
      have hb1' : Blk wr g 79 (dkCells { D.lose0 ks with b1 := D.b1, l1 := D.l1 } kv) := hb1
      obtain ⟨_, _, c2, c3, _⟩ := dk_cells hb1'
      simp only at c2 c3
      have hf := fun i => hb1.frozen i
      clear hb1'
      by_cases hl : 1 < ks.length
      · obtain ⟨b, off, rfl, hne, hc⟩ := hcell 1 hl
        have hc' := hg.cell hc (by simpa using hne)
        have hk0 : ks.getD 1 0 = ks[1] := by simp [hl]
        have h640 := h64 ks[1] (List.getElem_mem hl)
        clear hcell hc
        generalize ks[1] = k0 at *
        have hsz : D.b1.size - D.l1 ≤ 16777216 := by have := ok.sum; have := ok.lim; omega
        have hle := kept_le (D.b1.size - D.l1) k0
        have ok0 := ok.l1
        have e1 : IntKind.i64.wrap ((D.b1.size : Int) - (D.l1 : Int)) = ((D.b1.size - D.l1 : Nat) : Int) := by rw [IntWalk.i64_in _ (by omega)]; omega
        have hkept := fun w => kept_flip (D.b1.size - D.l1) k0 hsz h640 w
        have hct := fun nl hnl => blk_lose1 (nl := nl) hb1 hk0 hnl ok0
        generalize hsz' : D.b1.size - D.l1 = sz at *
        have hnl : D.l1 + kept sz k0 ≤ D.b1.size := by omega
        clear hsz'
        have e2 : IntKind.i64.wrap ((D.l1 : Int) + ((kept sz k0 : Nat) : Int)) = ((D.l1 + kept sz k0 : Nat) : Int) := by have := ok.sum; have := ok.lim; rw [IntWalk.i64_in _ (by omega)]; omega
        have Hct := Lib.hid (hct _ rfl)
        generalize kept sz k0 = kp at *
        generalize D.l1 + kp = nl at *
        have i1 : (0 : Int) ≤ (nl : Int) := Int.natCast_nonneg _
        have i2 : (nl : Int) ≤ (D.b1.size : Int) := by omega
        clear hct hle
        go_wp2_with fail
        refine wp_region_still_tail 25 (by kernel_rfl) (by kernel_rfl) ?_
        simp only [List.take_succ_cons, List.take_zero, List.drop_succ_cons, List.drop_zero]
        change wpStill _ _ wr.drew _ _ _
        repeat still_step
        still_call (hkept wr.drew)
        repeat still_step
        refine wpStill_nil ?_
        go_wp2_with fail
        go_roundw
        case rel => exact ⟨2, by omega, rfl, only_drew (only_put (only_put hg _ _) _ _), Hct.out⟩
        case measure => simp [intOf]
      · obtain ⟨k0, hk0, hk00⟩ : ∃ k0 : Int, ks.getD 1 0 = k0 ∧ k0 = 0 := ⟨_, rfl, by rw [List.getD_eq_getElem?_getD, List.getElem?_eq_none (by omega)]; rfl⟩
        have h640 : I64 k0 := hk00 ▸ i64_zero
        clear hcell
        have hsz : D.b1.size - D.l1 ≤ 16777216 := by have := ok.sum; have := ok.lim; omega
        have hle := kept_le (D.b1.size - D.l1) k0
        have ok0 := ok.l1
        have e1 : IntKind.i64.wrap ((D.b1.size : Int) - (D.l1 : Int)) = ((D.b1.size - D.l1 : Nat) : Int) := by rw [IntWalk.i64_in _ (by omega)]; omega
        have hkept := fun w => kept_flip (D.b1.size - D.l1) k0 hsz h640 w
        have hct := fun nl hnl => blk_lose1 (nl := nl) hb1 hk0 hnl ok0
        generalize hsz' : D.b1.size - D.l1 = sz at *
        have hnl : D.l1 + kept sz k0 ≤ D.b1.size := by omega
        clear hsz'
        have e2 : IntKind.i64.wrap ((D.l1 : Int) + ((kept sz k0 : Nat) : Int)) = ((D.l1 + kept sz k0 : Nat) : Int) := by have := ok.sum; have := ok.lim; rw [IntWalk.i64_in _ (by omega)]; omega
        have Hct := Lib.hid (hct _ rfl)
        generalize kept sz k0 = kp at *
        generalize D.l1 + kp = nl at *
        have i1 : (0 : Int) ≤ (nl : Int) := Int.natCast_nonneg _
        have i2 : (nl : Int) ≤ (D.b1.size : Int) := by omega
        clear hct hle
        clear hk0
        subst hk00
        go_wp2_with fail
        refine wp_region_still_tail 25 (by kernel_rfl) (by kernel_rfl) ?_
        simp only [List.take_succ_cons, List.take_zero, List.drop_succ_cons, List.drop_zero]
        change wpStill _ _ wr.drew _ _ _
        repeat still_step
        still_call (hkept wr.drew)
        repeat still_step
        refine wpStill_nil ?_
        go_wp2_with fail
        go_roundw
        case rel => exact ⟨2, by omega, rfl, only_drew (only_put (only_put hg _ _) _ _), Hct.out⟩
        case measure => simp [intOf]
    · rw [if_neg (by omega), if_neg (by omega)] at hb1
      have hcl := clear_any (w := wr.setCell ⟨g, 5, none⟩ (.bool true)) (g := g) (D := { (D.lose0 ks).lose1 ks with off := true })
        ⟨⟨kv, hb1.put 5 _, hr.far hblk (by decide) (only_put hg _ _)⟩, by have o := (ok.lose0 ks).lose1 ks; exact ⟨o.l0, o.l1, o.sum, o.lim, o.full, o.cut, o.brk, o.keep⟩⟩
      obtain ⟨_, _, _, _, _, c5, _⟩ := dk_cells hb1
      have hf := fun i => hb1.frozen i
      have Hcl := Lib.hid hcl
      clear hcl hcell
      go_wp2_with fail
      refine (Hcl.out).mono ?_
      rintro e w1 ⟨rfl, hd, ho⟩
      go_wp2_with fail
      go_end0
      exact ⟨rfl, hd, only_trans (only_put hg _ _) ho⟩
end
end Go.Proofs.YtklcpckjmncdkaaGreatDoor
