/- THE WALK of the document's loss of power. -/
import Derived.Test.YtklcpckjmncdkaaGreatDoorRStop
namespace Go.Proofs.YtklcpckjmncdkaaGreatDoor
set_option maxRecDepth 100000
open Go.RowKit
attribute [local go_sem ↓] Go.wp_at_zero Go.wp_at_succ
section
variable {w wr : World} {g : Nat} {D : Dk} {kv : Value} {ks : List Int} {k : Int} {nl : Nat}
theorem rblk_lose0 (h : Blk wr g 95 (rdkCells D kv)) (hk : ks.getD 0 0 = k) (hnl : nl = D.l0 + kept (D.b0.size - D.l0) k) (ok : D.l0 ≤ D.b0.size) : ∀ n1,
    Blk ((((wr.drewN n1).setCell ⟨g, 0, none⟩ (.string (D.b0.extract 0 nl))).setCell ⟨g, 2, none⟩ (.int .i64 (nl : Int))).drew) g 95 (rdkCells (D.lose0 ks) kv) := by
  intro n1
  have e1 : cutTo D.b0 D.l0 (ks.getD 0 0) = D.b0.extract 0 nl := by rw [hk, hnl]; rfl
  have e2 : (cutTo D.b0 D.l0 (ks.getD 0 0)).size = nl := by rw [cutTo_size _ ok, hk, hnl]
  have := ((((h.drewN n1).put 0 (.string (D.b0.extract 0 nl))).put 2 (.int .i64 (nl : Int))).drew)
  unfold Dk.lose0
  rw [e2, e1]
  exact this
theorem rblk_lose1 (h : Blk wr g 95 (rdkCells (D.lose0 ks) kv)) (hk : ks.getD 1 0 = k) (hnl : nl = D.l1 + kept (D.b1.size - D.l1) k) (ok : D.l1 ≤ D.b1.size) : ∀ n1,
    Blk ((((wr.drewN n1).setCell ⟨g, 1, none⟩ (.string (D.b1.extract 0 nl))).setCell ⟨g, 3, none⟩ (.int .i64 (nl : Int))).drew) g 95 (rdkCells ((D.lose0 ks).lose1 ks) kv) := by
  intro n1
  have e1 : cutTo D.b1 D.l1 (ks.getD 1 0) = D.b1.extract 0 nl := by rw [hk, hnl]; rfl
  have e2 : (cutTo D.b1 D.l1 (ks.getD 1 0)).size = nl := by rw [cutTo_size _ ok, hk, hnl]
  have := ((((h.drewN n1).put 1 (.string (D.b1.extract 0 nl))).put 3 (.int .i64 (nl : Int))).drew)
  unfold Dk.lose1
  show Blk _ _ _ (rdkCells { D.lose0 ks with b1 := cutTo D.b1 D.l1 (ks.getD 1 0), l1 := (cutTo D.b1 D.l1 (ks.getD 1 0)).size } kv)
  rw [e2, e1]
  exact this
end
section
variable {w : World} {g : Nat} {D : Dk}
set_option maxHeartbeats 3200000 in
theorem rlose_any (h : RDiskAt w g D) {kv' : Value} {ks : List Int} (hk : Ints w g kv' ks) (h64 : ∀ k ∈ ks, I64 k) : Calls Tryz.prog 49 #[.pointer (some ⟨g, 0, none⟩), kv'] w fun e w' => e = .returned (.tuple #[]) ∧ RDiskAt w' g (D.lose ks) ∧ w.grownBy w' (some g) := by
  obtain ⟨⟨kv, hb, hr⟩, ok⟩ := h
  obtain ⟨A, c, rfl, hcell⟩ := hk
  have hblk := hb
  go_enter Tryz.func49, Tryz.ntmps49
  go_wp2_with fail
  go_loopw [4] (fun i wr => ∃ m : Nat, m ≤ 2 ∧ i = .int .i64 (m : Int) ∧ w.grownBy wr (some g) ∧ Blk wr g 95 (rdkCells (if m = 0 then D else if m = 1 then D.lose0 ks else (D.lose0 ks).lose1 ks) kv)) (fun i _ => 2 - (intOf i).toNat)
  case atStart => exact ⟨0, by omega, rfl, only_refl _ _, hb⟩
  case round =>
    obtain ⟨m, hm, rfl, hg, hb1⟩ := hrel
    clear hb
    obtain rfl | rfl | rfl : m = 0 ∨ m = 1 ∨ m = 2 := by omega
    · rw [if_pos rfl] at hb1
      obtain ⟨c0, c1, c2, c3, c4, c5, c6, c7, c8, c9⟩ := rdk_cells hb1
      have hf := fun i => hb1.frozen i
      by_cases hl : 0 < ks.length
      · obtain ⟨b, off, rfl, hne, hc⟩ := hcell 0 hl
        have hc' := hg.cell hc (by simpa using hne)
        have hk0 : ks.getD 0 0 = ks[0] := by simp [hl]
        have h640 := h64 ks[0] (List.getElem_mem hl)
        rw [Nat.add_zero] at hc'
        clear hcell hc
        generalize ks[0] = k0 at *
        have hsz : D.b0.size - D.l0 ≤ 16777216 := by have := ok.sum; have := ok.lim; omega
        have hle := kept_le (D.b0.size - D.l0) k0
        have ok0 := ok.l0
        have e1 : IntKind.i64.wrap ((D.b0.size : Int) - (D.l0 : Int)) = ((D.b0.size - D.l0 : Nat) : Int) := by rw [IntWalk.i64_in _ (by omega)]; omega
        have hkept := fun w => rkept_any (D.b0.size - D.l0) k0 hsz h640 w
        have hct := fun nl hnl => rblk_lose0 (nl := nl) hb1 hk0 hnl ok0
        generalize hsz' : D.b0.size - D.l0 = sz at *
        have hnl : D.l0 + kept sz k0 ≤ D.b0.size := by omega
        clear hsz'
        have e2 : IntKind.i64.wrap ((D.l0 : Int) + ((kept sz k0 : Nat) : Int)) = ((D.l0 + kept sz k0 : Nat) : Int) := by have := ok.sum; have := ok.lim; rw [IntWalk.i64_in _ (by omega)]; omega
        have Hct := Lib.hid (hct _ rfl)
        generalize kept sz k0 = kp at *
        generalize D.l0 + kp = nl at *
        have i1 : (0 : Int) ≤ (nl : Int) := Int.natCast_nonneg _
        have i2 : (nl : Int) ≤ (D.b0.size : Int) := by omega
        have Hkept := Lib.hid hkept
        clear hct hle hkept
        go_wp2_with fail
        go_quiet (fail)
        go_wp2_with fail
        refine (Hkept.out _).mono ?_
        rintro e w' ⟨rfl, rfl⟩
        go_wp2_with fail
        go_region
        all_goals go_wp2_with fail
        all_goals go_region
        all_goals go_wp2_with fail
        go_roundw
        case rel => exact ⟨1, by omega, rfl, only_drew (only_put (only_put (only_drewN hg _) _ _) _ _), Hct.out _⟩
        case measure => simp [intOf]
      · have hk0 : ks.getD 0 0 = 0 := by rw [List.getD_eq_getElem?_getD, List.getElem?_eq_none (by omega)]; rfl
        clear hcell
        have hsz : D.b0.size - D.l0 ≤ 16777216 := by have := ok.sum; have := ok.lim; omega
        have hle := kept_le (D.b0.size - D.l0) 0
        have ok0 := ok.l0
        have e1 : IntKind.i64.wrap ((D.b0.size : Int) - (D.l0 : Int)) = ((D.b0.size - D.l0 : Nat) : Int) := by rw [IntWalk.i64_in _ (by omega)]; omega
        have hct := fun nl hnl => rblk_lose0 (nl := nl) hb1 hk0 hnl ok0
        rw [kept_zero] at hct hle
        generalize hsz' : D.b0.size - D.l0 = sz at *
        clear hsz'
        have Hct := Lib.hid (hct _ rfl)
        have e2 : IntKind.i64.wrap (D.l0 : Int) = (D.l0 : Int) := by have := ok.sum; have := ok.lim; rw [IntWalk.i64_in _ (by omega)]
        have i1 : (0 : Int) ≤ (D.l0 : Int) := Int.natCast_nonneg _
        have i2 : (D.l0 : Int) ≤ (D.b0.size : Int) := by omega
        clear hct hle
        go_wp2_with fail
        go_quiet (fail)
        go_wp2_with fail
        go_region
        all_goals go_wp2_with fail
        all_goals go_region
        all_goals go_wp2_with fail
        go_roundw
        case rel => exact ⟨1, by omega, rfl, only_drew (only_put (only_put (only_drewN hg _) _ _) _ _), Hct.out _⟩
        case measure => simp [intOf]
    · rw [if_neg (by omega), if_pos rfl] at hb1
      have hb1' : Blk wr g 95 (rdkCells { D.lose0 ks with b1 := D.b1, l1 := D.l1 } kv) := hb1
      obtain ⟨_, c1, _, c3, _⟩ := rdk_cells hb1'
      simp only at c1 c3
      have hf := fun i => hb1.frozen i
      clear hb1'
      by_cases hl : 1 < ks.length
      · obtain ⟨b, off, rfl, hne, hc⟩ := hcell 1 hl
        have hc' := hg.cell hc (by simpa using hne)
        have hk0 : ks.getD 1 0 = ks[1] := by simp [hl]
        have h640 := h64 ks[1] (List.getElem_mem hl)
        clear hcell hc
        generalize ks[1] = k0 at *
        have hsz : D.b1.size - D.l1 ≤ 16777216 := by have := ok.sum; have := ok.lim; omega
        have hle := kept_le (D.b1.size - D.l1) k0
        have ok0 := ok.l1
        have e1 : IntKind.i64.wrap ((D.b1.size : Int) - (D.l1 : Int)) = ((D.b1.size - D.l1 : Nat) : Int) := by rw [IntWalk.i64_in _ (by omega)]; omega
        have hkept := fun w => rkept_any (D.b1.size - D.l1) k0 hsz h640 w
        have hct := fun nl hnl => rblk_lose1 (nl := nl) hb1 hk0 hnl ok0
        generalize hsz' : D.b1.size - D.l1 = sz at *
        have hnl : D.l1 + kept sz k0 ≤ D.b1.size := by omega
        clear hsz'
        have e2 : IntKind.i64.wrap ((D.l1 : Int) + ((kept sz k0 : Nat) : Int)) = ((D.l1 + kept sz k0 : Nat) : Int) := by have := ok.sum; have := ok.lim; rw [IntWalk.i64_in _ (by omega)]; omega
        have Hct := Lib.hid (hct _ rfl)
        generalize kept sz k0 = kp at *
        generalize D.l1 + kp = nl at *
        have i1 : (0 : Int) ≤ (nl : Int) := Int.natCast_nonneg _
        have i2 : (nl : Int) ≤ (D.b1.size : Int) := by omega
        have Hkept := Lib.hid hkept
        clear hct hle hkept
        go_wp2_with fail
        go_quiet (fail)
        go_wp2_with fail
        refine (Hkept.out _).mono ?_
        rintro e w' ⟨rfl, rfl⟩
        go_wp2_with fail
        go_region
        all_goals go_wp2_with fail
        all_goals go_region
        all_goals go_wp2_with fail
        go_roundw
        case rel => exact ⟨2, by omega, rfl, only_drew (only_put (only_put (only_drewN hg _) _ _) _ _), Hct.out _⟩
        case measure => simp [intOf]
      · have hk0 : ks.getD 1 0 = 0 := by rw [List.getD_eq_getElem?_getD, List.getElem?_eq_none (by omega)]; rfl
        clear hcell
        have hsz : D.b1.size - D.l1 ≤ 16777216 := by have := ok.sum; have := ok.lim; omega
        have hle := kept_le (D.b1.size - D.l1) 0
        have ok0 := ok.l1
        have e1 : IntKind.i64.wrap ((D.b1.size : Int) - (D.l1 : Int)) = ((D.b1.size - D.l1 : Nat) : Int) := by rw [IntWalk.i64_in _ (by omega)]; omega
        have hct := fun nl hnl => rblk_lose1 (nl := nl) hb1 hk0 hnl ok0
        rw [kept_zero] at hct hle
        generalize hsz' : D.b1.size - D.l1 = sz at *
        clear hsz'
        have Hct := Lib.hid (hct _ rfl)
        have e2 : IntKind.i64.wrap (D.l1 : Int) = (D.l1 : Int) := by have := ok.sum; have := ok.lim; rw [IntWalk.i64_in _ (by omega)]
        have i1 : (0 : Int) ≤ (D.l1 : Int) := Int.natCast_nonneg _
        have i2 : (D.l1 : Int) ≤ (D.b1.size : Int) := by omega
        clear hct hle
        go_wp2_with fail
        go_quiet (fail)
        go_wp2_with fail
        go_region
        all_goals go_wp2_with fail
        all_goals go_region
        all_goals go_wp2_with fail
        go_roundw
        case rel => exact ⟨2, by omega, rfl, only_drew (only_put (only_put (only_drewN hg _) _ _) _ _), Hct.out _⟩
        case measure => simp [intOf]
    · rw [if_neg (by omega), if_neg (by omega)] at hb1
      have hcl := ron_any (w := wr) (g := g) (D := (D.lose0 ks).lose1 ks) ⟨⟨kv, hb1, hr.far hblk (by decide) hg⟩, (ok.lose0 ks).lose1 ks⟩
      have Hcl := Lib.hid hcl
      clear hcl hcell
      go_wp2_with fail
      refine (Hcl.out).mono ?_
      rintro e w1 ⟨rfl, hd, ho⟩
      obtain ⟨⟨kv2, hb2, hr2⟩, ok2⟩ := hd
      have d5 := hb2.cell 5
      have hf2 := fun i => hb2.frozen i
      have d5' : w1.cell? ⟨g, 5, none⟩ = some (.bool false) := d5
      clear d5
      go_wp2_with fail
      go_end0
      exact ⟨rfl, ⟨⟨kv2, hb2.put 5 (.bool true), hr2.far hb2 (by decide) (only_put (only_refl _ _) 5 (.bool true))⟩, ok.lose ks⟩, only_put (only_trans hg ho) _ _⟩
end
end Go.Proofs.YtklcpckjmncdkaaGreatDoor
