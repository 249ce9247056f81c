/- THE WALK of FaultNil: of no error nothing is told. -/
import Derived.Test.YtaolamdkmiionaaDoorPath
namespace Go.Proofs.YtaolamdkmiionaaDoor
set_option maxRecDepth 100000
open Go.RowKit

theorem cell_stands {w w' : World} {a : Addr} {v : Value} (h : w.cell? a = some v) (hg : w.grownBy w' none) : w'.cell? a = w.cell? a := by
  have hl : a.block < w.heap.size := by
    rcases Nat.lt_or_ge a.block w.heap.size with h0 | h0
    · exact h0
    · unfold World.cell? at h
      rw [Array.getElem?_eq_none h0] at h
      cases h
  exact World.cell?_of_block (hg.block _ hl (by simp))
section
variable {w : World}
set_option maxHeartbeats 3200000 in
theorem wakes3_any (hH : Hand w) (hT : Tab w) : Calls Tryd.prog 4 #[] w fun e w' => e = .returned (.bool true) ∧ w.grownBy w' none := by
  have HN := Lib.hid (fnew_cells (w := w) 151 ⟨#[116, 97, 103, 115]⟩)
  have HH := Lib.hid hH
  have HT := Lib.hid hT
  clear hH hT
  go_enter Tryd.func4, Tryd.ntmps4
  go_wp2_with fail
  refine HN.out.mono ?_
  rintro e w1 ⟨p, rfl, _, hp1, hg1⟩
  have HW := Lib.hid (wrap_cells ⟨#[108, 105, 110, 107]⟩ (HH.out.grown hg1 (by simp)) ⟨_, _, hp1⟩)
  unfold errV at HW
  try unfold errV
  go_wp2_with fail
  refine HW.out.mono ?_
  rintro e w2 ⟨q, rfl, _, hq2, hg2⟩
  have hp2 := hp1.grown hg2 (by simp)
  have hG2 := only_trans hg1 hg2
  have HP := Lib.hid (path_two hq2 hp2)
  unfold errV at HP
  try unfold errV
  have HQ := Lib.hid hq2
  have HR := Lib.hid hp2
  clear hp1 hp2 hq2 hg2
  go_wp2_with fail
  refine HP.out.mono ?_
  rintro e w3 ⟨g, cap, rfl, hs0, hs1, hg3⟩
  have hG3 := only_trans hG2 hg3
  have hq3 := HQ.out.grown hg3 (by simp)
  have hp3 := HR.out.grown hg3 (by simp)
  have HC := Lib.hid (codeOf_err (HH.out.grown hG3 (by simp)) ⟨_, _, hq3⟩)
  unfold errV at HC
  try unfold errV
  have HQ3 := Lib.hid hq3
  have HR3 := Lib.hid hp3
  clear hq3 hp3
  go_wp2_with fail
  refine HC.out.mono ?_
  rintro e w4 ⟨rfl, hg4⟩
  have hG4 := only_trans hG3 hg4
  have d0 := (cell_stands hs0 hg4).trans hs0
  have d1 := (cell_stands hs1 hg4).trans hs1
  have HX := Lib.hid (text_two (HT.out.grown hG4) (HR3.out.grown hg4 (by simp)) (HQ3.out.grown hg4 (by simp)))
  unfold errV at HX
  try unfold errV
  clear hs0 hs1
  go_wp2_with fail
  refine HX.out.mono ?_
  rintro e w5 ⟨rfl, hg5⟩
  go_wp2_with fail
  go_ret
  exact ⟨rfl, only_trans hG4 hg5⟩
theorem wrap_nil (s : ByteArray) : Calls Tryd.prog 5 #[.string s, .nilIface] w fun e w' => e = .returned .nilIface ∧ w = w' := by
  go_enter Tryd.func5, Tryd.ntmps5
  go_wp2_with fail
  go_ret
  exact ⟨rfl, rfl⟩
theorem path_nil : Calls Tryd.prog 9 #[.nilIface] w fun e w' => e = .returned (.slice none 0 0) ∧ w = w' := by
  go_enter Tryd.func9, Tryd.ntmps9
  go_wp2_with fail
  refine wp_loop_rounds 1 ?_
  rw [rounds_succ]
  go_wp2_with fail
  go_ret
  exact ⟨rfl, rfl⟩
theorem text_nil : Calls Tryd.prog 10 #[.nilIface] w fun e w' => e = .returned (.string ⟨#[]⟩) ∧ w = w' := by
  go_enter Tryd.func10, Tryd.ntmps10
  go_wp2_with fail
  go_ret
  exact ⟨rfl, rfl⟩
theorem of_any (c : Int) : Calls Tryd.prog 13 #[.int .u8 c] w fun e w' => ∃ p, e = .returned (errV p) ∧ w.grownBy w' none := by
  go_enter Tryd.func13, Tryd.ntmps13
  go_wp2_with fail
  go_ret
  exact ⟨w.heap.size, rfl, only_alloc (only_refl _ _) _⟩
theorem neNil (v : Value) (w : World) : (binOp BinOp.eql 25 .nilIface (.iface 22 v)).run Tryd.prog w = .ok (.bool false) w := by kernel_rfl
theorem is_nil (p : Nat) : Calls Tryd.prog 17 #[.nilIface, errV p] w fun e w' => e = .returned (.bool false) ∧ w = w' := by
  have hE := neNil
  unfold errV
  go_enter Tryd.func17, Tryd.ntmps17
  go_wp2_with fail
  go_ret
  exact ⟨rfl, rfl⟩
theorem has_nil (c : Int) : Calls Tryd.prog 8 #[.nilIface, .int .u8 c] w fun e w' => e = .returned (.bool false) ∧ w.grownBy w' none := by
  have HO := Lib.hid (of_any (w := w) c)
  go_enter Tryd.func8, Tryd.ntmps8
  go_wp2_with fail
  refine HO.out.mono ?_
  rintro e w1 ⟨p, rfl, hg1⟩
  go_wp2_with fail
  refine (is_nil p).mono ?_
  rintro e w2 ⟨rfl, rfl⟩
  go_wp2_with fail
  go_ret
  exact ⟨rfl, hg1⟩
theorem unwrap_nil : Calls Tryd.prog 11 #[.pointer none] w fun e w' => e = .returned .nilIface ∧ w = w' := by
  go_enter Tryd.func11, Tryd.ntmps11
  go_wp2_with fail
  go_ret
  exact ⟨rfl, rfl⟩
theorem error_nil : Calls Tryd.prog 14 #[.pointer none] w fun e w' => e = .returned (.string ⟨#[]⟩) ∧ w = w' := by
  go_enter Tryd.func14, Tryd.ntmps14
  go_wp2_with fail
  go_ret
  exact ⟨rfl, rfl⟩
theorem isOf_nil (p : Nat) : Calls Tryd.prog 12 #[.pointer none, errV p] w fun e w' => e = .returned (.bool false) ∧ w.grownBy w' none := by
  have hF := isFault
  unfold errV
  go_enter Tryd.func12, Tryd.ntmps12
  go_wp2_with fail
  go_quiet (fail)
  go_wp2_with fail
  go_ret
  exact ⟨rfl, only_drewN (only_refl _ _) _⟩
theorem join_nil {g : Nat} (h0 : w.cell? ⟨g, 0, none⟩ = some .nilIface) (h1 : w.cell? ⟨g, 1, none⟩ = some .nilIface) : Calls Tryd.prog 6 #[.slice (some ⟨g, 0, none⟩) 2 2] w fun e w' => e = .returned .nilIface ∧ w = w' := by
  go_enter Tryd.func6, Tryd.ntmps6
  go_wp2_with fail
  refine wp_loop_rounds 3 ?_
  rw [rounds_succ]
  go_wp2_with fail
  rw [rounds_succ]
  go_wp2_with fail
  rw [rounds_succ]
  go_wp2_with fail
  go_ret
  exact ⟨rfl, rfl⟩
set_option maxHeartbeats 3200000 in
theorem nil_walk (hH : Hand w) (hT : Tab w) (wh : ByteArray) (c : Int) : Calls Tryd.prog 3 #[.string wh, .int .u8 c] w fun e w' => e = .returned (.bool true) ∧ w.grownBy w' none := by
  have H0 := Lib.hid (wakes3_any hH hT)
  go_enter Tryd.func3, Tryd.ntmps3
  go_wp2_with fail
  refine H0.out.mono ?_
  rintro e w1 ⟨rfl, hg1⟩
  go_wp2_with fail
  refine (wrap_nil wh).mono ?_
  rintro e w2 ⟨rfl, rfl⟩
  go_wp2_with fail
  refine (join_nil (g := w1.heap.size) (by simp) (by simp)).mono ?_
  rintro e w2 ⟨rfl, rfl⟩
  go_wp2_with fail
  refine codeOf_nil.mono ?_
  rintro e w2 ⟨rfl, rfl⟩
  go_wp2_with fail
  refine (has_nil c).mono ?_
  rintro e w2 ⟨rfl, hg2⟩
  go_wp2_with fail
  refine path_nil.mono ?_
  rintro e w3 ⟨rfl, rfl⟩
  go_wp2_with fail
  refine text_nil.mono ?_
  rintro e w3 ⟨rfl, rfl⟩
  go_wp2_with fail
  refine unwrap_nil.mono ?_
  rintro e w3 ⟨rfl, rfl⟩
  go_wp2_with fail
  refine (of_any c).mono ?_
  rintro e w3 ⟨p, rfl, hg3⟩
  go_wp2_with fail
  refine (isOf_nil p).mono ?_
  rintro e w4 ⟨rfl, hg4⟩
  go_wp2_with fail
  refine error_nil.mono ?_
  rintro e w5 ⟨rfl, rfl⟩
  go_wp2_with fail
  go_ret
  exact ⟨rfl, only_trans (only_trans (only_trans (only_alloc hg1 _) hg2) hg3) hg4⟩
end
end Go.Proofs.YtaolamdkmiionaaDoor
