/- THE WALK of the packet's reader at a PUBACK's four bytes. -/
import Derived.Test.YtcepfhnlbnlnhaaGreatDoorReads2
import Derived.BigQuiet
import Derived.Deep.QuietTactic
import Derived.Laws.Tables
namespace Go.Proofs.YtcepfhnlbnlnhaaGreatDoor
set_option maxRecDepth 100000
open Go.RowKit

section
variable {w : World} {rb : Nat}
theorem must_true : Calls Tryz.prog 70 #[.bool true] w fun e w' => e = .returned (.tuple #[]) ∧ w = w' := by
  go_enter Tryz.func70, Tryz.ntmps70
  go_wp2_with fail
  go_end0
  exact ⟨rfl, rfl⟩
set_option maxHeartbeats 800000 in
theorem rleft_any {s : ByteArray} {at_ : Nat} (hb : Blk w rb 128 #[.string s, .int .i64 (at_ : Int)]) : Calls Tryz.prog 94 #[.pointer (some ⟨rb, 0, none⟩)] w fun e w' => e = .returned (.bool (decide (at_ < s.size))) ∧ w.grownBy w' none := by
  have c0 := hb.cell 0
  have c1 := hb.cell 1
  go_enter Tryz.func94, Tryz.ntmps94
  go_wp2_with fail
  go_quiet (fail)
  go_wp2_with fail
  go_ret
  exact ⟨by simp, only_drewN (only_refl _ _) _⟩
theorem num_two : numAt ⟨#[0, 7]⟩ 0 2 = 7 := by decide
set_option maxHeartbeats 1600000 in
theorem rnumber_two (hb : Blk w rb 128 #[.string ⟨#[0, 7]⟩, .int .i64 0]) : Calls Tryz.prog 88 #[.pointer (some ⟨rb, 0, none⟩), .int .i64 2] w fun e w' => e = .returned (.int .i64 7) ∧ Blk w' rb 128 #[.string ⟨#[0, 7]⟩, .int .i64 2] ∧ w.grownBy w' (some rb) := by
  have c0 := hb.cell 0
  have c1 := hb.cell 1
  have G : ∀ W, Calls Tryz.prog 115 #[.string ⟨#[0, 7]⟩, .int .i64 0, .int .i64 2] W fun e w' => e = .returned (.tuple #[.int .i64 7, .int .i64 2, .int .u8 0]) ∧ w' = W := by
    intro W
    have h := get_ok ⟨#[0, 7]⟩ (by unfold maxLen; decide) 2 (.inr (.inl rfl)) 0 (by decide) W
    rw [num_two] at h
    exact h.mono fun _ _ h => ⟨h.1, h.2.symm⟩
  have HG := Lib.hid G
  clear G
  go_enter Tryz.func88, Tryz.ntmps88
  go_wp2_with fail
  go_quiet ((go_at_call 115; exact Calls.quiet_of_same (HG.out _)))
  rename_i nq
  have hb1 := hb.drewN nq
  have f1 := hb1.frozen 1
  have d1 := hb1.cell 1
  go_wp2_with (go_at_call 70; refine must_true.mono ?_; rintro e w' ⟨rfl, rfl⟩)
  go_ret
  exact ⟨rfl, hb1.put 1 _, only_put (only_drewN (only_refl _ _) _) 1 _⟩
theorem rid_seven (hb : Blk w rb 128 #[.string ⟨#[0, 7]⟩, .int .i64 0]) : Calls Tryz.prog 91 #[.pointer (some ⟨rb, 0, none⟩)] w fun e w' => e = .returned (.int .i64 7) ∧ Blk w' rb 128 #[.string ⟨#[0, 7]⟩, .int .i64 2] ∧ w.grownBy w' (some rb) := by
  have HN := Lib.hid (rnumber_two hb)
  go_enter Tryz.func91, Tryz.ntmps91
  go_wp2_with fail
  refine HN.out.mono ?_
  rintro e w1 ⟨rfl, h1, hg1⟩
  go_wp2_with fail
  go_ret
  exact ⟨rfl, h1, hg1⟩
theorem rend_none {v : Value} (hb : Blk w rb 128 #[.string ⟨#[0, 7]⟩, .int .i64 2]) : Calls Tryz.prog 92 #[.pointer (some ⟨rb, 0, none⟩), v] w fun e w' => e = .returned (.tuple #[]) ∧ w.grownBy w' none := by
  have HL : ∀ W, Blk W rb 128 #[.string ⟨#[0, 7]⟩, .int .i64 2] → Calls Tryz.prog 94 #[.pointer (some ⟨rb, 0, none⟩)] W fun e w' => e = .returned (.bool false) ∧ W.grownBy w' none := fun W h => rleft_any (at_ := 2) h
  have HL := Lib.hid HL
  have HB := Lib.hid hb
  clear hb
  go_enter Tryz.func92, Tryz.ntmps92
  go_wp2_with fail
  refine (HL.out w HB.out).mono ?_
  rintro e w1 ⟨rfl, hg1⟩
  go_wp2_with fail
  refine (HL.out w1 (HB.out.grown hg1 (by simp))).mono ?_
  rintro e w2 ⟨rfl, hg2⟩
  go_wp2_with fail
  go_end0
  exact ⟨rfl, only_trans hg1 hg2⟩
theorem ack_put : (ackV 4 0).setIfInBounds 4 (.int .i64 7) = ackV 4 7 := by rfl
set_option maxHeartbeats 1600000 in
theorem rbody_ack {pb : Nat} (hb : Blk w rb 128 #[.string ⟨#[0, 7]⟩, .int .i64 0]) (hp : Blk w pb 56 (ackV 4 0)) : Calls Tryz.prog 71 #[.pointer (some ⟨rb, 0, none⟩), .pointer (some ⟨pb, 0, none⟩)] w fun e w' => e = .returned (.tuple #[]) ∧ Blk w' pb 56 (ackV 4 7) ∧ Duo w w' rb pb := by
  have hne : pb ≠ rb := Blk.ne_ hp hb (by decide)
  have HI := Lib.hid (rid_seven hb)
  have c0 : w.cell? ⟨pb, 0, none⟩ = some (.int .i64 4) := hp.cell 0
  have hpl := hp.lt
  have HE : ∀ W, Blk W rb 128 #[.string ⟨#[0, 7]⟩, .int .i64 2] → Calls Tryz.prog 92 #[.pointer (some ⟨rb, 0, none⟩), .pointer (some ⟨pb, 0, none⟩)] W fun e w' => e = .returned (.tuple #[]) ∧ W.grownBy w' none := fun W h => rend_none h
  have HE := Lib.hid HE
  have HL : ∀ W, Blk W rb 128 #[.string ⟨#[0, 7]⟩, .int .i64 2] → Calls Tryz.prog 94 #[.pointer (some ⟨rb, 0, none⟩)] W fun e w' => e = .returned (.bool false) ∧ W.grownBy w' none := fun W h => rleft_any (at_ := 2) h
  have HL := Lib.hid HL
  have HP := Lib.hid hp
  clear hp hb
  go_enter Tryz.func71, Tryz.ntmps71
  go_wp2_with fail
  refine HI.out.mono ?_
  rintro e w1 ⟨rfl, h1, hg1⟩
  have hp1 := HP.out.grown hg1 (by simpa using hne)
  have d4 := hp1.cell 4
  have f4 := hp1.frozen 4
  have hp2 := hp1.put 4 (.int .i64 7)
  rw [ack_put] at hp2
  have h2 := h1.far (p := ⟨pb, 4, none⟩) (Ne.symm hne) (.int .i64 7)
  have hg2 : w1.grownBy (w1.setCell ⟨pb, 4, none⟩ (.int .i64 7)) (some pb) := only_put (only_refl _ _) 4 _
  have HP2 := Lib.hid hp2
  have H2 := Lib.hid h2
  have HG2 := Lib.hid hg2
  clear hp1 hp2 h2 hg2 h1
  go_wp2_with fail
  refine (HE.out _ H2.out).mono ?_
  rintro e w3 ⟨rfl, hg3⟩
  have h3 := H2.out.grown hg3 (by simp)
  go_wp2_with fail
  refine (HL.out _ h3).mono ?_
  rintro e w4 ⟨rfl, hg4⟩
  go_wp2_with (go_at_call 70; refine must_true.mono ?_; rintro e w' ⟨rfl, rfl⟩)
  go_end0
  have hg34 := only_trans hg3 hg4
  exact ⟨rfl, HP2.out.grown hg34 (by simp), ((Duo.of_left hg1).trans (Duo.of_right HG2.out)).trans (Duo.of_none hg34)⟩
end
end Go.Proofs.YtcepfhnlbnlnhaaGreatDoor
