/- THE WALKS of Add, Sync and Compact. -/
import Derived.Test.YtklcpckjmncdkaaGreatDoorOps
namespace Go.Proofs.YtklcpckjmncdkaaGreatDoor
set_option maxRecDepth 100000
open Go.RowKit

section
variable {w : World} {g jb : Nat} {D : Dk} {J : Jr}
theorem isErr_yes {v : Value} {c : Nat} (hc : c ≠ 0) (h : IsErr w v c) : ∃ p, v = .iface 153 (.pointer (some ⟨p, 0, none⟩)) ∧ Faulty w p c := by
  rcases h with ⟨h0, _⟩ | ⟨_, p, hv, hf⟩
  · exact absurd h0 hc
  · exact ⟨p, hv, hf⟩
theorem isErr_no {v : Value} (h : IsErr w v 0) : v = .nilIface := by
  rcases h with ⟨_, hv⟩ | ⟨h0, _⟩
  · exact hv
  · exact absurd rfl h0
theorem isErr_of {p c : Nat} (hc : c ≠ 0) (hf : Faulty w p c) : IsErr w (.iface 153 (.pointer (some ⟨p, 0, none⟩))) c := .inr ⟨hc, p, rfl, hf⟩

set_option maxHeartbeats 1600000 in
theorem add_any (hH : Hand w) (hj0 : 0 < jb) (hg0 : 0 < g) (h : DiskAt w g D) (hj : JrAt w jb g J) (b : ByteArray) (hb : b.size ≤ 100000000000) :
    Calls Tryz.prog 11 #[.pointer (some ⟨jb, 0, none⟩), .string b] w (IsLay (jadd D J b) g jb w) := by
  have hM := Lib.hid (may_any hH hj)
  have hjg := hj.ne h
  cases hbr : J.broken with
  | true =>
    have e : jadd D J b = (242, D, J) := by unfold jadd; rw [if_pos hbr]
    rw [e]
    rw [hbr, if_pos rfl] at hM
    go_enter Tryz.func11, Tryz.ntmps11
    go_wp2_with fail
    refine hM.out.mono ?_
    rintro e w1 ⟨v1, rfl, he, hg1⟩
    obtain ⟨p, rfl, hf⟩ := isErr_yes (by decide) he
    go_wp2_with fail
    go_returns
    exact ⟨_, rfl, he, h.grown hg1, hj.grown hg1 (by simp), Duo.of_none hg1⟩
  | false =>
    rw [hbr, if_neg (by decide)] at hM
    have hF := Lib.hid (fun W => frame_any (markR ++ b) (by rw [markR, append1_size]; unfold maxLen; omega) W)
    have hFs := frameR_size (s := markR ++ b)
    unfold jadd
    rw [if_neg (by rw [hbr]; decide)]
    generalize frameR (markR ++ b) = f at *
    obtain ⟨fb, fc⟩ := f
    simp only at hF hFs ⊢
    unfold markR at hF
    have hsz : ¬ 9223372036854775807 < 1 + b.size := by omega
    by_cases hc : fc = 0
    · subst hc
      rw [if_neg (by simp)]
      have hfb := hFs rfl
      have hA := fun (W : World) (hd : DiskAt W g D) => append_any hd J.file fb (by unfold maxLen; omega)
      generalize D.append J.file fb = r at *
      obtain ⟨rc, rD⟩ := r
      simp only at hA ⊢
      have HA := Lib.hid hA
      have HD := Lib.hid h
      have HJ := Lib.hid hj
      have HH := Lib.hid hH
      clear hA h hj hH hb hFs
      go_enter Tryz.func11, Tryz.ntmps11
      go_wp2_with fail
      refine hM.out.mono ?_
      rintro e w1 ⟨v1, rfl, he, hg1⟩
      obtain rfl := isErr_no he
      go_wp2_with fail
      refine (hF.out _).mono ?_
      rintro e w2 ⟨rfl, hb2⟩
      have hg2 := only_trans hg1 (grown_below hb2 (Nat.le_refl _))
      have hJ2 := HJ.out.grown hg2 (by simp)
      have hD2 := (HD.out.grown hg2).grown (only_drew (only_refl w2 none))
      have hH2 := HH.out.grown hg2 (by simp)
      obtain ⟨c0, c1, c2, c3⟩ := hJ2.cells
      go_wp2_with fail
      go_region_held3 (fun w' => w'.cell? ⟨jb, 0, none⟩ = some (.pointer (some ⟨g, 0, none⟩)) ∧ w'.cell? ⟨jb, 1, none⟩ = some (.int .i64 J.file)) (first | go_keep | assumption | exact ⟨by assumption, by assumption⟩)
        (first
          | (go_at_call 17; refine (HA.out _ hD2).mono ?_; rintro e w3 ⟨rfl, hd3, ho3⟩; have hJ3 := (hJ2.grown (only_drew (only_refl w2 none)) (by simp)).grown ho3 (by simpa using hjg); have hH3 := (hH2.grown (only_drew (only_refl w2 none)) (by simp)).grown ho3 (by simp; omega); have k0 := hJ3.cells.1; have k1 := hJ3.cells.2.1)
          | (go_at_call 41; refine (done_any hH3 hj0 hJ3 rc).mono ?_; rintro e w4 ⟨v4, rfl, he4, hj4, hg4⟩; have m0 : w4.cell? ⟨jb, 0, none⟩ = some (.pointer (some ⟨g, 0, none⟩)) := hj4.cells.1; have m1 : w4.cell? ⟨jb, 1, none⟩ = some (.int .i64 J.file) := hj4.cells.2.1))
      go_wp2_with fail
      go_returns
      exact ⟨v4, rfl, he4, hd3.far hJ3.blk (by decide) (by omega) hg4, hj4, (Duo.of_none hg2).trans ((Duo.of_none (only_drew (only_refl w2 none))).trans ((Duo.of_left ho3).trans (Duo.of_right hg4)))⟩
    · rw [if_pos hc]
      have hcb : ((fc : Int) != 0) = true := by simp [hc]
      have hG := Lib.hid (fun (W : World) (hW : Hand W) => failed_any (c := fc) ⟨#[102, 114, 97, 109, 101]⟩ hW)
      clear hFs hb
      go_enter Tryz.func11, Tryz.ntmps11
      go_wp2_with fail
      refine hM.out.mono ?_
      rintro e w1 ⟨v1, rfl, he, hg1⟩
      obtain rfl := isErr_no he
      go_wp2_with fail
      refine (hF.out _).mono ?_
      rintro e w2 ⟨rfl, hb2⟩
      have hg2 := only_trans hg1 (grown_below hb2 (Nat.le_refl _))
      go_wp2_with fail
      refine (hG.out _ (hH.grown hg2 (by simp))).mono ?_
      rintro e w3 ⟨v3, rfl, he3, hg3⟩
      go_wp2_with fail
      go_returns
      have hgg := only_trans hg2 hg3
      exact ⟨v3, rfl, he3, h.grown hgg, hj.grown hgg (by simp), Duo.of_none hgg⟩
set_option maxHeartbeats 1600000 in
theorem jsync_any (hH : Hand w) (hj0 : 0 < jb) (hg0 : 0 < g) (h : DiskAt w g D) (hj : JrAt w jb g J) :
    Calls Tryz.prog 12 #[.pointer (some ⟨jb, 0, none⟩)] w (IsLay (jsync D J) g jb w) := by
  have hM := Lib.hid (may_any hH hj)
  have hjg := hj.ne h
  cases hbr : J.broken with
  | true =>
    have e : jsync D J = (242, D, J) := by unfold jsync; rw [if_pos hbr]
    rw [e]
    rw [hbr, if_pos rfl] at hM
    go_enter Tryz.func12, Tryz.ntmps12
    go_wp2_with fail
    refine hM.out.mono ?_
    rintro e w1 ⟨v1, rfl, he, hg1⟩
    obtain ⟨p, rfl, hf⟩ := isErr_yes (by decide) he
    go_wp2_with fail
    go_returns
    exact ⟨_, rfl, he, h.grown hg1, hj.grown hg1 (by simp), Duo.of_none hg1⟩
  | false =>
    rw [hbr, if_neg (by decide)] at hM
    unfold jsync
    rw [if_neg (by rw [hbr]; decide)]
    have hA := fun (W : World) (hd : DiskAt W g D) => sync_any hd J.file
    generalize D.doSync J.file = r at *
    obtain ⟨rc, rD⟩ := r
    simp only at hA ⊢
    have HA := Lib.hid hA
    have HD := Lib.hid h
    have HJ := Lib.hid hj
    have HH := Lib.hid hH
    clear hA h hj hH
    go_enter Tryz.func12, Tryz.ntmps12
    go_wp2_with fail
    refine hM.out.mono ?_
    rintro e w2 ⟨v1, rfl, he, hg2⟩
    obtain rfl := isErr_no he
    have hJ2 := HJ.out.grown hg2 (by simp)
    have hD2 := (HD.out.grown hg2).grown (only_drew (only_refl w2 none))
    have hH2 := HH.out.grown hg2 (by simp)
    obtain ⟨c0, c1, c2, c3⟩ := hJ2.cells
    go_wp2_with fail
    go_region_held3 (fun w' => w'.cell? ⟨jb, 0, none⟩ = some (.pointer (some ⟨g, 0, none⟩)) ∧ w'.cell? ⟨jb, 1, none⟩ = some (.int .i64 J.file)) (first | go_keep | assumption | exact ⟨by assumption, by assumption⟩)
      (first
        | (go_at_call 19; refine (HA.out _ hD2).mono ?_; rintro e w3 ⟨rfl, hd3, ho3⟩; have hJ3 := (hJ2.grown (only_drew (only_refl w2 none)) (by simp)).grown ho3 (by simpa using hjg); have hH3 := (hH2.grown (only_drew (only_refl w2 none)) (by simp)).grown ho3 (by simp; omega); have k0 := hJ3.cells.1; have k1 := hJ3.cells.2.1)
        | (go_at_call 41; refine (done_any hH3 hj0 hJ3 rc).mono ?_; rintro e w4 ⟨v4, rfl, he4, hj4, hg4⟩; have m0 : w4.cell? ⟨jb, 0, none⟩ = some (.pointer (some ⟨g, 0, none⟩)) := hj4.cells.1; have m1 : w4.cell? ⟨jb, 1, none⟩ = some (.int .i64 J.file) := hj4.cells.2.1))
    go_wp2_with fail
    go_returns
    exact ⟨v4, rfl, he4, hd3.far hJ3.blk (by decide) (by omega) hg4, hj4, (Duo.of_none hg2).trans ((Duo.of_none (only_drew (only_refl w2 none))).trans ((Duo.of_left ho3).trans (Duo.of_right hg4)))⟩
set_option maxHeartbeats 1600000 in
theorem compact_any (hH : Hand w) (hj0 : 0 < jb) (hg0 : 0 < g) (h : DiskAt w g D) (hj : JrAt w jb g J) (s : ByteArray) (hs : s.size ≤ 100000000000) :
    Calls Tryz.prog 13 #[.pointer (some ⟨jb, 0, none⟩), .string s] w (IsLay (jcompact D J s) g jb w) := by
  have hM := Lib.hid (may_any hH hj)
  cases hbr : J.broken with
  | true =>
    have e : jcompact D J s = (242, D, J) := by unfold jcompact; rw [if_pos hbr]
    rw [e]
    rw [hbr, if_pos rfl] at hM
    go_enter Tryz.func13, Tryz.ntmps13
    go_wp2_with fail
    refine hM.out.mono ?_
    rintro e w1 ⟨v1, rfl, he, hg1⟩
    obtain ⟨p, rfl, hf⟩ := isErr_yes (by decide) he
    go_wp2_with fail
    go_returns
    exact ⟨_, rfl, he, h.grown hg1, hj.grown hg1 (by simp), Duo.of_none hg1⟩
  | false =>
    rw [hbr, if_neg (by decide)] at hM
    unfold jcompact
    rw [if_neg (by rw [hbr]; decide)]
    have HL := Lib.hid (fun (W : World) (h1 : Hand W) (h2 : DiskAt W g D) (h3 : JrAt W jb g J) => lay_any h1 hg0 hj0 h2 h3 s hs (.slice none 0 0) [] (StrsAt.nil _ _) (by simp) (by simp))
    generalize jlay D J s [] = r at *
    go_enter Tryz.func13, Tryz.ntmps13
    go_wp2_with fail
    refine hM.out.mono ?_
    rintro e w1 ⟨v1, rfl, he, hg1⟩
    obtain rfl := isErr_no he
    go_wp2_with fail
    refine (HL.out w1 (hH.grown hg1 (by simp)) (h.grown hg1) (hj.grown hg1 (by simp))).mono ?_
    rintro e w2 ⟨v2, rfl, he2, hd2, hj2, hduo⟩
    go_wp2_with fail
    go_returns
    exact ⟨v2, rfl, he2, hd2, hj2, (Duo.of_none hg1).trans hduo⟩
end
end Go.Proofs.YtklcpckjmncdkaaGreatDoor
