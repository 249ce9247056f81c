/- THE WALKS of the document's lay, Add, Sync, Compact: the same as the program's, over the document's disk. -/
import Derived.Test.YtklcpckjmncdkaaGreatDoorRRead
import Derived.Test.YtklcpckjmncdkaaGreatDoorRAsk
import Derived.Test.YtklcpckjmncdkaaGreatDoorOpenM
namespace Go.Proofs.YtklcpckjmncdkaaGreatDoor
set_option maxRecDepth 100000
open Go.RowKit

structure RJrAt (w : World) (jb g : Nat) (J : Jr) : Prop where
  blk : Blk w jb 72 (jrCells g J)
  file : J.file = 0 ∨ J.file = 1
  gen : J.gen < 4294967296
theorem RJrAt.cells {w : World} {jb g : Nat} {J : Jr} (h : RJrAt w jb g J) : w.cell? ⟨jb, 0, none⟩ = some (.pointer (some ⟨g, 0, none⟩)) ∧ w.cell? ⟨jb, 1, none⟩ = some (.int .i64 J.file) ∧ w.cell? ⟨jb, 2, none⟩ = some (.int .i64 (J.gen : Int)) ∧ w.cell? ⟨jb, 3, none⟩ = some (.bool J.broken) :=
  ⟨h.blk.cell 0, h.blk.cell 1, h.blk.cell 2, h.blk.cell 3⟩
theorem RJrAt.grown {w w' : World} {jb g : Nat} {J : Jr} {row : Option Nat} (h : RJrAt w jb g J) (hb : w.grownBy w' row) (hr : some jb ≠ row) : RJrAt w' jb g J := ⟨h.blk.grown hb hr, h.file, h.gen⟩
theorem RJrAt.ne {w : World} {jb g : Nat} {J : Jr} {D : Dk} (h : RJrAt w jb g J) (hd : RDiskAt w g D) : jb ≠ g := by
  obtain ⟨⟨kv, hb, _⟩, _⟩ := hd
  exact Blk.ne_ h.blk hb (by decide)
theorem RJrAt.same {w : World} {jb g : Nat} {J : Jr} {b : Bool} (h : RJrAt w jb g J) (hb : J.broken = b) : RJrAt w jb g { J with broken := b } := by
  subst hb
  exact h
/-- What a call of the document's journal comes to. -/
def IsRLay (r : Nat × Dk × Jr) (g jb : Nat) (w : World) (e : Ending) (w' : World) : Prop :=
  e = .returned (.int .i64 (r.1 : Int)) ∧ RDiskAt w' g r.2.1 ∧ RJrAt w' jb g r.2.2 ∧ Duo w w' g jb

section
variable {w : World} {g jb : Nat} {D : Dk} {J : Jr}
set_option maxHeartbeats 1600000 in
theorem radd_any (h : RDiskAt w g D) (hj : RJrAt w jb g J) (b : ByteArray) (hb : b.size ≤ 100000000000) :
    Calls Tryz.prog 29 #[.pointer (some ⟨jb, 0, none⟩), .string b] w (IsRLay (jadd D J b) g jb w) := by
  have hjg := hj.ne h
  have hjl := hj.blk.lt
  obtain ⟨c0, c1, c2, c3⟩ := hj.cells
  cases hbr : J.broken with
  | true =>
    have e : jadd D J b = (242, D, J) := by unfold jadd; rw [if_pos hbr]
    rw [e]
    rw [hbr] at c3
    go_enter Tryz.func29, Tryz.ntmps29
    go_wp2_with fail
    go_ret
    exact ⟨rfl, h, hj, Duo.refl _ _ _⟩
  | false =>
    rw [hbr] at c3
    have hF := Lib.hid (fun W => rframe_any (markR ++ b) (by rw [markR, append1_size]; unfold maxLen; omega) W)
    have hFs := frameR_size (s := markR ++ b)
    unfold jadd
    rw [if_neg (by rw [hbr]; decide)]
    generalize frameR (markR ++ b) = f at *
    obtain ⟨fb, fc⟩ := f
    simp only at hF hFs ⊢
    unfold markR at hF
    have hsz : ¬ 9223372036854775807 < 1 + b.size := by omega
    by_cases hc : fc = 0
    · subst hc
      rw [if_neg (by simp)]
      have hfb := hFs rfl
      have hA := fun (W : World) (hd : RDiskAt W g D) => rappend_any hd J.file fb (by omega)
      generalize D.append J.file fb = r at *
      obtain ⟨rc, rD⟩ := r
      simp only at hA ⊢
      have HA := Lib.hid hA
      have HD := Lib.hid h
      have HJ := Lib.hid hj
      clear hA h hj hb hFs
      go_enter Tryz.func29, Tryz.ntmps29
      go_wp2_with fail
      refine (hF.out _).mono ?_
      rintro e w2 ⟨rfl, hb2⟩
      have hg2 := grown_below hb2 (Nat.le_refl _)
      have hJ2 := HJ.out.grown hg2 (by simp)
      have hD2 := (HD.out.grown hg2).grown (only_drew (only_refl w2 none))
      obtain ⟨d0, d1, d2, d3⟩ := hJ2.cells
      go_wp2_with fail
      go_region_held3 (fun w' => w'.cell? ⟨jb, 0, none⟩ = some (.pointer (some ⟨g, 0, none⟩)) ∧ w'.cell? ⟨jb, 1, none⟩ = some (.int .i64 J.file)) (first | go_keep | assumption | exact ⟨by assumption, by assumption⟩)
        (first
          | (go_at_call 18; refine (HA.out _ hD2).mono ?_; rintro e w3 ⟨rfl, hd3, ho3⟩; have hJ3 := (hJ2.grown (only_drew (only_refl w2 none)) (by simp)).grown ho3 (by simpa using hjg); have k0 := hJ3.cells.1; have k1 := hJ3.cells.2.1))
      obtain ⟨m0, m1, m2, m3⟩ := hJ3.cells
      have mf := fun i => hJ3.blk.frozen i
      have ml := hJ3.blk.lt
      have hDuo : Duo w w3 g jb := (Duo.of_none (only_drew hg2)).trans (Duo.of_left ho3)
      by_cases hrc : rc = 0
      · subst hrc
        go_wp2_with fail
        go_ret
        exact ⟨rfl, hd3, hJ3.same (by simp), hDuo⟩
      · have hrb : ((rc : Int) != 0) = true := by simp [hrc]
        go_wp2_with fail
        go_ret
        exact ⟨rfl, hd3.far hJ3.blk (by decide) (Ne.symm hjg) (only_put (only_refl w3 (some jb)) 3 _), ⟨by simpa [hbr, hrc, jrCells] using hJ3.blk.put 3 (.bool true), hJ3.file, hJ3.gen⟩, hDuo.trans (Duo.of_right (only_put (only_refl w3 (some jb)) 3 _))⟩
    · rw [if_pos hc]
      have hcb : ((fc : Int) != 0) = true := by simp [hc]
      go_enter Tryz.func29, Tryz.ntmps29
      go_wp2_with fail
      refine (hF.out _).mono ?_
      rintro e w2 ⟨rfl, hb2⟩
      have hg2 := grown_below hb2 (Nat.le_refl _)
      go_wp2_with fail
      go_ret
      exact ⟨rfl, h.grown hg2, hj.grown hg2 (by simp), Duo.of_none hg2⟩
set_option maxHeartbeats 1600000 in
theorem rjsync_any (h : RDiskAt w g D) (hj : RJrAt w jb g J) :
    Calls Tryz.prog 26 #[.pointer (some ⟨jb, 0, none⟩)] w (IsRLay (jsync D J) g jb w) := by
  have hjg := hj.ne h
  have hjl := hj.blk.lt
  obtain ⟨c0, c1, c2, c3⟩ := hj.cells
  cases hbr : J.broken with
  | true =>
    have e : jsync D J = (242, D, J) := by unfold jsync; rw [if_pos hbr]
    rw [e]
    rw [hbr] at c3
    go_enter Tryz.func26, Tryz.ntmps26
    go_wp2_with fail
    go_ret
    exact ⟨rfl, h, hj, Duo.refl _ _ _⟩
  | false =>
    rw [hbr] at c3
    unfold jsync
    rw [if_neg (by rw [hbr]; decide)]
    have hA := fun (W : World) (hd : RDiskAt W g D) => rsync_any hd J.file
    generalize D.doSync J.file = r at *
    obtain ⟨rc, rD⟩ := r
    simp only at hA ⊢
    have HA := Lib.hid hA
    have HD := Lib.hid h
    have HJ := Lib.hid hj
    clear hA h hj
    have hD2 := HD.out.grown (only_drew (only_refl w none))
    go_enter Tryz.func26, Tryz.ntmps26
    go_wp2_with fail
    go_region_held3 (fun w' => w'.cell? ⟨jb, 0, none⟩ = some (.pointer (some ⟨g, 0, none⟩)) ∧ w'.cell? ⟨jb, 1, none⟩ = some (.int .i64 J.file)) (first | go_keep | assumption | exact ⟨by assumption, by assumption⟩)
      (first
        | (go_at_call 20; refine (HA.out _ hD2).mono ?_; rintro e w3 ⟨rfl, hd3, ho3⟩; have hJ3 := (HJ.out.grown (only_drew (only_refl w none)) (by simp)).grown ho3 (by simpa using hjg); have k0 := hJ3.cells.1; have k1 := hJ3.cells.2.1))
    obtain ⟨m0, m1, m2, m3⟩ := hJ3.cells
    have mf := fun i => hJ3.blk.frozen i
    have ml := hJ3.blk.lt
    have hDuo : Duo w w3 g jb := (Duo.of_none (only_drew (only_refl w none))).trans (Duo.of_left ho3)
    by_cases hrc : rc = 0
    · subst hrc
      go_wp2_with fail
      go_ret
      exact ⟨rfl, hd3, hJ3.same (by simp), hDuo⟩
    · have hrb : ((rc : Int) != 0) = true := by simp [hrc]
      go_wp2_with fail
      go_ret
      exact ⟨rfl, hd3.far hJ3.blk (by decide) (Ne.symm hjg) (only_put (only_refl w3 (some jb)) 3 _), ⟨by simpa [hbr, hrc, jrCells] using hJ3.blk.put 3 (.bool true), hJ3.file, hJ3.gen⟩, hDuo.trans (Duo.of_right (only_put (only_refl w3 (some jb)) 3 _))⟩
end
end Go.Proofs.YtklcpckjmncdkaaGreatDoor
