/- THE WALK of the document's lay, and Compact. -/
import Derived.Test.YtklcpckjmncdkaaGreatDoorRLay
namespace Go.Proofs.YtklcpckjmncdkaaGreatDoor
set_option maxRecDepth 100000
open Go.RowKit

section
variable {w : World} {g jb : Nat} {D : Dk} {J : Jr}
/-- The document's three calls of the disk, behind the frames. -/
theorem three_clear {D : Dk} {n : Int} {s : ByteArray} (h : (D.doClear n).1 ≠ 0) : three D n s = D.doClear n := by unfold three; rw [if_pos h]
theorem three_app {D : Dk} {n : Int} {s : ByteArray} (h : (D.doClear n).1 = 0) (h2 : ((D.doClear n).2.append n s).1 ≠ 0) : three D n s = (D.doClear n).2.append n s := by unfold three; rw [if_neg (by simpa using h), if_pos h2]
theorem three_sync {D : Dk} {n : Int} {s : ByteArray} (h : (D.doClear n).1 = 0) (h2 : ((D.doClear n).2.append n s).1 = 0) : three D n s = ((D.doClear n).2.append n s).2.doSync n := by unfold three; rw [if_neg (by simpa using h), if_neg (by simpa using h2)]
theorem jlay_bad {D : Dk} {J : Jr} {s : ByteArray} {recs : List ByteArray} {F : Nat × List UInt8} (hg : ¬ 2147483647 ≤ J.gen) (hF : lframes 0 (texts J.gen s recs) [] = F) (h : F.1 ≠ 0) : jlay D J s recs = (F.1, D, J) := by
  unfold jlay; rw [if_neg hg]; simp only [hF]; rw [if_pos h]
theorem jlay_ok {D : Dk} {J : Jr} {s : ByteArray} {recs : List ByteArray} {all : ByteArray} (hg : ¬ 2147483647 ≤ J.gen) (hF : lframes 0 (texts J.gen s recs) [] = (0, all.data.toList)) :
    jlay D J s recs = if (three D (1 - J.file) all).1 ≠ 0 then ((three D (1 - J.file) all).1, (three D (1 - J.file) all).2, { J with broken := true }) else (0, (three D (1 - J.file) all).2, { J with file := 1 - J.file, gen := J.gen + 1 }) := by
  unfold jlay
  rw [if_neg hg]
  simp only [hF]
  rw [if_neg (by simp)]
theorem lframes_cons (i : Nat) (b : ByteArray) (l : List ByteArray) (acc : List UInt8) : lframes i (b :: l) acc = if (frameR (lbody i b)).2 = 0 then lframes (i + 1) l (acc ++ (frameR (lbody i b)).1.data.toList) else ((frameR (lbody i b)).2, acc) := rfl
set_option maxHeartbeats 3200000 in
theorem rlay_full (h : RDiskAt w g D) (hj : RJrAt w jb g J) (s : ByteArray) (v : Value) (recs : List ByteArray) (hg : 2147483647 ≤ J.gen) :
    Calls Tryz.prog 54 #[.pointer (some ⟨jb, 0, none⟩), .string s, v] w (IsRLay (jlay D J s recs) g jb w) := by
  have hR : jlay D J s recs = (241, D, J) := by unfold jlay; rw [if_pos hg]
  rw [hR]
  obtain ⟨c0, c1, c2, c3⟩ := hj.cells
  have hgi : (2147483647 : Int) ≤ (J.gen : Int) := by omega
  go_enter Tryz.func54, Tryz.ntmps54
  go_wp2_with fail
  go_ret
  exact ⟨rfl, h, hj, Duo.refl _ _ _⟩
set_option maxHeartbeats 6400000 in
theorem rlay_main (h : RDiskAt w g D) (hj : RJrAt w jb g J) (s : ByteArray) (hs : s.size ≤ 100000000000) (v : Value) (recs : List ByteArray) (hv : StrsAt w 0 v recs) (hn : recs.length ≤ 16777216)
    (hr : ∀ r ∈ recs, r.size ≤ 100000000000) (hg : ¬ 2147483647 ≤ J.gen) :
    Calls Tryz.prog 54 #[.pointer (some ⟨jb, 0, none⟩), .string s, v] w (IsRLay (jlay D J s recs) g jb w) := by
  have hjg := hj.ne h
  have hjl := hj.blk.lt
  obtain ⟨c0, c1, c2, c3⟩ := hj.cells
  have hF0 : ∃ F, lframes 0 (texts J.gen s recs) [] = F := ⟨_, rfl⟩
  obtain ⟨F, hF⟩ := hF0
  have hbad := jlay_bad (D := D) hg hF
  have hok : ∀ all : ByteArray, F = (0, all.data.toList) → _ := fun all hh => jlay_ok (D := D) (all := all) hg (hF.trans hh)
  have hgi : ¬ (2147483647 : Int) ≤ (J.gen : Int) := by omega
  have hgw : IntKind.i64.wrap ((J.gen : Int) + 1) = (((J.gen + 1 : Nat)) : Int) := by rw [IntWalk.i64_in _ (by omega)]; rfl
  have hlw : IntKind.i64.wrap (1 + (recs.length : Int)) = (((1 + recs.length : Nat)) : Int) := by rw [IntWalk.i64_in _ (by omega)]; simp
  have HHd := Lib.hid (fun W => rhead_any (J.gen + 1) (1 + recs.length) (by omega) (by omega) W)
  have hz0 : (⟨(headL (J.gen + 1) (1 + recs.length)).toArray⟩ : ByteArray).size = 16 := by show (headL _ _).toArray.size = 16; simp [headL_length]
  unfold texts at hF
  rw [lframes_cons] at hF
  have el0 : lbody 0 (⟨(headL (J.gen + 1) (1 + recs.length)).toArray⟩ : ByteArray) = ⟨(headL (J.gen + 1) (1 + recs.length)).toArray⟩ := rfl
  rw [el0] at hF
  generalize (⟨(headL (J.gen + 1) (1 + recs.length)).toArray⟩ : ByteArray) = hd at *
  have hF1 := Lib.hid (fun W => rframe_any hd (by unfold maxLen; omega) W)
  have hc0 : (frameR hd).2 = 0 := by unfold frameR; rw [if_neg (by omega), if_neg (by omega)]
  have hs0 := frameR_size hc0
  rw [if_pos hc0] at hF
  generalize frameR hd = f0 at *
  obtain ⟨fb0, fc0⟩ := f0
  simp only at hc0
  subst hc0
  simp only [List.nil_append] at hF hF1 hs0
  rw [lframes_cons] at hF
  have el1 : lbody 1 (markS ++ s) = markS ++ s := rfl
  rw [el1] at hF
  have hF2 := Lib.hid (fun W => rframe_any (markS ++ s) (by rw [markS, append1_size]; unfold maxLen; omega) W)
  have hs1 := frameR_size (s := markS ++ s)
  have hk1 := frameR_code (markS ++ s)
  generalize frameR (markS ++ s) = f1 at *
  obtain ⟨fb1, fc1⟩ := f1
  simp only at hF hF2 hs1 hk1
  unfold markS at hF2
  have hsz : ¬ 9223372036854775807 < 1 + s.size := by omega
  obtain ⟨A, cc, rfl, hle, hcm, hat⟩ := hv.at_
  have HD := Lib.hid h
  have HJ := Lib.hid hj
  have HV := Lib.hid hv
  by_cases hc1 : fc1 ≠ 0
  · rw [if_neg hc1] at hF
    have hR := hbad (by rw [← hF]; exact hc1)
    rw [← hF] at hR
    rw [hR]
    have hcb : ((fc1 : Int) != 0) = true := by simp [hc1]
    clear hbad hok hat
    go_enter Tryz.func54, Tryz.ntmps54
    go_wp2_with fail
    refine (HHd.out _).mono ?_
    rintro e w1 ⟨rfl, hw1⟩
    go_wp2_with fail
    refine (hF1.out _).mono ?_
    rintro e w2 ⟨rfl, hw2⟩
    go_wp2_with fail
    refine (hF2.out _).mono ?_
    rintro e w3 ⟨rfl, hw3⟩
    have hg3 := only_trans (only_trans (grown_below hw1 (Nat.le_refl _)) (grown_below hw2 (Nat.le_refl _))) (grown_below hw3 (Nat.le_refl _))
    go_wp2_with fail
    go_ret
    exact ⟨rfl, h.grown hg3, hj.grown hg3 (by simp), Duo.of_none hg3⟩
  obtain rfl : fc1 = 0 := by omega
  have hs1' := hs1 rfl
  rw [if_pos rfl] at hF
  clear hc1 hs1
  have ha01 : ¬ 9223372036854775807 < fb0.size + fb1.size := by omega
  have hF' : lframes 2 recs (fb0 ++ fb1).data.toList = F := by
    rw [ByteArray.data_append]; simpa using hF
  have Hbad := Lib.hid hbad
  have Hok := Lib.hid hok
  have HF := Lib.hid hF'
  have HR := Lib.hid hr
  have Hat := Lib.hid hat
  clear hbad hok hat hF hF' hr h hj hv
  go_enter Tryz.func54, Tryz.ntmps54
  go_wp2_with fail
  refine (HHd.out _).mono ?_
  rintro e w1 ⟨rfl, hw1⟩
  go_wp2_with fail
  refine (hF1.out _).mono ?_
  rintro e w2 ⟨rfl, hw2⟩
  go_wp2_with fail
  refine (hF2.out _).mono ?_
  rintro e w3 ⟨rfl, hw3⟩
  have hg3 := only_trans (only_trans (grown_below hw1 (Nat.le_refl _)) (grown_below hw2 (Nat.le_refl _))) (grown_below hw3 (Nat.le_refl _))
  go_wp2_with fail
  clear c0 c1 c2 c3
  go_loopw [8, 12] (fun av iv wr => ∃ (m : Nat) (all : ByteArray), av = .string all ∧ iv = .int .i64 (m : Int) ∧ m ≤ recs.length ∧ w.grownBy wr none ∧ lframes (2 + m) (recs.drop m) all.data.toList = F ∧ all.size ≤ 131078 * (m + 2)) (fun _ iv _ => recs.length - (intOf iv).toNat)
  case atStart => exact ⟨0, fb0 ++ fb1, rfl, rfl, Nat.zero_le _, hg3, HF.out, by rw [ByteArray.size_append]; omega⟩
  case round =>
    obtain ⟨m, all, rfl, rfl, hm, hgr, hFr, hal⟩ := hrel
    have hJr := HJ.out.grown hgr (by simp)
    have hDr := HD.out.grown hgr
    obtain ⟨d0, d1, d2, d3⟩ := hJr.cells
    by_cases hlt : m < recs.length
    · have hlti : (m : Int) < (recs.length : Int) := by omega
      rw [List.drop_eq_getElem_cons hlt, lframes_cons] at hFr
      have el2 : lbody (2 + m) recs[m] = markR ++ recs[m] := by unfold lbody; rw [if_pos (by omega)]
      rw [el2] at hFr
      have hrz := HR.out recs[m] (List.getElem_mem hlt)
      obtain ⟨b, off, cs, rfl, hb0, hh, hoc, hcell⟩ := Hat.out (by omega)
      have hcell1 := (Blk.grown (t := 9) hh hgr (by simp)).cell (off + m)
      rw [hcell m hlt] at hcell1
      have hFm := Lib.hid (fun W => rframe_any (markR ++ recs[m]) (by rw [markR, append1_size]; unfold maxLen; omega) W)
      have hsm := frameR_size (s := markR ++ recs[m])
      generalize frameR (markR ++ recs[m]) = fm at *
      obtain ⟨fbm, fcm⟩ := fm
      simp only at hFr hFm hsm
      unfold markR at hFm
      generalize recs[m] = rm at *
      have hszm : ¬ 9223372036854775807 < 1 + rm.size := by omega
      have hmw : IntKind.i64.wrap ((m : Int) + 1) = (m : Int) + 1 := IntWalk.i64_in _ (by omega)
      clear hcell
      by_cases hcm0 : fcm ≠ 0
      · rw [if_neg hcm0] at hFr
        have hR := Hbad.out (by rw [← hFr]; exact hcm0)
        rw [← hFr] at hR
        rw [hR]
        have hcb : ((fcm : Int) != 0) = true := by simp [hcm0]
        go_wp2_with fail
        refine (hFm.out _).mono ?_
        rintro e w4 ⟨rfl, hw4⟩
        have hg4 := only_trans hgr (grown_below hw4 (Nat.le_refl _))
        go_wp2_with fail
        go_ret
        exact ⟨rfl, HD.out.grown hg4, HJ.out.grown hg4 (by simp), Duo.of_none hg4⟩
      · obtain rfl : fcm = 0 := by omega
        have hsm' := hsm rfl
        rw [if_pos rfl] at hFr
        have ham : ¬ 9223372036854775807 < all.size + fbm.size := by omega
        have HFr := Lib.hid hFr
        clear hsm hFr hcm0
        go_wp2_with fail
        refine (hFm.out _).mono ?_
        rintro e w4 ⟨rfl, hw4⟩
        have hg4 := only_trans hgr (grown_below hw4 (Nat.le_refl _))
        go_wp2_with fail
        go_roundw
        case rel =>
          refine ⟨m + 1, all ++ fbm, rfl, by simp, by omega, hg4, ?_, by rw [ByteArray.size_append]; omega⟩
          rw [ByteArray.data_append]
          simpa [Nat.add_assoc] using HFr.out
        case measure => simp [intOf]; omega
    · obtain rfl : m = recs.length := by omega
      rw [List.drop_length] at hFr
      have hR := Hok.out all hFr.symm
      have hlti : ¬ (recs.length : Int) < (recs.length : Int) := by omega
      have hnw : IntKind.i64.wrap (1 - J.file) = 1 - J.file := IntWalk.i64_in _ (by rcases HJ.out.file with h | h <;> rw [h] <;> decide)
      have hCl := rclear_any hDr (1 - J.file)
      have t1 := three_clear (D := D) (n := 1 - J.file) (s := all)
      have t2 := three_app (D := D) (n := 1 - J.file) (s := all)
      have t3 := three_sync (D := D) (n := 1 - J.file) (s := all)
      generalize D.doClear (1 - J.file) = pc at hCl t1 t2 t3
      obtain ⟨cc1, D1⟩ := pc
      simp only at hCl t1 t2 t3
      have HCl := Lib.hid hCl
      clear hCl
      generalize hTh : three D (1 - J.file) all = T3 at hR t1 t2 t3
      by_cases hcc1 : cc1 ≠ 0
      · have hT := t1 hcc1
        have hRR : jlay D J s recs = (cc1, D1, { J with broken := true }) := by rw [hR, hT]; exact if_pos hcc1
        have hcb : ((cc1 : Int) != 0) = true := by simp [hcc1]
        have hcb2 : ((cc1 : Int) == 0) = false := by simp [hcc1]
        clear hcc1 t1 t2 t3 hT hR hTh
        go_wp2_with fail
        refine HCl.out.mono ?_
        rintro e w4 ⟨rfl, hd4, ho4⟩
        have hJ4 := hJr.grown ho4 (by simpa using hjg)
        have hDu4 : Duo w w4 g jb := (Duo.of_none hgr).trans (Duo.of_left ho4)
        obtain ⟨m0, m1, m2, m3⟩ := hJ4.cells
        have mf := fun i => hJ4.blk.frozen i
        have ml := hJ4.blk.lt
        go_wp2_with fail
        go_ret
        rw [hRR]
        exact ⟨rfl, hd4.far hJ4.blk (by decide) (Ne.symm hjg) (only_put (only_refl _ (some jb)) 3 _), ⟨by simpa [jrCells] using hJ4.blk.put 3 (.bool true), hJ4.file, hJ4.gen⟩, hDu4.trans (Duo.of_right (only_put (only_refl _ (some jb)) 3 _))⟩
      · obtain rfl : cc1 = 0 := by omega
        have hAp := fun (W : World) (hd : RDiskAt W g D1) => rappend_any hd (1 - J.file) all (by omega)
        generalize D1.append (1 - J.file) all = pa at hAp t2 t3
        obtain ⟨cc2, D2⟩ := pa
        simp only at hAp t2 t3
        have HAp := Lib.hid hAp
        clear hAp
        by_cases hcc2 : cc2 ≠ 0
        · have hT := t2 (by trivial) hcc2
          have hRR : jlay D J s recs = (cc2, D2, { J with broken := true }) := by rw [hR, hT]; exact if_pos hcc2
          have hcb : ((cc2 : Int) != 0) = true := by simp [hcc2]
          have hcb2 : ((cc2 : Int) == 0) = false := by simp [hcc2]
          clear hcc2 hcc1 t1 t2 t3 hT hR hTh
          go_wp2_with fail
          refine HCl.out.mono ?_
          rintro e w4 ⟨rfl, hd4, ho4⟩
          have hJ4 := hJr.grown ho4 (by simpa using hjg)
          have hDu4 : Duo w w4 g jb := (Duo.of_none hgr).trans (Duo.of_left ho4)
          obtain ⟨k0, k1, k2, k3⟩ := hJ4.cells
          go_wp2_with fail
          refine (HAp.out _ hd4).mono ?_
          rintro e w5 ⟨rfl, hd5, ho5⟩
          have hJ5 := hJ4.grown ho5 (by simpa using hjg)
          have hDu5 := hDu4.trans (Duo.of_left (r := jb) ho5)
          obtain ⟨m0, m1, m2, m3⟩ := hJ5.cells
          have mf := fun i => hJ5.blk.frozen i
          have ml := hJ5.blk.lt
          go_wp2_with fail
          go_ret
          rw [hRR]
          exact ⟨rfl, hd5.far hJ5.blk (by decide) (Ne.symm hjg) (only_put (only_refl _ (some jb)) 3 _), ⟨by simpa [jrCells] using hJ5.blk.put 3 (.bool true), hJ5.file, hJ5.gen⟩, hDu5.trans (Duo.of_right (only_put (only_refl _ (some jb)) 3 _))⟩
        · obtain rfl : cc2 = 0 := by omega
          have hT := t3 (by trivial) (by trivial)
          have hSy := fun (W : World) (hd : RDiskAt W g D2) => rsync_any hd (1 - J.file)
          generalize D2.doSync (1 - J.file) = ps at hSy hT
          obtain ⟨cc3, D3⟩ := ps
          simp only at hSy hT
          have HSy := Lib.hid hSy
          clear hSy
          by_cases hcc3 : cc3 ≠ 0
          · have hRR : jlay D J s recs = (cc3, D3, { J with broken := true }) := by rw [hR, hT]; exact if_pos hcc3
            have hcb : ((cc3 : Int) != 0) = true := by simp [hcc3]
            clear hcc3 hcc2 hcc1 t1 t2 t3 hT hR hTh
            go_wp2_with fail
            refine HCl.out.mono ?_
            rintro e w4 ⟨rfl, hd4, ho4⟩
            have hJ4 := hJr.grown ho4 (by simpa using hjg)
            have hDu4 : Duo w w4 g jb := (Duo.of_none hgr).trans (Duo.of_left ho4)
            obtain ⟨k0, k1, k2, k3⟩ := hJ4.cells
            go_wp2_with fail
            refine (HAp.out _ hd4).mono ?_
            rintro e w5 ⟨rfl, hd5, ho5⟩
            have hJ5 := hJ4.grown ho5 (by simpa using hjg)
            have hDu5 := hDu4.trans (Duo.of_left (r := jb) ho5)
            obtain ⟨l0, l1, l2, l3⟩ := hJ5.cells
            go_wp2_with fail
            refine (HSy.out _ hd5).mono ?_
            rintro e w6 ⟨rfl, hd6, ho6⟩
            have hJ6 := hJ5.grown ho6 (by simpa using hjg)
            have hDu6 := hDu5.trans (Duo.of_left (r := jb) ho6)
            obtain ⟨m0, m1, m2, m3⟩ := hJ6.cells
            have mf := fun i => hJ6.blk.frozen i
            have ml := hJ6.blk.lt
            go_wp2_with fail
            go_ret
            rw [hRR]
            exact ⟨rfl, hd6.far hJ6.blk (by decide) (Ne.symm hjg) (only_put (only_refl _ (some jb)) 3 _), ⟨by simpa [jrCells] using hJ6.blk.put 3 (.bool true), hJ6.file, hJ6.gen⟩, hDu6.trans (Duo.of_right (only_put (only_refl _ (some jb)) 3 _))⟩
          · obtain rfl : cc3 = 0 := by omega
            have hRR : jlay D J s recs = (0, D3, { J with file := 1 - J.file, gen := J.gen + 1 }) := by rw [hR, hT]; exact if_neg (by simp)
            clear hcc3 hcc2 hcc1 t1 t2 t3 hT hR hTh
            go_wp2_with fail
            refine HCl.out.mono ?_
            rintro e w4 ⟨rfl, hd4, ho4⟩
            have hJ4 := hJr.grown ho4 (by simpa using hjg)
            have hDu4 : Duo w w4 g jb := (Duo.of_none hgr).trans (Duo.of_left ho4)
            obtain ⟨k0, k1, k2, k3⟩ := hJ4.cells
            go_wp2_with fail
            refine (HAp.out _ hd4).mono ?_
            rintro e w5 ⟨rfl, hd5, ho5⟩
            have hJ5 := hJ4.grown ho5 (by simpa using hjg)
            have hDu5 := hDu4.trans (Duo.of_left (r := jb) ho5)
            obtain ⟨l0, l1, l2, l3⟩ := hJ5.cells
            go_wp2_with fail
            refine (HSy.out _ hd5).mono ?_
            rintro e w6 ⟨rfl, hd6, ho6⟩
            have hJ6 := hJ5.grown ho6 (by simpa using hjg)
            have hDu6 := hDu5.trans (Duo.of_left (r := jb) ho6)
            obtain ⟨m0, m1, m2, m3⟩ := hJ6.cells
            have mf := fun i => hJ6.blk.frozen i
            have ml := hJ6.blk.lt
            go_wp2_with fail
            go_ret
            rw [hRR]
            have hpp : ∀ u1 u2, w6.grownBy ((w6.setCell ⟨jb, 1, none⟩ u1).setCell ⟨jb, 2, none⟩ u2) (some jb) := fun u1 u2 => only_put (only_put (only_refl _ (some jb)) 1 _) 2 _
            exact ⟨rfl, hd6.far hJ6.blk (by decide) (Ne.symm hjg) (hpp _ _), ⟨by simpa [jrCells] using (hJ6.blk.put 1 (.int .i64 (1 - J.file))).put 2 (.int .i64 ((J.gen : Int) + 1)), by show 1 - J.file = 0 ∨ 1 - J.file = 1; rcases hJ6.file with h | h <;> rw [h] <;> simp, by show J.gen + 1 < _; omega⟩, hDu6.trans (Duo.of_right (hpp _ _))⟩
theorem rlay_any (h : RDiskAt w g D) (hj : RJrAt w jb g J) (s : ByteArray) (hs : s.size ≤ 100000000000) (v : Value) (recs : List ByteArray) (hv : StrsAt w 0 v recs) (hn : recs.length ≤ 16777216)
    (hr : ∀ r ∈ recs, r.size ≤ 100000000000) :
    Calls Tryz.prog 54 #[.pointer (some ⟨jb, 0, none⟩), .string s, v] w (IsRLay (jlay D J s recs) g jb w) := by
  by_cases hg : 2147483647 ≤ J.gen
  · exact rlay_full h hj s v recs hg
  · exact rlay_main h hj s hs v recs hv hn hr hg
set_option maxHeartbeats 1600000 in
theorem rcompact_any (h : RDiskAt w g D) (hj : RJrAt w jb g J) (s : ByteArray) (hs : s.size ≤ 100000000000) :
    Calls Tryz.prog 27 #[.pointer (some ⟨jb, 0, none⟩), .string s] w (IsRLay (jcompact D J s) g jb w) := by
  obtain ⟨c0, c1, c2, c3⟩ := hj.cells
  unfold jcompact
  cases hbr : J.broken with
  | true =>
    rw [if_pos rfl]
    rw [hbr] at c3
    go_enter Tryz.func27, Tryz.ntmps27
    go_wp2_with fail
    go_ret
    exact ⟨rfl, h, hj, Duo.refl _ _ _⟩
  | false =>
    rw [if_neg (by decide)]
    rw [hbr] at c3
    have HL := Lib.hid (rlay_any h hj s hs (.slice none 0 0) [] (StrsAt.nil _ _) (by simp) (by simp))
    generalize jlay D J s [] = r at *
    go_enter Tryz.func27, Tryz.ntmps27
    go_wp2_with fail
    refine HL.out.mono ?_
    rintro e w2 ⟨rfl, hd2, hj2, hdu2⟩
    go_wp2_with fail
    go_ret
    exact ⟨rfl, hd2, hj2, hdu2⟩
end
end Go.Proofs.YtklcpckjmncdkaaGreatDoor
