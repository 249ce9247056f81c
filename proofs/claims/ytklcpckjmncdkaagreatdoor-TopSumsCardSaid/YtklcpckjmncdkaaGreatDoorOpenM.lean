/- THE WALK of the journal's Open, of a disk. -/
import Derived.Test.YtklcpckjmncdkaaGreatDoorOpen
namespace Go.Proofs.YtklcpckjmncdkaaGreatDoor
set_option maxRecDepth 100000
open Go.RowKit

section
variable {w : World} {g : Nat} {D : Dk}
theorem Img.Fit.mono {I : Img} {a b : Nat} (h : I.Fit a) (hab : a ≤ b) : I.Fit b := ⟨h.gen, Nat.le_trans h.state hab, Nat.le_trans h.len hab, fun r hr => Nat.le_trans (h.recs r hr) hab⟩
theorem Dk.bytes_size (h : D.Ok) (n : Int) : (D.bytes n).size ≤ 16777216 := by
  have h1 := h.sum
  have h2 := h.lim
  unfold Dk.bytes
  split <;> omega
set_option maxHeartbeats 3200000 in
theorem open_any (hH : Hand w) (hg0 : 0 < g) (h : DiskAt w g D) : Calls Tryz.prog 9 #[.pointer (some ⟨g, 0, none⟩)] w (IsOpen (jopen D) g w) := by
  have HR : ∃ R, R = jopen D := ⟨_, rfl⟩
  obtain ⟨R, hR⟩ := HR
  rw [← hR]
  have HR := Lib.hid hR
  have hok := h.ok
  have HD := Lib.hid h
  have HH := Lib.hid hH
  have hgl := h.lt
  have hdk := Lib.hid (fun (W : World) (hW : Hand W) (c : Nat) => (failed_any (c := c) ⟨#[100, 105, 115, 107]⟩ hW))
  clear hR h hH
  go_enter Tryz.func9, Tryz.ntmps9
  go_wp2_with fail
  go_loopw [19] (fun iv wr => ∃ (m : Nat) (P : Img × Jr) (fv : Value), iv = .int .i64 (m : Int) ∧ m ≤ 2 ∧ P = (if m = 0 then jfirst else if m = 1 then jstep D 0 jfirst else jfound D) ∧ w.grownBy wr none ∧ JrAt wr w.heap.size g P.2 ∧
    Blk wr (w.heap.size + 1) 85 #[.int .i64 (P.1.gen : Int), .string P.1.state, fv] ∧ StrsAt wr (w.heap.size + 2) fv P.1.recs ∧ P.1.Fit 16777216 ∧ P.2.broken = false ∧ (0 < m → D.off = false)) (fun iv _ => 2 - (intOf iv).toNat)
  case atStart =>
    refine ⟨0, jfirst, .slice none 0 0, rfl, by omega, rfl, only_alloc (only_alloc (only_refl w none) _) _, ⟨(Blk.new w _ _).alloc _, .inr rfl, by decide⟩, ?_, StrsAt.nil _ _, Img.none_fit _, rfl, fun h => absurd h (by omega)⟩
    have a := Blk.new (w.alloc (.cells #[.pointer (some ⟨g, 0, none⟩), .int .i64 1, .int .i64 0, .bool false] 83)) 85 #[.int .i64 0, .string ⟨#[]⟩, .slice none 0 0]
    rw [show (w.alloc (.cells #[.pointer (some ⟨g, 0, none⟩), .int .i64 1, .int .i64 0, .bool false] 83)).heap.size = w.heap.size + 1 by simp] at a
    exact a
  case round =>
    obtain ⟨m, P, fv, rfl, hm, hP, hgr, hJr, hfb, hst, hfit, hbro, hoffm⟩ := hrel
    have hDr := HD.out.grown hgr
    have hHr := HH.out.grown hgr (by simp)
    have hwr := hgr.size
    have hmw : IntKind.i64.wrap ((m : Int) + 1) = (m : Int) + 1 := IntWalk.i64_in _ (by omega)
    by_cases hm2 : m < 2
    · have hlt : (m : Int) < 2 := by omega
      cases hoff : D.off with
      | true =>
        have hrd : D.read m = (⟨#[]⟩, 240) := by simp [Dk.read, Dk.find, hoff]
        have hRd := read_any hDr (m : Int)
        rw [hrd] at hRd
        have HRd := Lib.hid hRd
        clear hRd
        go_wp2_with fail
        refine HRd.out.mono ?_
        rintro e w' ⟨rfl, rfl⟩
        go_wp2_with fail
        refine (hdk.out _ hHr 240).mono ?_
        rintro e w1 ⟨v1, rfl, he, hg1⟩
        go_wp2_with fail
        refine bodyPost_ret (by simp [results, Tryz.results9, go_sem]; try rfl) rfl ?_
        have hR2 : R = (240, D, ⟨1, 0, false⟩, Img.none_) := by rw [HR.out]; unfold jopen; rw [if_pos hoff]
        rw [hR2]
        exact ⟨hDr.grown hg1, only_below ⟨(only_trans hgr hg1).os, (only_trans hgr hg1).tape, (only_trans hgr hg1).output, (only_trans hgr hg1).size, fun i hi => (only_trans hgr hg1).block i hi (by simp)⟩ _, .inr ⟨by show (240 : Nat) ≠ 0; decide, v1, rfl, he⟩⟩
      | false =>
        have hfi : D.find m = 0 := by unfold Dk.find; rw [if_neg (by rw [hoff]; decide), if_pos (by omega)]
        have hrd : D.read m = (D.bytes m, 0) := by unfold Dk.read; rw [if_neg (by simpa using hfi)]
        have hRd := read_any hDr (m : Int)
        rw [hrd] at hRd
        have HRd := Lib.hid hRd
        have hF := Lib.hid (fun W => read_file_any (D.bytes m) (Dk.bytes_size hok m) W)
        have hXf := jread_fit (D.bytes m)
        have hXs := Dk.bytes_size hok m
        have hPs : (if m + 1 = 0 then jfirst else if m + 1 = 1 then jstep D 0 jfirst else jfound D) = jstep D m P := by
          rw [hP]
          rcases (show m = 0 ∨ m = 1 by omega) with rfl | rfl
          · rfl
          · rfl
        have hjs : jstep D m P = if P.1.gen < (jread (D.bytes m)).gen then (jread (D.bytes m), { file := (m : Int), gen := (jread (D.bytes m)).gen, broken := false }) else P := rfl
        rw [hjs] at hPs
        clear hjs
        clear hRd hrd hfi
        generalize jread (D.bytes m) = X at *
        obtain ⟨XG, XS, XR⟩ := X
        obtain ⟨⟨PG, PS, PR⟩, PJ⟩ := P
        simp only at hPs hXf hF hJr hfb hst hfit hbro
        unfold IsImg at hF
        simp only at hF
        obtain ⟨j0, j1, j2, j3⟩ := hJr.cells
        have jf := fun i => hJr.blk.frozen i
        have jl := hJr.blk.lt
        have f0 : wr.cell? ⟨w.heap.size + 1, 0, none⟩ = some (.int .i64 (PG : Int)) := hfb.cell 0
        go_wp2_with fail
        refine HRd.out.mono ?_
        rintro e w' ⟨rfl, rfl⟩
        go_wp2_with fail
        refine (hF.out _).mono ?_
        rintro e w1 ⟨v1, rfl, hs1, hb1⟩
        have hs1' := hs1
        obtain ⟨A1, cc1, rfl, _⟩ := hs1'.at_
        clear hs1'
        have hg1 := grown_below hb1 (Nat.le_refl _)
        have hJ1 := hJr.grown hg1 (by simp)
        have hfb1 := hfb.grown hg1 (by simp)
        have hst1 := hst.grown hg1
        obtain ⟨k0, k1, k2, k3⟩ := hJ1.cells
        have kf := fun i => hJ1.blk.frozen i
        have kl := hJ1.blk.lt
        have fl := hfb1.lt
        have ff := fun i => hfb1.frozen i
        have f0 : w1.cell? ⟨w.heap.size + 1, 0, none⟩ = some (.int .i64 (PG : Int)) := hfb1.cell 0
        have f1 : w1.cell? ⟨w.heap.size + 1, 1, none⟩ = some (.string PS) := hfb1.cell 1
        have f2 : w1.cell? ⟨w.heap.size + 1, 2, none⟩ = some fv := hfb1.cell 2
        by_cases hgt : PG < XG
        · have hgi : (PG : Int) < (XG : Int) := by omega
          go_wp2_with fail
          go_region
          all_goals (go_wp2_with fail)
          have hwl := hb1.size
          have hJz : Blk (((((((w1.setCell ⟨w.heap.size + 1, 0, none⟩ (.int .i64 (XG : Int))).setCell ⟨w.heap.size + 1, 1, none⟩ (.string XS)).setCell ⟨w.heap.size + 1, 2, none⟩ (.slice A1 XR.length cc1)).setCell ⟨w.heap.size, 1, none⟩ (.int .i64 (m : Int))).setCell ⟨w.heap.size, 2, none⟩ (.int .i64 (XG : Int))).alloc (.cells #[.int .i64 (XG : Int), .string XS, .slice A1 XR.length cc1] 85)).drew) w.heap.size 83 (jrCells g ⟨m, XG, false⟩) := by
            have a := (((((((hJ1.blk.far (p := ⟨w.heap.size + 1, 0, none⟩) (by simp) (.int .i64 (XG : Int))).far (p := ⟨w.heap.size + 1, 1, none⟩) (by simp) (.string XS)).far (p := ⟨w.heap.size + 1, 2, none⟩) (by simp) (.slice A1 XR.length cc1)).put 1 (.int .i64 (m : Int))).put 2 (.int .i64 (XG : Int))).alloc (.cells #[.int .i64 (XG : Int), .string XS, .slice A1 XR.length cc1] 85))).drew
            have e : jrCells g ⟨m, XG, false⟩ = ((jrCells g PJ).setIfInBounds 1 (.int .i64 (m : Int))).setIfInBounds 2 (.int .i64 (XG : Int)) := by simp [jrCells, hbro]
            rw [e]; exact a
          have hfz := ((((((hfb1.put 0 (.int .i64 (XG : Int))).put 1 (.string XS)).put 2 (.slice A1 XR.length cc1)).far (p := ⟨w.heap.size, 1, none⟩) (by simp) (.int .i64 (m : Int))).far (p := ⟨w.heap.size, 2, none⟩) (by simp) (.int .i64 (XG : Int))).alloc (.cells #[.int .i64 (XG : Int), .string XS, .slice A1 XR.length cc1] 85)).drew
          refine ⟨⟨m + 1, (⟨XG, XS, XR⟩, ⟨m, XG, false⟩), .slice A1 XR.length cc1, rfl, by omega, ?_, ?_, ⟨hJz, by simp only; omega, hXf.gen⟩, hfz, ?_, hXf.mono hXs, rfl, fun _ => by first | exact hoff | trivial⟩, by simp [intOf]; omega⟩
          · rw [hPs, if_pos hgt]
          · exact only_drew (only_alloc (only_new (only_new (only_new (only_new (only_new (only_trans hgr hg1) (p := ⟨w.heap.size + 1, 0, none⟩) (by simp) _) (p := ⟨w.heap.size + 1, 1, none⟩) (by simp) _) (p := ⟨w.heap.size + 1, 2, none⟩) (by simp) _) (p := ⟨w.heap.size, 1, none⟩) (by simp) _) (p := ⟨w.heap.size, 2, none⟩) (by simp) _) _)
          · refine (hs1.mono (by have := hfb.lt; omega)).kept fun b cs _ hk => ?_
            have n1 : b ≠ w.heap.size + 1 := Blk.ne_ hk hfb1 (by decide)
            have n2 : b ≠ w.heap.size := Blk.ne_ hk hJ1.blk (by decide)
            exact ((((((hk.far n1 _).far n1 _).far n1 _).far n2 _).far n2 _).alloc _).drew
        · have hgi : ¬ (PG : Int) < (XG : Int) := by omega
          go_wp2_with fail
          refine ⟨⟨m + 1, (⟨PG, PS, PR⟩, PJ), fv, rfl, by omega, by rw [hPs, if_neg hgt], only_alloc (only_trans hgr hg1) _, hJ1.grown (only_alloc (only_refl w1 none) _) (by simp), hfb1.alloc _, hst1.grown (only_alloc (only_refl w1 none) _), hfit, hbro, fun _ => by first | exact hoff | trivial⟩, by simp [intOf]; omega⟩
    · obtain rfl : m = 2 := by omega
      have hoff := hoffm (by decide)
      have hP2 : P = jfound D := hP
      have hR2 : R = ((jlay D P.2 P.1.state P.1.recs).1, (jlay D P.2 P.1.state P.1.recs).2.1, (jlay D P.2 P.1.state P.1.recs).2.2, P.1) := by rw [HR.out, hP2]; unfold jopen; rw [if_neg (by rw [hoff]; decide)]
      clear hP2 hP HR
      obtain ⟨⟨PG, PS, PR⟩, PJ⟩ := P
      simp only at hJr hfb hst hfit hR2
      have hst' := hst
      obtain ⟨A1, cc1, rfl, _⟩ := hst'.at_
      clear hst'
      have f1 : wr.cell? ⟨w.heap.size + 1, 1, none⟩ = some (.string PS) := hfb.cell 1
      have f2 : wr.cell? ⟨w.heap.size + 1, 2, none⟩ = some (.slice A1 PR.length cc1) := hfb.cell 2
      have HL := Lib.hid (lay_any hHr hg0 (by omega) hDr hJr PS (by have := hfit.state; simp only at this; omega) (.slice A1 PR.length cc1) PR (hst.mono (Nat.zero_le _)) hfit.len (fun r hr => by have := hfit.recs r hr; omega))
      have hlt : ¬ ((2 : Nat) : Int) < 2 := by omega
      generalize jlay D PJ PS PR = r at *
      obtain ⟨rc, rD, rJ⟩ := r
      simp only at hR2
      go_wp2_with fail
      refine HL.out.mono ?_
      rintro e w2 ⟨v2, rfl, he, hd2, hj2, hduo⟩
      simp only at he hd2 hj2
      have hgz : w.grownBy w2 (some g) := ⟨hduo.os.trans hgr.os, hduo.tape.trans hgr.tape, hduo.output.trans hgr.output, Nat.le_trans hgr.size hduo.size, fun i hi hne => (hduo.block i (by omega) (by simpa using hne) (by omega)).trans (hgr.block i hi (by simp))⟩
      have hfl := hfb.lt
      have hfb2 : Blk w2 (w.heap.size + 1) 85 _ := (hduo.block _ hfl (by omega) (by omega)).trans hfb
      have hDb := hDr.at_
      obtain ⟨kv, hDb, _⟩ := hDb
      have hst2 := hst.duo hduo hDb hJr.blk (by decide) (by decide)
      have s1 : w2.cell? ⟨w.heap.size + 1, 1, none⟩ = some (.string PS) := hfb2.cell 1
      have s2 : w2.cell? ⟨w.heap.size + 1, 2, none⟩ = some (.slice A1 PR.length cc1) := hfb2.cell 2
      clear hDb hfb hfb2
      by_cases hc : rc = 0
      · subst hc
        obtain rfl := isErr_no he
        go_wp2_with fail
        go_quiet (fail)
        go_wp2_with fail
        refine bodyPost_ret (by simp [results, Tryz.results9, go_sem]; try rfl) rfl ?_
        rw [hR2]
        have hq := only_drewN (only_refl w2 none)
        exact ⟨hd2.grown (hq _), only_drewN hgz _, .inl ⟨rfl, w.heap.size, _, rfl, Nat.le_refl _, hj2.grown (hq _) (by simp), (hst2.mono (Nat.le_add_right w.heap.size 2)).grown (hq _)⟩⟩
      · obtain ⟨p, rfl, hf⟩ := isErr_yes hc he
        go_wp2_with fail
        refine bodyPost_ret (by simp [results, Tryz.results9, go_sem]; try rfl) rfl ?_
        rw [hR2]
        exact ⟨hd2, hgz, .inr ⟨hc, _, rfl, isErr_of hc hf⟩⟩
end
end Go.Proofs.YtklcpckjmncdkaaGreatDoor
