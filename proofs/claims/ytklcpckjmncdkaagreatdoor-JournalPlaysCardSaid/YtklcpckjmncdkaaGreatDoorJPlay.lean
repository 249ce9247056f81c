/- THE WALK of JournalPlays. -/
import Derived.Test.YtklcpckjmncdkaaGreatDoorJUni
import Derived.Deep.DeepCutAuto
import Derived.Deep.CutBlock
namespace Go.Proofs.YtklcpckjmncdkaaGreatDoor
set_option maxRecDepth 100000
open Go.RowKit

section
variable {w : World}
set_option linter.unusedSimpArgs false in
set_option maxHeartbeats 12800000 in
theorem jplay_walk (hH : Hand w) (f0 f1 : ByteArray) (hf0 : f0.size ≤ maxLen) (hf1 : f1.size ≤ maxLen) (limit : Int) {A : Option Addr} {c : Nat} {L : List StepW} (hScr : Steps w w.heap.size A c L) :
    Calls Tryz.prog 4 #[.agg #[.string f0, .string f1], .int .i64 limit, .slice A L.length c] w fun e w' => e = .returned (.bool true) ∧ w.grownBy w' none := by
  have h0 := Hand.lt hH
  have hcap := hScr.cap
  have hmost := hScr.most
  unfold maxLen at hmost
  have H0 := Lib.hid (fun W => new_any limit W)
  have H1 := Lib.hid (fun W => rnew_any limit W)
  obtain ⟨s0, hs0⟩ : ∃ s0, f0.extract 0 (min (f0.size : Int) 2000).toNat = s0 := ⟨_, rfl⟩
  obtain ⟨s1, hs1⟩ : ∃ s1, f1.extract 0 (min (f1.size : Int) 2000).toNat = s1 := ⟨_, rfl⟩
  have hz0 : s0.size ≤ 2000 := by rw [← hs0, ByteArray.size_extract]; omega
  have hz1 : s1.size ≤ 2000 := by rw [← hs1, ByteArray.size_extract]; omega
  have hbx0 : Blk (w.alloc (.cells #[.string f0, .string f1] 48)) w.heap.size 48 #[.string f0, .string f1] := Blk.new w _ _
  have hgx : w.grownBy (w.alloc (.cells #[.string f0, .string f1] 48)) none := only_alloc (only_refl w none) _
  unfold maxLen at hf0 hf1
  have hi0 : (0 : Int) ≤ min (f0.size : Int) 2000 := by omega
  have hi1 : min (f0.size : Int) 2000 ≤ (f0.size : Int) := by omega
  have hi2 : (0 : Int) ≤ min (f1.size : Int) 2000 := by omega
  have hi3 : min (f1.size : Int) 2000 ≤ (f1.size : Int) := by omega
  go_enter Tryz.func4, Tryz.ntmps4
  go_wp2_with fail
  refine (H0.out _).mono ?_
  rintro e w1 ⟨g, rfl, hgw, hd1, hk1⟩
  have hg1 := only_trans hgx hk1
  have hbx1 := hbx0.grown hk1 (by simp)
  have hgw' : w.heap.size + 1 ≤ g := by simpa using hgw
  go_wp2_with fail
  refine (H1.out _).mono ?_
  rintro e w2 ⟨r, rfl, hrw, hr2, hk2⟩
  have hg2 := only_trans hg1 hk2
  have hbx2 := hbx1.grown hk2 (by simp)
  have hB2 : Both w2 g r (Dk.new limit) := ⟨hd1.grown hk2, hr2⟩
  have hrw' : w.heap.size + 1 ≤ r := by have := hk1.size; simp at this; omega
  have hg0 : 0 < g := by omega
  clear hbx0 hbx1 hd1 hr2 hk1 hk2 hgx hg1 hgw hrw
  go_wp2_with fail
  go_loopw [25] (fun iv wr => ∃ (m : Nat) (D : Dk), iv = .int .i64 (m : Int) ∧ m ≤ 2 ∧ Both wr g r D ∧ Blk wr w.heap.size 48 #[.string f0, .string f1] ∧ w.grownBy wr none) (fun iv _ => 2 - (intOf iv).toNat)
  case atStart => exact ⟨0, _, rfl, by omega, hB2, hbx2, hg2⟩
  case round =>
    obtain ⟨m, D, rfl, hm, hBr, hbxr, hgr⟩ := hrel
    have hp0 : w.heap.size ≠ g := by omega
    have hp1 : w.heap.size ≠ r := by omega
    by_cases hm0 : m = 0
    · subst hm0
      have c0' : wr.cell? ⟨w.heap.size, 0, none⟩ = some (.string f0) := hbxr.cell 0
      have HA := Lib.hid (append_any (hBr.d.grown (only_drew (only_refl wr none))) 0 s0 (by unfold maxLen; omega))
      go_wp2_with fail
      go_region
      all_goals go_wp2_with fail
      refine HA.out.mono ?_
      rintro e w3 ⟨rfl, hd3, ho3⟩
      have hr3 := (hBr.r.grown (only_drew (only_refl wr none))).overD (hBr.d.grown (only_drew (only_refl wr none))) ho3
      have HA2 := Lib.hid (rappend_any hr3 0 s0 (by omega))
      go_wp2_with fail
      refine HA2.out.mono ?_
      rintro e w4 ⟨rfl, hr4, ho4⟩
      have hd4 := hd3.overR hr3 ho4
      generalize D.append 0 s0 = pa at *
      obtain ⟨pc, D1⟩ := pa
      simp only at hd4 hr4
      have HS := Lib.hid (sync_any hd4 0)
      go_wp2_with fail
      refine HS.out.mono ?_
      rintro e w5 ⟨rfl, hd5, ho5⟩
      have hr5 := hr4.overD hd4 ho5
      have HS2 := Lib.hid (rsync_any hr5 0)
      go_wp2_with fail
      refine HS2.out.mono ?_
      rintro e w6 ⟨rfl, hr6, ho6⟩
      have hd6 := hd5.overR hr5 ho6
      go_wp2_with fail
      refine ⟨⟨1, _, rfl, by omega, ⟨hd6, hr6⟩, ((((hbxr.drew).grown ho3 (by simpa using hp0)).grown ho4 (by simpa using hp1)).grown ho5 (by simpa using hp0)).grown ho6 (by simpa using hp1), grown_own (grown_own (grown_own (grown_own (only_drew hgr) ho3 (by omega)) ho4 (by omega)) ho5 (by omega)) ho6 (by omega)⟩, by simp [intOf]⟩
    · by_cases hm1 : m = 1
      · subst hm1
        have c0' : wr.cell? ⟨w.heap.size, 1, none⟩ = some (.string f1) := hbxr.cell 1
        have HA := Lib.hid (append_any (hBr.d.grown (only_drew (only_refl wr none))) 1 s1 (by unfold maxLen; omega))
        go_wp2_with fail
        go_region
        all_goals go_wp2_with fail
        refine HA.out.mono ?_
        rintro e w3 ⟨rfl, hd3, ho3⟩
        have hr3 := (hBr.r.grown (only_drew (only_refl wr none))).overD (hBr.d.grown (only_drew (only_refl wr none))) ho3
        have HA2 := Lib.hid (rappend_any hr3 1 s1 (by omega))
        go_wp2_with fail
        refine HA2.out.mono ?_
        rintro e w4 ⟨rfl, hr4, ho4⟩
        have hd4 := hd3.overR hr3 ho4
        generalize D.append 1 s1 = pa at *
        obtain ⟨pc, D1⟩ := pa
        simp only at hd4 hr4
        have HS := Lib.hid (sync_any hd4 1)
        go_wp2_with fail
        refine HS.out.mono ?_
        rintro e w5 ⟨rfl, hd5, ho5⟩
        have hr5 := hr4.overD hd4 ho5
        have HS2 := Lib.hid (rsync_any hr5 1)
        go_wp2_with fail
        refine HS2.out.mono ?_
        rintro e w6 ⟨rfl, hr6, ho6⟩
        have hd6 := hd5.overR hr5 ho6
        go_wp2_with fail
        refine ⟨⟨2, _, rfl, by omega, ⟨hd6, hr6⟩, ((((hbxr.drew).grown ho3 (by simpa using hp0)).grown ho4 (by simpa using hp1)).grown ho5 (by simpa using hp0)).grown ho6 (by simpa using hp1), grown_own (grown_own (grown_own (grown_own (only_drew hgr) ho3 (by omega)) ho4 (by omega)) ho5 (by omega)) ho6 (by omega)⟩, by simp [intOf]⟩
      · obtain rfl : m = 2 := by omega
        have hlt : ¬ ((2 : Nat) : Int) < 2 := by omega
        have hRl := jopen_lt D
        have hRn := oRec_len hBr.d.ok
        have HO := Lib.hid (open_uni (hH.grown hgr (by simp)) hg0 hBr.d)
        have HO2 := Lib.hid (fun (W : World) (hr : RDiskAt W r D) => ropen_uni hr)
        generalize jopen D = R at *
        generalize oSt R = os at *
        generalize oRec R = ol at *
        go_wp2_with fail
        refine HO.out.mono ?_
        rintro e w3 ⟨jv, lv, ev, rfl, he3, hs3, hd3, ho3, hoj⟩
        have hr3 := hBr.r.overD hBr.d ho3
        go_wp2_with fail
        refine (HO2.out _ hr3).mono ?_
        rintro e w4 ⟨kv, mv, rfl, ht4, hr4, ho4, hok⟩
        have hd4 := hd3.overR hr3 ho4
        obtain ⟨c3, hr3b⟩ := hr3.blk
        have he4 := IsErr.row he3 hr3b (by decide) ho4
        have hs4 := hs3.row hr3b (by decide) ho4
        have hg4 := grown_own (grown_own hgr ho3 (by omega)) ho4 (by omega)
        have hJK := JK.of_open (w0 := w) hoj hok ho4 hgr.size (by have := hgr.size; have := ho3.size; omega) hr3
        have hB4 : Both w4 g r R.2.1 := ⟨hd4, hr4⟩
        clear hoj hok hr3b hr3 hd3 hd4 hr4 he3 hs3 ho3 ho4 HO HO2 hBr hbxr hgr hbx2 hg2 hB2
        generalize R.2.1 = D1 at *
        generalize R.1 = rc at *
        go_wp2_with fail
        refine (wakes_any (hH.grown hg4 (by simp))).mono ?_
        rintro e w5 ⟨rfl, hk5⟩
        have hg5 := only_trans hg4 hk5
        go_wp2_with fail
        refine (code_any (hH.grown hg5 (by simp)) (IsErr.grown he4 hk5) hRl).mono ?_
        rintro e w6 ⟨rfl, hk6⟩
        have hk56 := only_trans hk5 hk6
        have hg6 := only_trans hg4 hk56
        go_wp2_with fail
        refine (equal_any (hs4.grown hk56) (ht4.grown hk56) hRn).mono ?_
        rintro e w7 ⟨rfl, hk7⟩
        rw [decide_eq_true (rfl : ol = ol)]
        have hg7 := only_trans hg6 hk7
        have hB7 := hB4.grown (only_trans hk56 hk7)
        have hJ7 := hJK.grown (only_trans hk56 hk7)
        go_wp2_with fail
        refine (same_any hB7).mono ?_
        rintro e w8 ⟨rfl, hk8⟩
        have hg8 := only_trans hg7 hk8
        have hB8 := hB7.grown hk8
        have hJ8 := hJ7.grown hk8
        clear hJK hB4 hB7 hJ7 hk5 hk6 hk7 hk8 hk56 hg4 hg5 hg6 hg7 he4 hs4 ht4
        go_upto_region 15 with fail
        go_cut [95, 96, 97] (fun s l i wx => (∃ n : Nat, n ≤ 40 ∧ n ≤ L.length ∧ s = .slice A n c ∧ l = .int .i64 (n : Int)) ∧ i = .int .i64 0 ∧ wx = w8)
        case first =>
          by_cases hq : L.length ≤ 40
          · go_wp2_with fail
            go_meet
            exact ⟨⟨L.length, hq, Nat.le_refl _, by first | rfl | (congr 1; omega), by first | rfl | (congr 1; omega)⟩, rfl, rfl⟩
          · go_wp2_with fail
            go_meet
            exact ⟨⟨40, Nat.le_refl _, by omega, by first | rfl | (congr 1; omega), by first | rfl | (congr 1; omega)⟩, rfl, rfl⟩
        case rest =>
          obtain ⟨⟨n, hn60, hnl, rfl, rfl⟩, rfl, rfl⟩ := hcut
          go_wp2_with fail
          go_loopw [11, 15, 97] (fun jv kv i wr => ∃ (m : Nat) (D : Dk), m ≤ n ∧ i = .int .i64 (m : Int) ∧ Both wr g r D ∧ JK w wr g r jv kv ∧ w.grownBy wr none) (fun _ _ i _ => n - (intOf i).toNat)
          case atStart => exact ⟨0, _, Nat.zero_le _, rfl, hB8, hJ8, hg8⟩
          case round =>
            clear hB8 hJ8 hg8
            obtain ⟨m, D, hm, rfl, hB, hJ, hgr⟩ := hrel
            by_cases hlt : m < n
            · skip
              have hfr : Below w.heap.size w wr := ⟨hgr.os, hgr.tape, hgr.output, hgr.size, fun i hi => hgr.block i hi (by simp)⟩
              have hS := hScr.below hfr
              have hml : m < L.length := by omega
              have hSt := hS.step m hml
              obtain ⟨b, off, hA, hbw, hcell⟩ := hS.cell m hml
              have q0 : wr.cell? ⟨b, off + m * 7, none⟩ = some (.int .i64 L[m].what) := hcell 0 (by omega)
              have q1 : wr.cell? ⟨b, off + m * 7 + 1, none⟩ = some (.string L[m].body) := hcell 1 (by omega)
              have q2 : wr.cell? ⟨b, off + m * 7 + 2, none⟩ = some (.int .i64 L[m].on.a.do_) := hcell 2 (by omega)
              have q3 : wr.cell? ⟨b, off + m * 7 + 3, none⟩ = some (.int .i64 L[m].on.a.file) := hcell 3 (by omega)
              have q4 : wr.cell? ⟨b, off + m * 7 + 4, none⟩ = some (.int .i64 L[m].on.a.n) := hcell 4 (by omega)
              have q5 : wr.cell? ⟨b, off + m * 7 + 5, none⟩ = some (.string L[m].on.a.data) := hcell 5 (by omega)
              have q6 : wr.cell? ⟨b, off + m * 7 + 6, none⟩ = some (.slice L[m].on.A L[m].on.a.keep.length L[m].on.c) := hcell 6 (by omega)
              clear hcell
              generalize L[m] = x at hSt q0 q1 q2 q3 q4 q5 q6
              subst hA
              obtain ⟨sb, hsb⟩ : ∃ sb, x.body.extract 0 (min (x.body.size : Int) 1000).toNat = sb := ⟨_, rfl⟩
              have hsbz : sb.size ≤ 1000 := by rw [← hsb, ByteArray.size_extract]; omega
              have hbz := hSt.body
              unfold maxLen at hbz
              have hbi0 : (0 : Int) ≤ min (x.body.size : Int) 1000 := by omega
              have hbi1 : min (x.body.size : Int) 1000 ≤ (x.body.size : Int) := by omega
              have hlti : (m : Int) < (n : Int) := by omega
              go_upto_block 4 with fail
              obtain ⟨W0, hW0⟩ : ∃ W0, wr.alloc (.cells #[.int .i64 x.what, .string sb, .int .i64 x.on.a.do_, .int .i64 x.on.a.file, .int .i64 x.on.a.n, .string x.on.a.data, .slice x.on.A x.on.a.keep.length x.on.c] 66) = W0 := ⟨_, rfl⟩
              rw [hW0]
              have hgW : wr.grownBy W0 none := hW0 ▸ only_alloc (only_refl _ _) _
              have hX : Blk W0 wr.heap.size 66 #[.int .i64 x.what, .string sb, .int .i64 x.on.a.do_, .int .i64 x.on.a.file, .int .i64 x.on.a.n, .string x.on.a.data, .slice x.on.A x.on.a.keep.length x.on.c] := hW0 ▸ Blk.new _ _ _
              clear hW0 q0 q1 q2 q3 q4 q5 q6 hbi0 hbi1
              have hB0 := hB.grown hgW
              have hJ0 := hJ.grown hgW
              have hg00 := only_trans hgr hgW
              have hH0 : Hand W0 := hH.grown hg00 (by simp)
              have x1 := hX.cell 1
              have x2 := hX.cell 2
              have x3 := hX.cell 3
              have x4 := hX.cell 4
              have x5 := hX.cell 5
              have x6 := hX.cell 6
              have hA0 : ActIn W0 w.heap.size x.on := hSt.on.below ⟨hgW.os, hgW.tape, hgW.output, hgW.size, fun i hi => hgW.block i (by have := hgr.size; omega) (by simp)⟩
              have hgl : w.heap.size ≤ g := by omega
              have hrl : w.heap.size ≤ r := by omega
              obtain ⟨cr0, hrb0⟩ := hB0.r.blk
              have hcase : x.what.tmod 6 = 0 ∨ x.what.tmod 6 = 1 ∨ x.what.tmod 6 = -1 ∨ x.what.tmod 6 = 2 ∨ x.what.tmod 6 = -2 ∨ x.what.tmod 6 = 3 ∨ x.what.tmod 6 = -3 ∨ x.what.tmod 6 = 4 ∨ x.what.tmod 6 = -4 ∨ x.what.tmod 6 = 5 ∨ x.what.tmod 6 = -5 := by
                have h1 := Int.tmod_lt_of_pos x.what (show (0 : Int) < 6 by decide)
                have h2 := Int.lt_tmod_of_pos x.what (show (0 : Int) < 6 by decide)
                omega
              clear hB hJ hSt
              go_cut [11, 12, 13, 14, 15, 16, 17, 18] from 98 to 218 (fun jv2 _ _ ev kv2 _ _ cv wx => ∃ (D2 : Dk) (cn : Nat), cv = .int .i64 (cn : Int) ∧ cn < 256 ∧ IsErr wx ev cn ∧ Both wx g r D2 ∧ JK w wx g r jv2 kv2 ∧ w.grownBy wx none)
              case first =>
                rcases hcase with hk | hk | hk | hk | hk | hk | hk | hk | hk | hk | hk
                · as_aux_lemma =>
                  rcases hJ0 with ⟨rfl, rfl⟩ | ⟨jb, kb, J, rfl, rfl, hjb, hkb, hj, hkk⟩
                  · have HN := Lib.hid (add_nil hH0 sb)
                    go_wp2_with fail
                    refine HN.out.mono ?_
                    rintro e w5 ⟨v5, rfl, he5, hk5⟩
                    go_wp2_with fail
                    go_meet
                    exact ⟨_, 128, rfl, by decide, he5, hB0.grown hk5, .inl ⟨rfl, rfl⟩, only_trans hg00 hk5⟩
                  · have HR := Lib.hid (radd_any hB0.r hkk sb (by omega))
                    have HJs := Lib.hid (fun (W : World) (hH : Hand W) (hd : DiskAt W g D) (hj : JrAt W jb g J) => add_any hH (by omega) hg0 hd hj sb (by omega))
                    have hRl := jadd_lt D J sb
                    generalize jadd D J sb = R at *
                    go_wp2_with fail
                    refine HR.out.mono ?_
                    rintro e w5 ⟨rfl, hr5, hk5, du5⟩
                    have hd5 := stand_prog hB0.d hB0.r hkk du5
                    have hj5 := stand_jr hj hB0.r hkk du5
                    have hg5 := grown_duo hg00 du5 hrl hkb
                    have hX5 := du5.keepBlk hX (Blk.ne_ hX hrb0 (by decide)) (Blk.ne_ hX hkk.blk (by decide))
                    have y1 := hX5.cell 1
                    go_wp2_with fail
                    refine (HJs.out w5 (hH.grown hg5 (by simp)) hd5 hj5).mono ?_
                    rintro e w6 ⟨v6, rfl, he6, hd6, hj6, du6⟩
                    have hr6 := stand_ref hr5 hd5 hj5 du6
                    have hk6 := stand_rjr hk5 hd5 hj5 du6
                    have hg6 := grown_duo hg5 du6 hgl hjb
                    go_wp2_with fail
                    go_meet
                    exact ⟨R.2.1, R.1, rfl, hRl, he6, ⟨hd6, hr6⟩, .inr ⟨jb, kb, R.2.2, rfl, rfl, hjb, hkb, hj6, hk6⟩, hg6⟩
                · as_aux_lemma =>
                  rcases hJ0 with ⟨rfl, rfl⟩ | ⟨jb, kb, J, rfl, rfl, hjb, hkb, hj, hkk⟩
                  · have HN := Lib.hid (sync_nil hH0)
                    go_wp2_with fail
                    refine HN.out.mono ?_
                    rintro e w5 ⟨v5, rfl, he5, hk5⟩
                    go_wp2_with fail
                    go_meet
                    exact ⟨_, 128, rfl, by decide, he5, hB0.grown hk5, .inl ⟨rfl, rfl⟩, only_trans hg00 hk5⟩
                  · have HR := Lib.hid (rjsync_any hB0.r hkk)
                    have HJs := Lib.hid (fun (W : World) (hH : Hand W) (hd : DiskAt W g D) (hj : JrAt W jb g J) => jsync_any hH (by omega) hg0 hd hj)
                    have hRl := jsync_lt D J
                    generalize jsync D J = R at *
                    go_wp2_with fail
                    refine HR.out.mono ?_
                    rintro e w5 ⟨rfl, hr5, hk5, du5⟩
                    have hd5 := stand_prog hB0.d hB0.r hkk du5
                    have hj5 := stand_jr hj hB0.r hkk du5
                    have hg5 := grown_duo hg00 du5 hrl hkb
                    have hX5 := du5.keepBlk hX (Blk.ne_ hX hrb0 (by decide)) (Blk.ne_ hX hkk.blk (by decide))
                    have y1 := hX5.cell 1
                    go_wp2_with fail
                    refine (HJs.out w5 (hH.grown hg5 (by simp)) hd5 hj5).mono ?_
                    rintro e w6 ⟨v6, rfl, he6, hd6, hj6, du6⟩
                    have hr6 := stand_ref hr5 hd5 hj5 du6
                    have hk6 := stand_rjr hk5 hd5 hj5 du6
                    have hg6 := grown_duo hg5 du6 hgl hjb
                    go_wp2_with fail
                    go_meet
                    exact ⟨R.2.1, R.1, rfl, hRl, he6, ⟨hd6, hr6⟩, .inr ⟨jb, kb, R.2.2, rfl, rfl, hjb, hkb, hj6, hk6⟩, hg6⟩
                · as_aux_lemma =>
                  rcases hJ0 with ⟨rfl, rfl⟩ | ⟨jb, kb, J, rfl, rfl, hjb, hkb, hj, hkk⟩
                  · have HN := Lib.hid (sync_nil hH0)
                    go_wp2_with fail
                    refine HN.out.mono ?_
                    rintro e w5 ⟨v5, rfl, he5, hk5⟩
                    go_wp2_with fail
                    go_meet
                    exact ⟨_, 128, rfl, by decide, he5, hB0.grown hk5, .inl ⟨rfl, rfl⟩, only_trans hg00 hk5⟩
                  · have HR := Lib.hid (rjsync_any hB0.r hkk)
                    have HJs := Lib.hid (fun (W : World) (hH : Hand W) (hd : DiskAt W g D) (hj : JrAt W jb g J) => jsync_any hH (by omega) hg0 hd hj)
                    have hRl := jsync_lt D J
                    generalize jsync D J = R at *
                    go_wp2_with fail
                    refine HR.out.mono ?_
                    rintro e w5 ⟨rfl, hr5, hk5, du5⟩
                    have hd5 := stand_prog hB0.d hB0.r hkk du5
                    have hj5 := stand_jr hj hB0.r hkk du5
                    have hg5 := grown_duo hg00 du5 hrl hkb
                    have hX5 := du5.keepBlk hX (Blk.ne_ hX hrb0 (by decide)) (Blk.ne_ hX hkk.blk (by decide))
                    have y1 := hX5.cell 1
                    go_wp2_with fail
                    refine (HJs.out w5 (hH.grown hg5 (by simp)) hd5 hj5).mono ?_
                    rintro e w6 ⟨v6, rfl, he6, hd6, hj6, du6⟩
                    have hr6 := stand_ref hr5 hd5 hj5 du6
                    have hk6 := stand_rjr hk5 hd5 hj5 du6
                    have hg6 := grown_duo hg5 du6 hgl hjb
                    go_wp2_with fail
                    go_meet
                    exact ⟨R.2.1, R.1, rfl, hRl, he6, ⟨hd6, hr6⟩, .inr ⟨jb, kb, R.2.2, rfl, rfl, hjb, hkb, hj6, hk6⟩, hg6⟩
                · as_aux_lemma =>
                  rcases hJ0 with ⟨rfl, rfl⟩ | ⟨jb, kb, J, rfl, rfl, hjb, hkb, hj, hkk⟩
                  · have HN := Lib.hid (compact_nil hH0 sb)
                    go_wp2_with fail
                    refine HN.out.mono ?_
                    rintro e w5 ⟨v5, rfl, he5, hk5⟩
                    go_wp2_with fail
                    go_meet
                    exact ⟨_, 128, rfl, by decide, he5, hB0.grown hk5, .inl ⟨rfl, rfl⟩, only_trans hg00 hk5⟩
                  · have HR := Lib.hid (rcompact_any hB0.r hkk sb (by omega))
                    have HJs := Lib.hid (fun (W : World) (hH : Hand W) (hd : DiskAt W g D) (hj : JrAt W jb g J) => compact_any hH (by omega) hg0 hd hj sb (by omega))
                    have hRl := jcompact_lt D J sb
                    generalize jcompact D J sb = R at *
                    go_wp2_with fail
                    refine HR.out.mono ?_
                    rintro e w5 ⟨rfl, hr5, hk5, du5⟩
                    have hd5 := stand_prog hB0.d hB0.r hkk du5
                    have hj5 := stand_jr hj hB0.r hkk du5
                    have hg5 := grown_duo hg00 du5 hrl hkb
                    have hX5 := du5.keepBlk hX (Blk.ne_ hX hrb0 (by decide)) (Blk.ne_ hX hkk.blk (by decide))
                    have y1 := hX5.cell 1
                    go_wp2_with fail
                    refine (HJs.out w5 (hH.grown hg5 (by simp)) hd5 hj5).mono ?_
                    rintro e w6 ⟨v6, rfl, he6, hd6, hj6, du6⟩
                    have hr6 := stand_ref hr5 hd5 hj5 du6
                    have hk6 := stand_rjr hk5 hd5 hj5 du6
                    have hg6 := grown_duo hg5 du6 hgl hjb
                    go_wp2_with fail
                    go_meet
                    exact ⟨R.2.1, R.1, rfl, hRl, he6, ⟨hd6, hr6⟩, .inr ⟨jb, kb, R.2.2, rfl, rfl, hjb, hkb, hj6, hk6⟩, hg6⟩
                · as_aux_lemma =>
                  rcases hJ0 with ⟨rfl, rfl⟩ | ⟨jb, kb, J, rfl, rfl, hjb, hkb, hj, hkk⟩
                  · have HN := Lib.hid (compact_nil hH0 sb)
                    go_wp2_with fail
                    refine HN.out.mono ?_
                    rintro e w5 ⟨v5, rfl, he5, hk5⟩
                    go_wp2_with fail
                    go_meet
                    exact ⟨_, 128, rfl, by decide, he5, hB0.grown hk5, .inl ⟨rfl, rfl⟩, only_trans hg00 hk5⟩
                  · have HR := Lib.hid (rcompact_any hB0.r hkk sb (by omega))
                    have HJs := Lib.hid (fun (W : World) (hH : Hand W) (hd : DiskAt W g D) (hj : JrAt W jb g J) => compact_any hH (by omega) hg0 hd hj sb (by omega))
                    have hRl := jcompact_lt D J sb
                    generalize jcompact D J sb = R at *
                    go_wp2_with fail
                    refine HR.out.mono ?_
                    rintro e w5 ⟨rfl, hr5, hk5, du5⟩
                    have hd5 := stand_prog hB0.d hB0.r hkk du5
                    have hj5 := stand_jr hj hB0.r hkk du5
                    have hg5 := grown_duo hg00 du5 hrl hkb
                    have hX5 := du5.keepBlk hX (Blk.ne_ hX hrb0 (by decide)) (Blk.ne_ hX hkk.blk (by decide))
                    have y1 := hX5.cell 1
                    go_wp2_with fail
                    refine (HJs.out w5 (hH.grown hg5 (by simp)) hd5 hj5).mono ?_
                    rintro e w6 ⟨v6, rfl, he6, hd6, hj6, du6⟩
                    have hr6 := stand_ref hr5 hd5 hj5 du6
                    have hk6 := stand_rjr hk5 hd5 hj5 du6
                    have hg6 := grown_duo hg5 du6 hgl hjb
                    go_wp2_with fail
                    go_meet
                    exact ⟨R.2.1, R.1, rfl, hRl, he6, ⟨hd6, hr6⟩, .inr ⟨jb, kb, R.2.2, rfl, rfl, hjb, hkb, hj6, hk6⟩, hg6⟩
                · as_aux_lemma =>
                  have hRl := jopen_lt D
                  have hRn := oRec_len hB0.d.ok
                  have HO := Lib.hid (open_uni hH0 hg0 hB0.d)
                  have HO2 := Lib.hid (fun (W : World) (hr : RDiskAt W r D) => ropen_uni hr)
                  generalize jopen D = R at *
                  generalize oSt R = os at *
                  generalize oRec R = ol at *
                  go_wp2_with fail
                  refine HO.out.mono ?_
                  rintro e w5 ⟨jv5, lv5, ev5, rfl, he5, hs5, hd5, ho5, hoj⟩
                  have hr5 := hB0.r.overD hB0.d ho5
                  go_wp2_with fail
                  refine (HO2.out _ hr5).mono ?_
                  rintro e w6 ⟨kv6, mv6, rfl, ht6, hr6, ho6, hok⟩
                  have hd6 := hd5.overR hr5 ho6
                  obtain ⟨c5, hr5b⟩ := hr5.blk
                  have he6 := IsErr.row he5 hr5b (by decide) ho6
                  have hs6 := hs5.row hr5b (by decide) ho6
                  have hg6 := grown_own (grown_own hg00 ho5 hgl) ho6 hrl
                  have hJ6 := JK.of_open (w0 := w) hoj hok ho6 hg00.size (by have := hg00.size; have := ho5.size; omega) hr5
                  clear hoj hok
                  rcases hJ6 with ⟨rfl, rfl⟩ | ⟨jb, kb, J, rfl, rfl, hjb, hkb, hj6, hk6⟩
                  · skip
                    go_wp2_with fail
                    refine (equal_any hs6 ht6 hRn).mono ?_
                    rintro e w7 ⟨rfl, hk7⟩
                    rw [decide_eq_true (rfl : ol = ol)]
                    go_wp2_with fail
                    go_meet
                    exact ⟨R.2.1, R.1, rfl, hRl, IsErr.grown he6 hk7, ⟨hd6.grown hk7, hr6.grown hk7⟩, .inl ⟨rfl, rfl⟩, only_trans hg6 hk7⟩
                  · skip
                    go_wp2_with fail
                    refine (equal_any hs6 ht6 hRn).mono ?_
                    rintro e w7 ⟨rfl, hk7⟩
                    rw [decide_eq_true (rfl : ol = ol)]
                    go_wp2_with fail
                    go_meet
                    exact ⟨R.2.1, R.1, rfl, hRl, IsErr.grown he6 hk7, ⟨hd6.grown hk7, hr6.grown hk7⟩, .inr ⟨jb, kb, J, rfl, rfl, hjb, hkb, hj6.grown hk7 (by simp), hk6.grown hk7 (by simp)⟩, only_trans hg6 hk7⟩
                · as_aux_lemma =>
                  have hRl := jopen_lt D
                  have hRn := oRec_len hB0.d.ok
                  have HO := Lib.hid (open_uni hH0 hg0 hB0.d)
                  have HO2 := Lib.hid (fun (W : World) (hr : RDiskAt W r D) => ropen_uni hr)
                  generalize jopen D = R at *
                  generalize oSt R = os at *
                  generalize oRec R = ol at *
                  go_wp2_with fail
                  refine HO.out.mono ?_
                  rintro e w5 ⟨jv5, lv5, ev5, rfl, he5, hs5, hd5, ho5, hoj⟩
                  have hr5 := hB0.r.overD hB0.d ho5
                  go_wp2_with fail
                  refine (HO2.out _ hr5).mono ?_
                  rintro e w6 ⟨kv6, mv6, rfl, ht6, hr6, ho6, hok⟩
                  have hd6 := hd5.overR hr5 ho6
                  obtain ⟨c5, hr5b⟩ := hr5.blk
                  have he6 := IsErr.row he5 hr5b (by decide) ho6
                  have hs6 := hs5.row hr5b (by decide) ho6
                  have hg6 := grown_own (grown_own hg00 ho5 hgl) ho6 hrl
                  have hJ6 := JK.of_open (w0 := w) hoj hok ho6 hg00.size (by have := hg00.size; have := ho5.size; omega) hr5
                  clear hoj hok
                  rcases hJ6 with ⟨rfl, rfl⟩ | ⟨jb, kb, J, rfl, rfl, hjb, hkb, hj6, hk6⟩
                  · skip
                    go_wp2_with fail
                    refine (equal_any hs6 ht6 hRn).mono ?_
                    rintro e w7 ⟨rfl, hk7⟩
                    rw [decide_eq_true (rfl : ol = ol)]
                    go_wp2_with fail
                    go_meet
                    exact ⟨R.2.1, R.1, rfl, hRl, IsErr.grown he6 hk7, ⟨hd6.grown hk7, hr6.grown hk7⟩, .inl ⟨rfl, rfl⟩, only_trans hg6 hk7⟩
                  · skip
                    go_wp2_with fail
                    refine (equal_any hs6 ht6 hRn).mono ?_
                    rintro e w7 ⟨rfl, hk7⟩
                    rw [decide_eq_true (rfl : ol = ol)]
                    go_wp2_with fail
                    go_meet
                    exact ⟨R.2.1, R.1, rfl, hRl, IsErr.grown he6 hk7, ⟨hd6.grown hk7, hr6.grown hk7⟩, .inr ⟨jb, kb, J, rfl, rfl, hjb, hkb, hj6.grown hk7 (by simp), hk6.grown hk7 (by simp)⟩, only_trans hg6 hk7⟩
                · as_aux_lemma =>
                  have HA := Lib.hid (act_any hB0 (hA0.at_ hgl hrl))
                  go_wp2_with fail
                  refine HA.out.mono ?_
                  rintro e w5 ⟨rfl, hB5, tw5⟩
                  have hJ5 := hJ0.two hB0.d hB0.r tw5
                  have hg5 := grown_two hg00 tw5 hgl hrl
                  go_wp2_with fail
                  go_meet
                  exact ⟨_, 0, rfl, by decide, .inl ⟨rfl, rfl⟩, hB5, hJ5, hg5⟩
                · as_aux_lemma =>
                  have HA := Lib.hid (act_any hB0 (hA0.at_ hgl hrl))
                  go_wp2_with fail
                  refine HA.out.mono ?_
                  rintro e w5 ⟨rfl, hB5, tw5⟩
                  have hJ5 := hJ0.two hB0.d hB0.r tw5
                  have hg5 := grown_two hg00 tw5 hgl hrl
                  go_wp2_with fail
                  go_meet
                  exact ⟨_, 0, rfl, by decide, .inl ⟨rfl, rfl⟩, hB5, hJ5, hg5⟩
                · as_aux_lemma =>
                  rcases hJ0 with ⟨rfl, rfl⟩ | ⟨jb, kb, J, rfl, rfl, hjb, hkb, hj, hkk⟩
                  · have HN := Lib.hid (add_nil hH0 sb)
                    go_wp2_with fail
                    refine HN.out.mono ?_
                    rintro e w5 ⟨v5, rfl, he5, hk5⟩
                    go_wp2_with fail
                    go_meet
                    exact ⟨_, 128, rfl, by decide, he5, hB0.grown hk5, .inl ⟨rfl, rfl⟩, only_trans hg00 hk5⟩
                  · have HR := Lib.hid (radd_any hB0.r hkk sb (by omega))
                    have HJs := Lib.hid (fun (W : World) (hH : Hand W) (hd : DiskAt W g D) (hj : JrAt W jb g J) => add_any hH (by omega) hg0 hd hj sb (by omega))
                    have hRl := jadd_lt D J sb
                    generalize jadd D J sb = R at *
                    go_wp2_with fail
                    refine HR.out.mono ?_
                    rintro e w5 ⟨rfl, hr5, hk5, du5⟩
                    have hd5 := stand_prog hB0.d hB0.r hkk du5
                    have hj5 := stand_jr hj hB0.r hkk du5
                    have hg5 := grown_duo hg00 du5 hrl hkb
                    have hX5 := du5.keepBlk hX (Blk.ne_ hX hrb0 (by decide)) (Blk.ne_ hX hkk.blk (by decide))
                    have y1 := hX5.cell 1
                    go_wp2_with fail
                    refine (HJs.out w5 (hH.grown hg5 (by simp)) hd5 hj5).mono ?_
                    rintro e w6 ⟨v6, rfl, he6, hd6, hj6, du6⟩
                    have hr6 := stand_ref hr5 hd5 hj5 du6
                    have hk6 := stand_rjr hk5 hd5 hj5 du6
                    have hg6 := grown_duo hg5 du6 hgl hjb
                    go_wp2_with fail
                    go_meet
                    exact ⟨R.2.1, R.1, rfl, hRl, he6, ⟨hd6, hr6⟩, .inr ⟨jb, kb, R.2.2, rfl, rfl, hjb, hkb, hj6, hk6⟩, hg6⟩
                · as_aux_lemma =>
                  rcases hJ0 with ⟨rfl, rfl⟩ | ⟨jb, kb, J, rfl, rfl, hjb, hkb, hj, hkk⟩
                  · have HN := Lib.hid (add_nil hH0 sb)
                    go_wp2_with fail
                    refine HN.out.mono ?_
                    rintro e w5 ⟨v5, rfl, he5, hk5⟩
                    go_wp2_with fail
                    go_meet
                    exact ⟨_, 128, rfl, by decide, he5, hB0.grown hk5, .inl ⟨rfl, rfl⟩, only_trans hg00 hk5⟩
                  · have HR := Lib.hid (radd_any hB0.r hkk sb (by omega))
                    have HJs := Lib.hid (fun (W : World) (hH : Hand W) (hd : DiskAt W g D) (hj : JrAt W jb g J) => add_any hH (by omega) hg0 hd hj sb (by omega))
                    have hRl := jadd_lt D J sb
                    generalize jadd D J sb = R at *
                    go_wp2_with fail
                    refine HR.out.mono ?_
                    rintro e w5 ⟨rfl, hr5, hk5, du5⟩
                    have hd5 := stand_prog hB0.d hB0.r hkk du5
                    have hj5 := stand_jr hj hB0.r hkk du5
                    have hg5 := grown_duo hg00 du5 hrl hkb
                    have hX5 := du5.keepBlk hX (Blk.ne_ hX hrb0 (by decide)) (Blk.ne_ hX hkk.blk (by decide))
                    have y1 := hX5.cell 1
                    go_wp2_with fail
                    refine (HJs.out w5 (hH.grown hg5 (by simp)) hd5 hj5).mono ?_
                    rintro e w6 ⟨v6, rfl, he6, hd6, hj6, du6⟩
                    have hr6 := stand_ref hr5 hd5 hj5 du6
                    have hk6 := stand_rjr hk5 hd5 hj5 du6
                    have hg6 := grown_duo hg5 du6 hgl hjb
                    go_wp2_with fail
                    go_meet
                    exact ⟨R.2.1, R.1, rfl, hRl, he6, ⟨hd6, hr6⟩, .inr ⟨jb, kb, R.2.2, rfl, rfl, hjb, hkb, hj6, hk6⟩, hg6⟩
              case rest =>
                clear hcase hX x1 x2 x3 x4 x5 x6 hA0 hB0 hJ0 hg00 hH0 hgW hrb0
                obtain ⟨D2, cn, rfl, hcn, he2, hB2, hJ2, hg2⟩ := hcut
                have hH2 : Hand wc.drew := hH.grown (only_drew hg2) (by simp)
                have he2' := IsErr.grown he2 (only_drew (only_refl wc none))
                have hB2' := hB2.grown (only_drew (only_refl wc none))
                clear hf0 hf1 hcap hmost H0 H1 hs0 hs1 hz0 hz1 hi0 hi1 hi2 hi3 hRn hRl hfr hml hbw hScr hS hsb hsbz hbz
                go_upto_region 47 with fail
                rcases hJ2 with ⟨rfl, rfl⟩ | ⟨jb, kb, J, rfl, rfl, hjb, hkb, hj2, hk2⟩
                · as_aux_lemma =>
                  have HC := Lib.hid (code_any hH2 he2' hcn)
                  refine wp_region_held_drew (S := fun _ => True) (by kernel_rfl) trivial (fun hHeld => ?_)
                  refine wpAnyH_take (i := 0) (v := u14) rfl (by kernel_rfl) (by kernel_rfl) (by kernel_rfl) (fun _ _ _ h => h) (Or.inl ⟨by kernel_rfl, fun _ _ => by kernel_rfl⟩) (trivial) ?_
                  change wpAnyH _ _ _ _ _ _ _ (Act.put _ (some 186) _) _
                  refine wpAnyH_take (i := 2) (v := (.int .i64 (cn : Int))) rfl (by kernel_rfl) (by kernel_rfl) (by kernel_rfl) (fun _ _ _ h => h) (Or.inl ⟨by kernel_rfl, fun _ _ => by kernel_rfl⟩) (trivial) ?_
                  change wpAnyH _ _ _ _ _ _ _ (Act.put _ (some 188) _) _
                  try simp only [Act.put, List.setIfInBounds_toArray, List.set_cons_zero, List.set_cons_succ]
                  refine wpAnyH_ready (rs := [1]) (by kernel_rfl) (by simp) ?_
                  refine AllReadyH.cons rfl (fun K hK => ?_) AllReadyH.nil
                  go_simp
                  refine HC.out.mono ?_; rintro e w7 ⟨rfl, hk7⟩; have hB7 := hB2'.grown hk7
                  refine hK.out _ _ (trivial) (fun hHeld => ?_)
                  clear hK K
                  try simp only [Act.put, List.setIfInBounds_toArray, List.set_cons_zero, List.set_cons_succ]
                  refine wpAnyH_take (i := 3) (v := (.bool false)) rfl (by kernel_rfl) (by kernel_rfl) (by kernel_rfl) (fun _ _ _ h => h) (Or.inl ⟨by kernel_rfl, fun w hSw => ?_⟩) (trivial) ?_
                  · (try dsimp only at hSw)
                    go_simp
                  change wpAnyH _ _ _ _ _ _ _ (Act.put _ (some 189) _) _
                  try simp only [Act.put, List.setIfInBounds_toArray, List.set_cons_zero, List.set_cons_succ]
                  refine wpAnyH_take (i := 4) (v := (.bool false)) rfl (by kernel_rfl) (by kernel_rfl) (by kernel_rfl) (fun _ _ _ h => h) (Or.inl ⟨by kernel_rfl, fun _ _ => by kernel_rfl⟩) (trivial) ?_
                  change wpAnyH _ _ _ _ _ _ _ (Act.put _ (some 190) _) _
                  refine wpAnyH_take (i := 5) (v := (.pointer (some ⟨g, 0, none⟩))) rfl (by kernel_rfl) (by kernel_rfl) (by kernel_rfl) (fun _ _ _ h => h) (Or.inl ⟨by kernel_rfl, fun _ _ => by kernel_rfl⟩) (trivial) ?_
                  change wpAnyH _ _ _ _ _ _ _ (Act.put _ (some 191) _) _
                  refine wpAnyH_take (i := 6) (v := (.pointer (some ⟨r, 0, none⟩))) rfl (by kernel_rfl) (by kernel_rfl) (by kernel_rfl) (fun _ _ _ h => h) (Or.inl ⟨by kernel_rfl, fun _ _ => by kernel_rfl⟩) (trivial) ?_
                  change wpAnyH _ _ _ _ _ _ _ (Act.put _ (some 192) _) _
                  try simp only [Act.put, List.setIfInBounds_toArray, List.set_cons_zero, List.set_cons_succ]
                  refine wpAnyH_ready (rs := [7]) (by kernel_rfl) (by simp) ?_
                  refine AllReadyH.cons rfl (fun K hK => ?_) AllReadyH.nil
                  go_simp
                  refine (same_any hB7).mono ?_; rintro e w8 ⟨rfl, hk8⟩; have hB8 := hB7.grown hk8
                  refine hK.out _ _ (trivial) (fun hHeld => ?_)
                  clear hK K
                  try simp only [Act.put, List.setIfInBounds_toArray, List.set_cons_zero, List.set_cons_succ]
                  refine wpAnyH_take (i := 8) (v := (.bool false)) rfl (by kernel_rfl) (by kernel_rfl) (by kernel_rfl) (fun _ _ _ h => h) (Or.inl ⟨by kernel_rfl, fun _ _ => by kernel_rfl⟩) (trivial) ?_
                  change wpAnyH _ _ _ _ _ _ _ (Act.put _ (some 194) _) _
                  refine wpAnyH_take (i := 9) (v := (.bool false)) rfl (by kernel_rfl) (by kernel_rfl) (by kernel_rfl) (fun _ _ _ h => h) (Or.inl ⟨by kernel_rfl, fun _ _ => by kernel_rfl⟩) (trivial) ?_
                  change wpAnyH _ _ _ _ _ _ _ (Act.put _ (some 195) _) _
                  refine wpAnyH_take (i := 10) (v := (.bool false)) rfl (by kernel_rfl) (by kernel_rfl) (by kernel_rfl) (fun _ _ _ h => h) (Or.inl ⟨by kernel_rfl, fun _ _ => by kernel_rfl⟩) (trivial) ?_
                  change wpAnyH _ _ _ _ _ _ _ (Act.put _ (some 196) _) _
                  try simp only [Act.put, List.setIfInBounds_toArray, List.set_cons_zero, List.set_cons_succ]
                  refine wpAnyH_take (i := 11) (v := (.pointer none)) rfl (by kernel_rfl) (by kernel_rfl) (by kernel_rfl) (fun _ _ _ h => h) (Or.inl ⟨by kernel_rfl, fun _ _ => by kernel_rfl⟩) (trivial) ?_
                  change wpAnyH _ _ _ _ _ _ _ (Act.put _ (some 197) _) _
                  refine wpAnyH_take (i := 12) (v := (.bool false)) rfl (by kernel_rfl) (by kernel_rfl) (by kernel_rfl) (fun _ _ _ h => h) (Or.inl ⟨by kernel_rfl, fun _ _ => by kernel_rfl⟩) (trivial) ?_
                  change wpAnyH _ _ _ _ _ _ _ (Act.put _ (some 198) _) _
                  refine wpAnyH_take (i := 13) (v := (.bool false)) rfl (by kernel_rfl) (by kernel_rfl) (by kernel_rfl) (fun _ _ _ h => h) (Or.inl ⟨by kernel_rfl, fun _ _ => by kernel_rfl⟩) (trivial) ?_
                  change wpAnyH _ _ _ _ _ _ _ (Act.put _ (some 199) _) _
                  try simp only [Act.put, List.setIfInBounds_toArray, List.set_cons_zero, List.set_cons_succ]
                  refine wpAnyH_take (i := 14) (v := undef) rfl (by kernel_rfl) (by kernel_rfl) (by kernel_rfl) (fun _ _ _ h => h) (Or.inr ⟨by kernel_rfl, rfl⟩) (trivial) ?_
                  change wpAnyH _ _ _ _ _ _ _ (Act.put _ (some 200) _) _
                  refine wpAnyH_take (i := 15) (v := undef) rfl (by kernel_rfl) (by kernel_rfl) (by kernel_rfl) (fun _ _ _ h => h) (Or.inr ⟨by kernel_rfl, rfl⟩) (trivial) ?_
                  change wpAnyH _ _ _ _ _ _ _ (Act.put _ (some 201) _) _
                  refine wpAnyH_take (i := 16) (v := undef) rfl (by kernel_rfl) (by kernel_rfl) (by kernel_rfl) (fun _ _ _ h => h) (Or.inr ⟨by kernel_rfl, rfl⟩) (trivial) ?_
                  change wpAnyH _ _ _ _ _ _ _ (Act.put _ (some 202) _) _
                  try simp only [Act.put, List.setIfInBounds_toArray, List.set_cons_zero, List.set_cons_succ]
                  refine wpAnyH_take (i := 17) (v := undef) rfl (by kernel_rfl) (by kernel_rfl) (by kernel_rfl) (fun _ _ _ h => h) (Or.inr ⟨by kernel_rfl, rfl⟩) (trivial) ?_
                  change wpAnyH _ _ _ _ _ _ _ (Act.put _ (some 203) _) _
                  refine wpAnyH_take (i := 18) (v := undef) rfl (by kernel_rfl) (by kernel_rfl) (by kernel_rfl) (fun _ _ _ h => h) (Or.inr ⟨by kernel_rfl, rfl⟩) (trivial) ?_
                  change wpAnyH _ _ _ _ _ _ _ (Act.put _ (some 204) _) _
                  refine wpAnyH_take (i := 19) (v := undef) rfl (by kernel_rfl) (by kernel_rfl) (by kernel_rfl) (fun _ _ _ h => h) (Or.inr ⟨by kernel_rfl, rfl⟩) (trivial) ?_
                  change wpAnyH _ _ _ _ _ _ _ (Act.put _ (some 205) _) _
                  try simp only [Act.put, List.setIfInBounds_toArray, List.set_cons_zero, List.set_cons_succ]
                  refine wpAnyH_take (i := 20) (v := undef) rfl (by kernel_rfl) (by kernel_rfl) (by kernel_rfl) (fun _ _ _ h => h) (Or.inr ⟨by kernel_rfl, rfl⟩) (trivial) ?_
                  change wpAnyH _ _ _ _ _ _ _ (Act.put _ (some 206) _) _
                  refine wpAnyH_take (i := 21) (v := (.bool false)) rfl (by kernel_rfl) (by kernel_rfl) (by kernel_rfl) (fun _ _ _ h => h) (Or.inl ⟨by kernel_rfl, fun _ _ => by kernel_rfl⟩) (trivial) ?_
                  change wpAnyH _ _ _ _ _ _ _ (Act.put _ (some 207) _) _
                  refine wpAnyH_take (i := 22) (v := (.bool false)) rfl (by kernel_rfl) (by kernel_rfl) (by kernel_rfl) (fun _ _ _ h => h) (Or.inl ⟨by kernel_rfl, fun _ _ => by kernel_rfl⟩) (trivial) ?_
                  change wpAnyH _ _ _ _ _ _ _ (Act.put _ (some 208) _) _
                  try simp only [Act.put, List.setIfInBounds_toArray, List.set_cons_zero, List.set_cons_succ]
                  refine wpAnyH_take (i := 23) (v := (.bool false)) rfl (by kernel_rfl) (by kernel_rfl) (by kernel_rfl) (fun _ _ _ h => h) (Or.inl ⟨by kernel_rfl, fun _ _ => by kernel_rfl⟩) (trivial) ?_
                  change wpAnyH _ _ _ _ _ _ _ (Act.put _ (some 209) _) _
                  refine wpAnyH_take (i := 24) (v := (.pointer none)) rfl (by kernel_rfl) (by kernel_rfl) (by kernel_rfl) (fun _ _ _ h => h) (Or.inl ⟨by kernel_rfl, fun _ _ => by kernel_rfl⟩) (trivial) ?_
                  change wpAnyH _ _ _ _ _ _ _ (Act.put _ (some 210) _) _
                  refine wpAnyH_take (i := 25) (v := (.bool true)) rfl (by kernel_rfl) (by kernel_rfl) (by kernel_rfl) (fun _ _ _ h => h) (Or.inl ⟨by kernel_rfl, fun _ _ => by kernel_rfl⟩) (trivial) ?_
                  change wpAnyH _ _ _ _ _ _ _ (Act.put _ (some 211) _) _
                  try simp only [Act.put, List.setIfInBounds_toArray, List.set_cons_zero, List.set_cons_succ]
                  refine wpAnyH_take (i := 26) (v := (.bool true)) rfl (by kernel_rfl) (by kernel_rfl) (by kernel_rfl) (fun _ _ _ h => h) (Or.inl ⟨by kernel_rfl, fun _ _ => by kernel_rfl⟩) (trivial) ?_
                  change wpAnyH _ _ _ _ _ _ _ (Act.put _ (some 212) _) _
                  refine wpAnyH_take (i := 27) (v := (.pointer none)) rfl (by kernel_rfl) (by kernel_rfl) (by kernel_rfl) (fun _ _ _ h => h) (Or.inl ⟨by kernel_rfl, fun _ _ => by kernel_rfl⟩) (trivial) ?_
                  change wpAnyH _ _ _ _ _ _ _ (Act.put _ (some 213) _) _
                  try simp only [Act.put, List.setIfInBounds_toArray, List.set_cons_zero, List.set_cons_succ]
                  refine wpAnyH_ready (rs := [28]) (by kernel_rfl) (by simp) ?_
                  refine AllReadyH.cons rfl (fun K hK => ?_) AllReadyH.nil
                  go_simp
                  refine gen_nil.mono ?_; rintro e w9 ⟨rfl, rfl⟩
                  refine hK.out _ _ (trivial) (fun hHeld => ?_)
                  clear hK K
                  refine wpAnyH_take (i := 29) (v := (.bool false)) rfl (by kernel_rfl) (by kernel_rfl) (by kernel_rfl) (fun _ _ _ h => h) (Or.inl ⟨by kernel_rfl, fun _ _ => by kernel_rfl⟩) (trivial) ?_
                  change wpAnyH _ _ _ _ _ _ _ (Act.put _ (some 215) _) _
                  try simp only [Act.put, List.setIfInBounds_toArray, List.set_cons_zero, List.set_cons_succ]
                  refine wpAnyH_take (i := 30) (v := (.bool false)) rfl (by kernel_rfl) (by kernel_rfl) (by kernel_rfl) (fun _ _ _ h => h) (Or.inl ⟨by kernel_rfl, fun _ _ => by kernel_rfl⟩) (trivial) ?_
                  change wpAnyH _ _ _ _ _ _ _ (Act.put _ (some 216) _) _
                  refine wpAnyH_take (i := 31) (v := (.bool false)) rfl (by kernel_rfl) (by kernel_rfl) (by kernel_rfl) (fun _ _ _ h => h) (Or.inl ⟨by kernel_rfl, fun _ _ => by kernel_rfl⟩) (trivial) ?_
                  change wpAnyH _ _ _ _ _ _ _ (Act.put _ (some 217) _) _
                  try simp only [Act.put, List.setIfInBounds_toArray, List.set_cons_zero, List.set_cons_succ]
                  refine wpAnyH_done (by kernel_rfl) ?_ _
                  go_wp2_with fail
                  go_roundw
                  case rel => exact ⟨m + 1, D2, by omega, by simp, hB8, .inl ⟨rfl, rfl⟩, only_trans (only_trans (only_drew hg2) hk7) hk8⟩
                  case measure =>
                    show n - (intOf (Value.int .i64 ((m : Int) + 1))).toNat < n - (intOf (Value.int .i64 (m : Int))).toNat
                    simp only [intOf]
                    omega
                · as_aux_lemma =>
                  have HC := Lib.hid (code_any hH2 he2' hcn)
                  have hj2' := hj2.grown (only_drew (only_refl wc none)) (by simp)
                  have hk2' := hk2.grown (only_drew (only_refl wc none)) (by simp)
                  have k2 := hk2.cells.2.2.1
                  refine wp_region_held_drew (S := fun w' => w'.cell? ⟨kb, 2, none⟩ = some (.int .i64 (J.gen : Int))) (by kernel_rfl) hk2'.cells.2.2.1 (fun hHeld => ?_)
                  refine wpAnyH_take (i := 0) (v := u14) rfl (by kernel_rfl) (by kernel_rfl) (by kernel_rfl) (fun _ _ _ h => h) (Or.inl ⟨by kernel_rfl, fun _ _ => by kernel_rfl⟩) (by assumption) ?_
                  change wpAnyH _ _ _ _ _ _ _ (Act.put _ (some 186) _) _
                  refine wpAnyH_take (i := 2) (v := (.int .i64 (cn : Int))) rfl (by kernel_rfl) (by kernel_rfl) (by kernel_rfl) (fun _ _ _ h => h) (Or.inl ⟨by kernel_rfl, fun _ _ => by kernel_rfl⟩) (by assumption) ?_
                  change wpAnyH _ _ _ _ _ _ _ (Act.put _ (some 188) _) _
                  try simp only [Act.put, List.setIfInBounds_toArray, List.set_cons_zero, List.set_cons_succ]
                  refine wpAnyH_ready (rs := [1]) (by kernel_rfl) (by simp) ?_
                  refine AllReadyH.cons rfl (fun K hK => ?_) AllReadyH.nil
                  go_simp
                  refine HC.out.mono ?_; rintro e w7 ⟨rfl, hk7⟩; have hB7 := hB2'.grown hk7; have hj7 := hj2'.grown hk7 (by simp); have hk7' := hk2'.grown hk7 (by simp); have k7 := hk7'.cells.2.2.1
                  refine hK.out _ _ (by assumption) (fun hHeld => ?_)
                  clear hK K
                  try simp only [Act.put, List.setIfInBounds_toArray, List.set_cons_zero, List.set_cons_succ]
                  refine wpAnyH_take (i := 3) (v := (.bool false)) rfl (by kernel_rfl) (by kernel_rfl) (by kernel_rfl) (fun _ _ _ h => h) (Or.inl ⟨by kernel_rfl, fun w hSw => ?_⟩) (by assumption) ?_
                  · (try dsimp only at hSw)
                    go_simp
                  change wpAnyH _ _ _ _ _ _ _ (Act.put _ (some 189) _) _
                  try simp only [Act.put, List.setIfInBounds_toArray, List.set_cons_zero, List.set_cons_succ]
                  refine wpAnyH_take (i := 4) (v := (.bool false)) rfl (by kernel_rfl) (by kernel_rfl) (by kernel_rfl) (fun _ _ _ h => h) (Or.inl ⟨by kernel_rfl, fun _ _ => by kernel_rfl⟩) (by assumption) ?_
                  change wpAnyH _ _ _ _ _ _ _ (Act.put _ (some 190) _) _
                  refine wpAnyH_take (i := 5) (v := (.pointer (some ⟨g, 0, none⟩))) rfl (by kernel_rfl) (by kernel_rfl) (by kernel_rfl) (fun _ _ _ h => h) (Or.inl ⟨by kernel_rfl, fun _ _ => by kernel_rfl⟩) (by assumption) ?_
                  change wpAnyH _ _ _ _ _ _ _ (Act.put _ (some 191) _) _
                  refine wpAnyH_take (i := 6) (v := (.pointer (some ⟨r, 0, none⟩))) rfl (by kernel_rfl) (by kernel_rfl) (by kernel_rfl) (fun _ _ _ h => h) (Or.inl ⟨by kernel_rfl, fun _ _ => by kernel_rfl⟩) (by assumption) ?_
                  change wpAnyH _ _ _ _ _ _ _ (Act.put _ (some 192) _) _
                  try simp only [Act.put, List.setIfInBounds_toArray, List.set_cons_zero, List.set_cons_succ]
                  refine wpAnyH_ready (rs := [7]) (by kernel_rfl) (by simp) ?_
                  refine AllReadyH.cons rfl (fun K hK => ?_) AllReadyH.nil
                  go_simp
                  refine (same_any hB7).mono ?_; rintro e w8 ⟨rfl, hk8⟩; have hB8 := hB7.grown hk8; have hj8 := hj7.grown hk8 (by simp); have hk8' := hk7'.grown hk8 (by simp); have k8 := hk8'.cells.2.2.1
                  refine hK.out _ _ (by assumption) (fun hHeld => ?_)
                  clear hK K
                  try simp only [Act.put, List.setIfInBounds_toArray, List.set_cons_zero, List.set_cons_succ]
                  refine wpAnyH_take (i := 8) (v := (.bool false)) rfl (by kernel_rfl) (by kernel_rfl) (by kernel_rfl) (fun _ _ _ h => h) (Or.inl ⟨by kernel_rfl, fun _ _ => by kernel_rfl⟩) (by assumption) ?_
                  change wpAnyH _ _ _ _ _ _ _ (Act.put _ (some 194) _) _
                  refine wpAnyH_take (i := 9) (v := (.bool false)) rfl (by kernel_rfl) (by kernel_rfl) (by kernel_rfl) (fun _ _ _ h => h) (Or.inl ⟨by kernel_rfl, fun _ _ => by kernel_rfl⟩) (by assumption) ?_
                  change wpAnyH _ _ _ _ _ _ _ (Act.put _ (some 195) _) _
                  refine wpAnyH_take (i := 10) (v := (.bool false)) rfl (by kernel_rfl) (by kernel_rfl) (by kernel_rfl) (fun _ _ _ h => h) (Or.inl ⟨by kernel_rfl, fun _ _ => by kernel_rfl⟩) (by assumption) ?_
                  change wpAnyH _ _ _ _ _ _ _ (Act.put _ (some 196) _) _
                  try simp only [Act.put, List.setIfInBounds_toArray, List.set_cons_zero, List.set_cons_succ]
                  refine wpAnyH_take (i := 11) (v := (.pointer (some ⟨kb, 0, none⟩))) rfl (by kernel_rfl) (by kernel_rfl) (by kernel_rfl) (fun _ _ _ h => h) (Or.inl ⟨by kernel_rfl, fun _ _ => by kernel_rfl⟩) (by assumption) ?_
                  change wpAnyH _ _ _ _ _ _ _ (Act.put _ (some 197) _) _
                  refine wpAnyH_take (i := 12) (v := (.bool true)) rfl (by kernel_rfl) (by kernel_rfl) (by kernel_rfl) (fun _ _ _ h => h) (Or.inl ⟨by kernel_rfl, fun _ _ => by kernel_rfl⟩) (by assumption) ?_
                  change wpAnyH _ _ _ _ _ _ _ (Act.put _ (some 198) _) _
                  refine wpAnyH_take (i := 13) (v := (.bool true)) rfl (by kernel_rfl) (by kernel_rfl) (by kernel_rfl) (fun _ _ _ h => h) (Or.inl ⟨by kernel_rfl, fun _ _ => by kernel_rfl⟩) (by assumption) ?_
                  change wpAnyH _ _ _ _ _ _ _ (Act.put _ (some 199) _) _
                  try simp only [Act.put, List.setIfInBounds_toArray, List.set_cons_zero, List.set_cons_succ]
                  refine wpAnyH_take (i := 14) (v := (.pointer (some ⟨jb, 0, none⟩))) rfl (by kernel_rfl) (by kernel_rfl) (by kernel_rfl) (fun _ _ _ h => h) (Or.inl ⟨by kernel_rfl, fun _ _ => by kernel_rfl⟩) (by assumption) ?_
                  change wpAnyH _ _ _ _ _ _ _ (Act.put _ (some 200) _) _
                  refine wpAnyH_take (i := 16) (v := (.pointer (some ⟨kb, 0, none⟩))) rfl (by kernel_rfl) (by kernel_rfl) (by kernel_rfl) (fun _ _ _ h => h) (Or.inl ⟨by kernel_rfl, fun _ _ => by kernel_rfl⟩) (by assumption) ?_
                  change wpAnyH _ _ _ _ _ _ _ (Act.put _ (some 202) _) _
                  refine wpAnyH_take (i := 17) (v := (.pointer (some ⟨kb, 0, none⟩))) rfl (by kernel_rfl) (by kernel_rfl) (by kernel_rfl) (fun _ _ _ h => h) (Or.inl ⟨by kernel_rfl, fun _ _ => by kernel_rfl⟩) (by assumption) ?_
                  change wpAnyH _ _ _ _ _ _ _ (Act.put _ (some 203) _) _
                  try simp only [Act.put, List.setIfInBounds_toArray, List.set_cons_zero, List.set_cons_succ]
                  refine wpAnyH_take (i := 18) (v := (.pointer (some ⟨kb, 2, none⟩))) rfl (by kernel_rfl) (by kernel_rfl) (by kernel_rfl) (fun _ _ _ h => h) (Or.inl ⟨by kernel_rfl, fun _ _ => by kernel_rfl⟩) (by assumption) ?_
                  change wpAnyH _ _ _ _ _ _ _ (Act.put _ (some 204) _) _
                  try simp only [Act.put, List.setIfInBounds_toArray, List.set_cons_zero, List.set_cons_succ]
                  refine wpAnyH_take (i := 19) (v := (.int .i64 (J.gen : Int))) rfl (by kernel_rfl) (by kernel_rfl) (by kernel_rfl) (fun _ _ _ h => h) (Or.inl ⟨by kernel_rfl, fun w hSw => ?_⟩) (by assumption) ?_
                  · (try dsimp only at hSw)
                    go_simp
                  change wpAnyH _ _ _ _ _ _ _ (Act.put _ (some 205) _) _
                  try simp only [Act.put, List.setIfInBounds_toArray, List.set_cons_zero, List.set_cons_succ]
                  refine wpAnyH_ready (rs := [15]) (by kernel_rfl) (by simp) ?_
                  refine AllReadyH.cons rfl (fun K hK => ?_) AllReadyH.nil
                  go_simp
                  refine (gen_any hj8).mono ?_; rintro e w9 ⟨rfl, rfl⟩
                  refine hK.out _ _ (by assumption) (fun hHeld => ?_)
                  clear hK K
                  try simp only [Act.put, List.setIfInBounds_toArray, List.set_cons_zero, List.set_cons_succ]
                  refine wpAnyH_take (i := 20) (v := (.bool false)) rfl (by kernel_rfl) (by kernel_rfl) (by kernel_rfl) (fun _ _ _ h => h) (Or.inl ⟨by kernel_rfl, fun w hSw => ?_⟩) (by assumption) ?_
                  · (try dsimp only at hSw)
                    go_simp
                  change wpAnyH _ _ _ _ _ _ _ (Act.put _ (some 206) _) _
                  refine wpAnyH_take (i := 21) (v := (.bool false)) rfl (by kernel_rfl) (by kernel_rfl) (by kernel_rfl) (fun _ _ _ h => h) (Or.inl ⟨by kernel_rfl, fun _ _ => by kernel_rfl⟩) (by assumption) ?_
                  change wpAnyH _ _ _ _ _ _ _ (Act.put _ (some 207) _) _
                  refine wpAnyH_take (i := 22) (v := (.bool false)) rfl (by kernel_rfl) (by kernel_rfl) (by kernel_rfl) (fun _ _ _ h => h) (Or.inl ⟨by kernel_rfl, fun _ _ => by kernel_rfl⟩) (by assumption) ?_
                  change wpAnyH _ _ _ _ _ _ _ (Act.put _ (some 208) _) _
                  try simp only [Act.put, List.setIfInBounds_toArray, List.set_cons_zero, List.set_cons_succ]
                  refine wpAnyH_take (i := 23) (v := (.bool false)) rfl (by kernel_rfl) (by kernel_rfl) (by kernel_rfl) (fun _ _ _ h => h) (Or.inl ⟨by kernel_rfl, fun _ _ => by kernel_rfl⟩) (by assumption) ?_
                  change wpAnyH _ _ _ _ _ _ _ (Act.put _ (some 209) _) _
                  refine wpAnyH_take (i := 24) (v := (.pointer (some ⟨kb, 0, none⟩))) rfl (by kernel_rfl) (by kernel_rfl) (by kernel_rfl) (fun _ _ _ h => h) (Or.inl ⟨by kernel_rfl, fun _ _ => by kernel_rfl⟩) (by assumption) ?_
                  change wpAnyH _ _ _ _ _ _ _ (Act.put _ (some 210) _) _
                  refine wpAnyH_take (i := 25) (v := (.bool false)) rfl (by kernel_rfl) (by kernel_rfl) (by kernel_rfl) (fun _ _ _ h => h) (Or.inl ⟨by kernel_rfl, fun _ _ => by kernel_rfl⟩) (by assumption) ?_
                  change wpAnyH _ _ _ _ _ _ _ (Act.put _ (some 211) _) _
                  try simp only [Act.put, List.setIfInBounds_toArray, List.set_cons_zero, List.set_cons_succ]
                  refine wpAnyH_take (i := 26) (v := (.bool false)) rfl (by kernel_rfl) (by kernel_rfl) (by kernel_rfl) (fun _ _ _ h => h) (Or.inl ⟨by kernel_rfl, fun _ _ => by kernel_rfl⟩) (by assumption) ?_
                  change wpAnyH _ _ _ _ _ _ _ (Act.put _ (some 212) _) _
                  refine wpAnyH_take (i := 27) (v := undef) rfl (by kernel_rfl) (by kernel_rfl) (by kernel_rfl) (fun _ _ _ h => h) (Or.inr ⟨by kernel_rfl, rfl⟩) (by assumption) ?_
                  change wpAnyH _ _ _ _ _ _ _ (Act.put _ (some 213) _) _
                  refine wpAnyH_take (i := 28) (v := undef) rfl (by kernel_rfl) (by kernel_rfl) (by kernel_rfl) (fun _ _ _ h => h) (Or.inr ⟨by kernel_rfl, rfl⟩) (by assumption) ?_
                  change wpAnyH _ _ _ _ _ _ _ (Act.put _ (some 214) _) _
                  try simp only [Act.put, List.setIfInBounds_toArray, List.set_cons_zero, List.set_cons_succ]
                  refine wpAnyH_take (i := 29) (v := undef) rfl (by kernel_rfl) (by kernel_rfl) (by kernel_rfl) (fun _ _ _ h => h) (Or.inr ⟨by kernel_rfl, rfl⟩) (by assumption) ?_
                  change wpAnyH _ _ _ _ _ _ _ (Act.put _ (some 215) _) _
                  refine wpAnyH_take (i := 30) (v := (.bool false)) rfl (by kernel_rfl) (by kernel_rfl) (by kernel_rfl) (fun _ _ _ h => h) (Or.inl ⟨by kernel_rfl, fun _ _ => by kernel_rfl⟩) (by assumption) ?_
                  change wpAnyH _ _ _ _ _ _ _ (Act.put _ (some 216) _) _
                  refine wpAnyH_take (i := 31) (v := (.bool false)) rfl (by kernel_rfl) (by kernel_rfl) (by kernel_rfl) (fun _ _ _ h => h) (Or.inl ⟨by kernel_rfl, fun _ _ => by kernel_rfl⟩) (by assumption) ?_
                  change wpAnyH _ _ _ _ _ _ _ (Act.put _ (some 217) _) _
                  try simp only [Act.put, List.setIfInBounds_toArray, List.set_cons_zero, List.set_cons_succ]
                  refine wpAnyH_done (by kernel_rfl) ?_ _
                  clear HC hk2' hj2' k2 k7 k8 hHeld hj2 hk2 hj7 hk7' hH2 he2 he2' hB2'
                  go_wp2_with fail
                  go_roundw
                  case rel =>
                    have hJK : JK w w8 g r (.pointer (some ⟨jb, 0, none⟩)) (.pointer (some ⟨kb, 0, none⟩)) := .inr ⟨jb, kb, J, rfl, rfl, hjb, hkb, hj8, hk8'⟩
                    exact ⟨m + 1, D2, by omega, by simp, hB8, hJK, only_trans (only_trans (only_drew hg2) hk7) hk8⟩
                  case measure =>
                    show n - (intOf (Value.int .i64 ((m : Int) + 1))).toNat < n - (intOf (Value.int .i64 (m : Int))).toNat
                    simp only [intOf]
                    omega
            · obtain rfl : m = n := by omega
              go_wp2_with fail
              go_ret
              exact ⟨rfl, hgr⟩
end
end Go.Proofs.YtklcpckjmncdkaaGreatDoor
