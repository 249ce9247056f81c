/- THE WALK of the statement JournalAny. -/
import Derived.Test.YtklcpckjmncdkaaDoorApp
import Derived.Test.YtklcpckjmncdkaaDoorAnyLaw2
namespace Go.Proofs.YtklcpckjmncdkaaDoor
set_option maxRecDepth 100000
open Go.RowKit

theorem new_gd : Dk.new 4194304 = gd 0 strE strE 0 0 := rfl
theorem size_nil {s : ByteArray} (h : s.size = 0) : s = ⟨#[]⟩ := by
  apply ByteArray.ext
  exact Array.eq_empty_of_size_eq_zero h
theorem app_one {s : ByteArray} (h : s.size ≤ 100000) : ((gd 0 strE strE 0 0).append 0 s).2 = gd 0 s strE 0 0 := by
  by_cases h0 : s.size = 0
  · rw [size_nil h0]; rfl
  · rw [append_quiet (gd_quiet _ _ _ _ _) (.inl rfl) (by show 0 + 0 + s.size ≤ 4194304; omega) h0]
    simp only
    rw [gd_put (.inl rfl), strE, empty_append']
theorem app_two {s0 s : ByteArray} (h1 : s0.size ≤ 100000) (h : s.size ≤ 100000) : ((gd 0 s0 strE s0.size 0).append 1 s).2 = gd 0 s0 s s0.size 0 := by
  by_cases h0 : s.size = 0
  · rw [size_nil h0]
    unfold Dk.append
    rw [if_neg (by rw [find_quiet (gd_quiet _ _ _ _ _) (.inr rfl)]; decide), if_neg (by show ¬ 4194304 < s0.size + 0 + 0; omega), if_pos (show (⟨#[]⟩ : ByteArray).size = 0 from rfl)]
    rfl
  · rw [append_quiet (gd_quiet _ _ _ _ _) (.inr rfl) (by show s0.size + 0 + s.size ≤ 4194304; omega) h0]
    show gd 0 s0 (strE ++ s) s0.size 0 = _
    rw [strE, empty_append']
theorem syn_one (s : ByteArray) : ((gd 0 s strE 0 0).doSync 0).2 = gd 0 s strE s.size 0 := by rw [sync_quiet (gd_quiet _ _ _ _ _) (.inl rfl)]; rfl
theorem syn_two (s0 s : ByteArray) : ((gd 0 s0 s s0.size 0).doSync 1).2 = gd 0 s0 s s0.size s.size := by rw [sync_quiet (gd_quiet _ _ _ _ _) (.inr rfl)]; rfl

theorem grown_more {w a b : World} (h : w.grownBy a none) (k : Below w.heap.size a b) : w.grownBy b none :=
  ⟨k.os.trans h.os, k.tape.trans h.tape, k.output.trans h.output, Nat.le_trans h.size k.size, fun i hi _ => (k.block i hi).trans (h.block i hi (by simp))⟩
theorem StrsAt.own {w w' : World} {B g : Nat} {v : Value} {l : List ByteArray} {D : Dk} (h : StrsAt w B v l) (hg : w.grownBy w' (some g)) (hd : DiskAt w g D) : StrsAt w' B v l := by
  obtain ⟨⟨kv, hb, _⟩, _⟩ := hd
  exact h.kept fun b _ _ hk => hk.grown hg (by simpa using Blk.ne_ hk hb (by decide))
section
variable {w : World}
theorem code_241 {v : Value} (hH : Hand w) (h : IsErr w v 241) : Calls Tryd.prog 13 #[v] w fun e w' => e = .returned (.int .i64 241) ∧ w.grownBy w' none := code_any hH h (by decide)
set_option maxHeartbeats 6400000 in
theorem any_walk (hH : Hand w) (f0 f1 : ByteArray) (hf0 : f0.size ≤ maxLen) (hf1 : f1.size ≤ maxLen) (v1 : Value) (l1 : List ByteArray) (hv1 : Strs w v1 l1) (hl1 : ∀ t ∈ l1, t.size ≤ maxLen) :
    Calls Tryd.prog 3 #[.agg #[.string f0, .string f1], v1] w fun e w' => e = .returned (.bool true) ∧ w.grownBy w' none := by
  have h0 := Hand.lt hH
  obtain ⟨A0, c0, rfl, hc0, hcell0⟩ := hv1
  have H0 := Lib.hid (fun W => new_any 4194304 W)
  obtain ⟨s0, hs0⟩ : ∃ s0, f0.extract 0 (min (f0.size : Int) 100000).toNat = s0 := ⟨_, rfl⟩
  obtain ⟨s1, hs1⟩ : ∃ s1, f1.extract 0 (min (f1.size : Int) 100000).toNat = s1 := ⟨_, rfl⟩
  have hz0 : s0.size ≤ 100000 := by rw [← hs0, ByteArray.size_extract]; omega
  have hz1 : s1.size ≤ 100000 := by rw [← hs1, ByteArray.size_extract]; omega
  have hbx0 : Blk (w.alloc (.cells #[.string f0, .string f1] 22)) w.heap.size 22 #[.string f0, .string f1] := Blk.new w _ _
  have hgx : w.grownBy (w.alloc (.cells #[.string f0, .string f1] 22)) none := only_alloc (only_refl w none) _
  unfold maxLen at hf0 hf1
  have hi0 : (0 : Int) ≤ min (f0.size : Int) 100000 := by omega
  have hi1 : min (f0.size : Int) 100000 ≤ (f0.size : Int) := by omega
  have hi2 : (0 : Int) ≤ min (f1.size : Int) 100000 := by omega
  have hi3 : min (f1.size : Int) 100000 ≤ (f1.size : Int) := by omega
  go_enter Tryd.func3, Tryd.ntmps3
  go_wp2_with fail
  refine (H0.out _).mono ?_
  rintro e w1 ⟨g, rfl, hgw, hd1, hk1⟩
  rw [new_gd] at hd1
  have hg1 := only_trans hgx hk1
  have hbx1 := hbx0.grown hk1 (by simp)
  have hgw' : w.heap.size + 1 ≤ g := by simpa using hgw
  have hg0 : 0 < g := by omega
  clear hbx0
  go_wp2_with fail
  go_loopw [18] (fun iv wr => ∃ m : Nat, iv = .int .i64 (m : Int) ∧ m ≤ 2 ∧ DiskAt wr g (if m = 0 then gd 0 strE strE 0 0 else if m = 1 then gd 0 s0 strE s0.size 0 else gd 0 s0 s1 s0.size s1.size) ∧ Blk wr w.heap.size 22 #[.string f0, .string f1] ∧ w.grownBy wr none) (fun iv _ => 2 - (intOf iv).toNat)
  case atStart => exact ⟨0, rfl, by omega, hd1, hbx1, hg1⟩
  case round =>
    obtain ⟨m, rfl, hm, hdr, hbxr, hgr⟩ := hrel
    have hp0 : w.heap.size ≠ g := by omega
    by_cases hm0 : m = 0
    · subst hm0
      have c0' : wr.cell? ⟨w.heap.size, 0, none⟩ = some (.string f0) := hbxr.cell 0
      have hdr' : DiskAt wr g (gd 0 strE strE 0 0) := hdr
      have hA := append_any (hdr'.grown (only_drew (only_refl wr none))) 0 s0 (by unfold maxLen; omega)
      rw [app_one hz0] at hA
      have HA := Lib.hid hA
      clear hdr hA
      go_wp2_with fail
      go_region_held3 (fun w' => w'.cell? ⟨w.heap.size, 0, none⟩ = some (.string f0)) (first | go_keep | assumption)
        (first
          | (go_at_call 9; refine HA.out.mono ?_; rintro e w3 ⟨rfl, hd3, ho3⟩; have k0 := ho3.cell (a := ⟨w.heap.size, 0, none⟩) c0' (by simpa using hp0)))
      have hS := sync_any hd3 0
      rw [show ((gd 0 s0 strE 0 0).doSync 0).2 = _ from syn_one s0] at hS
      have HS := Lib.hid hS
      go_wp2_with fail
      refine HS.out.mono ?_
      rintro e w4 ⟨rfl, hd4, ho4⟩
      go_wp2_with fail
      refine ⟨⟨1, rfl, by omega, hd4, (((hbxr.drew).grown ho3 (by simpa using hp0)).grown ho4 (by simpa using hp0)), grown_own (grown_own (only_drew hgr) ho3 (by omega)) ho4 (by omega)⟩, by simp [intOf]⟩
    · by_cases hm1 : m = 1
      · subst hm1
        have c0' : wr.cell? ⟨w.heap.size, 1, none⟩ = some (.string f1) := hbxr.cell 1
        have hdr' : DiskAt wr g (gd 0 s0 strE s0.size 0) := hdr
        have hA := append_any (hdr'.grown (only_drew (only_refl wr none))) 1 s1 (by unfold maxLen; omega)
        rw [app_two hz0 hz1] at hA
        have HA := Lib.hid hA
        clear hdr hA
        go_wp2_with fail
        go_region_held3 (fun w' => w'.cell? ⟨w.heap.size, 1, none⟩ = some (.string f1)) (first | go_keep | assumption)
          (first
            | (go_at_call 9; refine HA.out.mono ?_; rintro e w3 ⟨rfl, hd3, ho3⟩; have k0 := ho3.cell (a := ⟨w.heap.size, 1, none⟩) c0' (by simpa using hp0)))
        have hS := sync_any hd3 1
        rw [show ((gd 0 s0 s1 s0.size 0).doSync 1).2 = _ from syn_two s0 s1] at hS
        have HS := Lib.hid hS
        go_wp2_with fail
        refine HS.out.mono ?_
        rintro e w4 ⟨rfl, hd4, ho4⟩
        go_wp2_with fail
        refine ⟨⟨2, rfl, by omega, hd4, (((hbxr.drew).grown ho3 (by simpa using hp0)).grown ho4 (by simpa using hp0)), grown_own (grown_own (only_drew hgr) ho3 (by omega)) ho4 (by omega)⟩, by simp [intOf]⟩
      · obtain rfl : m = 2 := by omega
        have hdr' : DiskAt wr g (gd 0 s0 s1 s0.size s1.size) := hdr
        have hws := hgr.size
        have H1 := open_any (hH.grown hgr (by simp)) hg0 hdr'
        clear hdr hs0 hs1
        rcases any_open hz0 hz1 with ⟨D2, J2, I2, eo⟩ | ⟨D2, o, gen, I, eo, hgs⟩
        · rw [eo] at H1
          have H1 := Lib.hid H1
          go_wp2_with fail
          refine H1.out.mono ?_
          rintro e w2 ⟨hd2, hk2, hres⟩
          rcases hres with ⟨h, _⟩ | ⟨_, v2, rfl, he2⟩
          · cases h
          simp only at he2
          have hg2 := grown_own hgr hk2 (by omega)
          obtain ⟨p, rfl, hf⟩ := isErr_yes (by decide) he2
          go_wp2_with fail
          refine (wakes_any (hH.grown hg2 (by simp))).mono ?_
          rintro e w3 ⟨rfl, hk3⟩
          have hg3 := only_trans hg2 hk3
          go_wp2_with fail
          refine (wakes_any (hH.grown hg3 (by simp))).mono ?_
          rintro e w4 ⟨rfl, hk4⟩
          have hg4 := only_trans hg3 hk4
          have HC := Lib.hid (code_241 (hH.grown hg4 (by simp)) (isErr_of (c := 241) (by decide) ((hf.grown hk3 (by simp)).grown hk4 (by simp))))
          go_wp2_with fail
          refine HC.out.mono ?_
          rintro e w5 ⟨rfl, hk5⟩
          go_wp2_with fail
          go_ret
          exact ⟨rfl, only_trans hg4 hk5⟩
        · rw [eo] at H1
          have H1 := Lib.hid H1
          obtain ⟨IG, s, recs⟩ := I
          simp only at hgs
          go_wp2_with fail
          refine H1.out.mono ?_
          rintro e w2 ⟨hd2, hk2, hres⟩
          rcases hres with ⟨_, jb, v2, rfl, hjb, hj2, hst2⟩ | ⟨h, _⟩
          rotate_left
          · exact absurd rfl h
          simp only at hj2 hst2 hd2
          have hg2 := grown_own hgr hk2 (by omega)
          have hj0 : 0 < jb := by omega
          have hst2' := hst2.mono (show w.heap.size ≤ wr.heap.size from hws)
          clear hst2 hdr' hbxr
          go_wp2_with fail
          refine (wakes_any (hH.grown hg2 (by simp))).mono ?_
          rintro e w3 ⟨rfl, hk3⟩
          have hg3 := only_trans hg2 hk3
          have hd3 := hd2.grown hk3
          have hj3 := hj2.grown hk3 (by simp)
          have hst3 := hst2'.grown hk3
          have HG := Lib.hid (gen_any hj3)
          clear hd2 hj2 hst2'
          go_wp2_with fail
          refine HG.out.mono ?_
          rintro e w' ⟨rfl, rfl⟩
          by_cases hgen : 2147483628 < gen
          · have hgi : (2147483628 : Int) < (gen : Int) := by omega
            go_wp2_with fail
            go_ret
            exact ⟨rfl, hg3⟩
          · have hgi : ¬ (2147483628 : Int) < (gen : Int) := by omega
            obtain ⟨mm, hmm, hmm20, hmml⟩ : ∃ mm : Nat, min (l1.length : Int) 20 = (mm : Int) ∧ mm ≤ 20 ∧ mm ≤ l1.length := ⟨min l1.length 20, by omega, by omega, by omega⟩
            have hmm2 : max (mm : Int) 0 = (mm : Int) := by omega
            go_wp2_with fail
            go_loopw [9, 74] (fun lv iv wr => ∃ (added : List ByteArray) (D : Dk), iv = .int .i64 (added.length : Int) ∧ StrsAt wr w.heap.size lv (recs ++ added) ∧ added.length ≤ mm ∧ Grows D o gen s (recs ++ added) (100029 + 1007 * added.length) ∧ DiskAt wr g D ∧ JrAt wr jb g ⟨o, gen, false⟩ ∧ w.grownBy wr none) (fun _ iv _ => mm - (intOf iv).toNat)
            case atStart => exact ⟨[], D2, rfl, by rw [List.append_nil]; exact hst3, Nat.zero_le _, by rw [List.append_nil]; exact hgs, hd3, hj3, hg3⟩
            case round =>
              obtain ⟨added, D, rfl, hst, hal, hG, hdr, hjr, hgr⟩ := hrel
              have hws := hgr.size
              have hkw : IntKind.i64.wrap ((added.length : Int) + 1) = (added.length : Int) + 1 := IntWalk.i64_in _ (by omega)
              have hDb := hdr.at_
              obtain ⟨kv1, hDb, _⟩ := hDb
              have hjblk := hjr.blk
              by_cases hlt : added.length < mm
              · obtain ⟨bb, ob, rfl, hcb⟩ := hcell0 added.length (by omega)
                have hcr := hgr.cell hcb (by simp)
                have hti := hl1 l1[added.length] (List.getElem_mem (by omega))
                generalize l1[added.length] = tk at *
                obtain ⟨tb, htb⟩ : ∃ tb, tk.extract 0 (min (tk.size : Int) 1000).toNat = tb := ⟨_, rfl⟩
                have htbs : tb.size ≤ 1000 := by rw [← htb, ByteArray.size_extract]; omega
                unfold maxLen at hti
                have hli : (added.length : Int) < (mm : Int) := by omega
                obtain ⟨D', ea, hG'⟩ := grows_add hG (by omega) htbs
                have HA := add_any (hH.grown hgr (by simp)) hj0 hg0 hdr hjr tb (by omega)
                rw [ea] at HA
                have HA := Lib.hid HA
                go_wp2_with fail
                refine HA.out.mono ?_
                rintro e w5 ⟨v5, rfl, he5, hd5, hj5, hduo5⟩
                obtain rfl := isErr_no he5
                simp only at hd5 hj5
                have hst5 := hst.duo hduo5 hDb hjblk (by decide) (by decide)
                have hg5 := grown_duo hgr hduo5 (by omega) (by omega)
                have hws5 := hg5.size
                have hln : (recs ++ added).length + 1 ≤ 100000000 := by have := tot_len (recs ++ added); have := hG.size; omega
                obtain ⟨v', w6, hr6, hst6, hos6, hbl6⟩ := run_append_text (ty := 23) (hst5.grown (only_alloc (only_refl w5 none) (.cells #[.string tb] 9))) (ad := ⟨w5.heap.size, 0, none⟩) (x := tb) ((Blk.new w5 9 #[.string tb]).cell 0) hln (by simp; omega)
                have hd6 := (hd5.grown (only_alloc (only_refl w5 none) (.cells #[.string tb] 9))).stand hos6
                have hj6 : JrAt w6 jb g ⟨o, gen, false⟩ := ⟨hos6 _ _ _ (by decide) (hj5.blk.alloc _), hj5.file, hj5.gen⟩
                have hg6 := grown_more (only_alloc hg5 (.cells #[.string tb] 9)) hbl6
                clear hst hdr hjr hDb hjblk he5 hduo5 hd5 hj5 hst5 hos6 hbl6
                go_wp2_with (at_builtin; refine wpList_append_run (by rfl) _ _ 23 (by rfl) (by rfl) (by rfl) hr6 ?_)
                have hl1' : (added ++ [tb]).length = added.length + 1 := by simp
                refine ⟨⟨added ++ [tb], D', by rw [hl1']; rfl, by rw [← List.append_assoc]; exact hst6, by omega, ?_, hd6, hj6, hg6⟩, by simp [intOf]; omega⟩
                rw [← List.append_assoc, hl1', Nat.mul_add, ← Nat.add_assoc]
                exact hG'
              · obtain rfl : mm = added.length := by omega
                have hlt2 : ¬ ((added.length : Int) < (added.length : Int)) := by omega
                have hsm := hG.small
                have hea := hG.each
                have hpo := hG.pos
                have hln : (recs ++ added).length ≤ 100000000 := by have := tot_len (recs ++ added); have := hG.size; omega
                obtain ⟨D', es, hS⟩ := grows_sync hG (by omega)
                have H5 := jsync_any (hH.grown hgr (by simp)) hj0 hg0 hdr hjr
                rw [es] at H5
                have H5 := Lib.hid H5
                generalize recs ++ added = L at *
                go_wp2_with fail
                refine H5.out.mono ?_
                rintro e w5 ⟨v5, rfl, he5, hd5, hj5, hduo5⟩
                obtain rfl := isErr_no he5
                simp only at hd5
                have hst5 := hst.duo hduo5 hDb hjblk (by decide) (by decide)
                have hg5 := grown_duo hgr hduo5 (by omega) (by omega)
                clear hst hdr hjr hDb hjblk he5 hduo5 hj5 hG
                go_wp2_with fail
                go_loopw [95] (fun iv wr => ∃ (q : Nat) (D : Dk) (o' : Int), iv = .int .i64 (q : Int) ∧ q ≤ 2 ∧ Stands D o' (gen + q) s L ∧ DiskAt wr g D ∧ StrsAt wr w.heap.size u9 L ∧ w.grownBy wr none) (fun iv _ => 2 - (intOf iv).toNat)
                case atStart => exact ⟨0, D', o, rfl, by omega, hS, hd5, hst5, hg5⟩
                case round =>
                  obtain ⟨q, D, o', rfl, hq, hSq, hdq, hstq, hgq⟩ := hrel
                  have hkw : IntKind.i64.wrap ((q : Int) + 1) = (q : Int) + 1 := IntWalk.i64_in _ (by omega)
                  have hws := hgq.size
                  by_cases hq2 : q < 2
                  · have hqi : (q : Int) < 2 := by omega
                    have HC := Lib.hid (crash_any hdq (ints_nil wr g) (by simp))
                    obtain ⟨D6, eo6, hS6⟩ := stands_open hSq (by omega) hsm hea
                    go_wp2_with fail
                    refine HC.out.mono ?_
                    rintro e w6 ⟨rfl, hd6, hk6⟩
                    have hg6 := grown_own hgq hk6 (by omega)
                    have hst6 := hstq.own hk6 hdq
                    have HO := open_any (hH.grown hg6 (by simp)) hg0 hd6
                    rw [eo6] at HO
                    have HO := Lib.hid HO
                    go_wp2_with fail
                    refine HO.out.mono ?_
                    rintro e w7 ⟨hd7, hk7, hres⟩
                    rcases hres with ⟨_, jb7, v7, rfl, hjb7, hj7, hst7⟩ | ⟨h, _⟩
                    rotate_left
                    · exact absurd rfl h
                    simp only at hst7 hd7
                    have hg7 := grown_own hg6 hk7 (by omega)
                    have hst67 := hst6.own hk7 hd6
                    have HE := equal_any (hst67.mono (Nat.zero_le _)) (hst7.mono (Nat.zero_le _)) hln
                    rw [show decide (L = L) = true from decide_eq_true rfl] at HE
                    have HE := Lib.hid HE
                    go_wp2_with fail
                    refine HE.out.mono ?_
                    rintro e w8 ⟨rfl, hk8⟩
                    go_wp2_with fail
                    refine ⟨⟨q + 1, D6, 1 - o', rfl, by omega, hS6, hd7.grown hk8, hst67.grown hk8, only_trans hg7 hk8⟩, by simp [intOf]; omega⟩
                  · obtain rfl : q = 2 := by omega
                    go_wp2_with fail
                    go_ret
                    exact ⟨rfl, hgq⟩
end
end Go.Proofs.YtklcpckjmncdkaaDoor
