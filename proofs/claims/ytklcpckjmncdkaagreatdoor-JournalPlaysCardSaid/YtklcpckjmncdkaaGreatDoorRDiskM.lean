/- THE WALKS of the document's Append, Sync, Clear, Crash, Ask. -/
import Derived.Test.YtklcpckjmncdkaaGreatDoorRLose
import Derived.Test.YtklcpckjmncdkaaGreatDoorDiskK
namespace Go.Proofs.YtklcpckjmncdkaaGreatDoor
set_option maxRecDepth 100000
open Go.RowKit
attribute [local go_sem ↓] Go.wp_at_zero Go.wp_at_succ
section
variable {w : World} {g : Nat} {D : Dk}
set_option maxHeartbeats 800000 in
theorem rcrash_any (h : RDiskAt w g D) {v : Value} {ks : List Int} (hk : Ints w g v ks) (h64 : ∀ k ∈ ks, I64 k) :
    Calls Tryz.prog 64 #[.pointer (some ⟨g, 0, none⟩), v] w fun e w' => e = .returned (.tuple #[]) ∧ RDiskAt w' g (D.crash ks) ∧ w.grownBy w' (some g) := by
  have hl := Lib.hid (rlose_any h hk h64)
  have hc5 : w.cell? ⟨g, 5, none⟩ = some (.bool D.off) := by obtain ⟨⟨kv, hb, hr⟩, ok⟩ := h; exact hb.cell 5
  cases ho : D.off with
  | true =>
    have e : D.crash ks = D.on := by simp [Dk.crash, ho]
    rw [e]
    rw [ho] at hc5
    have Hon := Lib.hid (ron_any h)
    clear e ho
    go_enter Tryz.func64, Tryz.ntmps64
    go_wp2_with fail
    refine (Hon.out).mono ?_
    rintro e w1 ⟨rfl, hd1, ho1⟩
    go_wp2_with fail
    go_end0
    exact ⟨rfl, hd1, ho1⟩
  | false =>
    have e : D.crash ks = (D.lose ks).on := by simp [Dk.crash, ho]
    rw [e]
    rw [ho] at hc5
    clear e ho
    go_enter Tryz.func64, Tryz.ntmps64
    go_wp2_with fail
    refine (hl.out).mono ?_
    rintro e w1 ⟨rfl, hd1, ho1⟩
    clear hc5
    go_wp2_with fail
    refine (ron_any hd1).mono ?_
    rintro e w2 ⟨rfl, hd2, ho2⟩
    go_wp2_with fail
    go_end0
    exact ⟨rfl, hd2, only_trans ho1 ho2⟩

theorem Dk.stopped_keep (D : Dk) : D.stopped.2.keep = D.keep := by
  have h1 : D.ticked.keep = D.keep := rfl
  have h2 : D.ticked.broken.keep = D.keep := by unfold Dk.broken; split <;> rfl
  unfold Dk.stopped
  split
  · exact h1
  · split <;> exact h2
theorem Dk.stopped_code (D : Dk) : D.stopped.1 = 240 ∨ D.stopped.1 = 241 ∨ D.stopped.1 = 0 := by
  unfold Dk.stopped
  split
  · exact .inl rfl
  · split
    · exact .inr (.inl rfl)
    · exact .inr (.inr rfl)

set_option maxHeartbeats 1600000 in
theorem rsync_any (h : RDiskAt w g D) (n : Int) : Calls Tryz.prog 20 #[.pointer (some ⟨g, 0, none⟩), .int .i64 n] w fun e w' => e = .returned (.int .i64 ((D.doSync n).1 : Nat)) ∧ RDiskAt w' g (D.doSync n).2 ∧ w.grownBy w' (some g) := by
  have Hf := Lib.hid (rfind_any h n)
  by_cases hn : D.find n = 0
  · have e : D.doSync n = D.change (Dk.sync n) id := by simp [Dk.doSync, hn]
    obtain ⟨_, hz⟩ := Dk.find_ok_iff hn
    have Hs := Lib.hid (rstopped_any h)
    have Hk := Lib.hid D.stopped_keep
    rw [e, Dk.change_of_stopped]
    rw [hn] at Hf
    rcases D.stopped_code with hc | hc | hc
    · rw [hc] at Hs ⊢
      clear hn e hc
      go_enter Tryz.func20, Tryz.ntmps20
      go_wp2_with fail
      refine (Hf.out).mono ?_
      rintro e w' ⟨rfl, rfl⟩
      go_wp2_with fail
      refine (Hs.out).mono ?_
      rintro e w1 ⟨rfl, hd1, ho1⟩
      obtain ⟨⟨kv1, hb1, hr1⟩, ok1⟩ := hd1
      have hl := rlose_any ⟨⟨kv1, hb1, hr1⟩, ok1⟩ (hr1.ints hb1 (by decide)) ok1.keep
      have d7 := hb1.cell 7
      have d7' : w1.cell? ⟨g, 7, none⟩ = some kv1 := d7
      have Hl := Lib.hid hl
      clear hl d7
      go_wp2_with fail
      refine (Hl.out).mono ?_
      rintro e w2 ⟨rfl, hd2, ho2⟩
      rw [Hk.out] at hd2
      go_wp2_with fail
      go_ret
      exact ⟨rfl, hd2, only_trans ho1 ho2⟩
    · rw [hc] at Hs ⊢
      clear hn e hc
      go_enter Tryz.func20, Tryz.ntmps20
      go_wp2_with fail
      refine (Hf.out).mono ?_
      rintro e w' ⟨rfl, rfl⟩
      go_wp2_with fail
      refine (Hs.out).mono ?_
      rintro e w1 ⟨rfl, hd1, ho1⟩
      go_wp2_with fail
      go_ret
      exact ⟨rfl, hd1, ho1⟩
    · rw [hc] at Hs ⊢
      clear hn e hc
      rcases hz with rfl | rfl
      · go_enter Tryz.func20, Tryz.ntmps20
        go_wp2_with fail
        refine (Hf.out).mono ?_
        rintro e w' ⟨rfl, rfl⟩
        go_wp2_with fail
        refine (Hs.out).mono ?_
        rintro e w1 ⟨rfl, hd1, ho1⟩
        have okd := hd1.ok.sync 0
        obtain ⟨⟨kv1, hb1, hr1⟩, ok1⟩ := hd1
        obtain ⟨d0, d1, d2, d3, _⟩ := rdk_cells hb1
        have hf1 := fun i => hb1.frozen i
        go_wp2_with fail
        go_region
        all_goals go_wp2_with fail
        go_ret
        exact ⟨rfl, ⟨⟨kv1, (hb1.put 2 (.int .i64 (D.stopped.2.b0.size : Int))).drew, hr1.far hb1 (by decide) (only_drew (only_put (only_refl _ _) 2 _))⟩, okd⟩, only_drew (only_put ho1 _ _)⟩
      · go_enter Tryz.func20, Tryz.ntmps20
        go_wp2_with fail
        refine (Hf.out).mono ?_
        rintro e w' ⟨rfl, rfl⟩
        go_wp2_with fail
        refine (Hs.out).mono ?_
        rintro e w1 ⟨rfl, hd1, ho1⟩
        have okd := hd1.ok.sync 1
        obtain ⟨⟨kv1, hb1, hr1⟩, ok1⟩ := hd1
        obtain ⟨d0, d1, d2, d3, _⟩ := rdk_cells hb1
        have hf1 := fun i => hb1.frozen i
        go_wp2_with fail
        go_region
        all_goals go_wp2_with fail
        go_ret
        exact ⟨rfl, ⟨⟨kv1, (hb1.put 3 (.int .i64 (D.stopped.2.b1.size : Int))).drew, hr1.far hb1 (by decide) (only_drew (only_put (only_refl _ _) 3 _))⟩, okd⟩, only_drew (only_put ho1 _ _)⟩
  · have e : D.doSync n = (D.find n, D) := by simp [Dk.doSync, hn]
    rw [e]
    have hc : (((D.find n : Nat) : Int) != 0) = true := by rw [bne_iff_ne]; omega
    clear hn e
    go_enter Tryz.func20, Tryz.ntmps20
    go_wp2_with fail
    refine (Hf.out).mono ?_
    rintro e w' ⟨rfl, rfl⟩
    go_wp2_with fail
    go_ret
    exact ⟨rfl, h, only_refl _ _⟩

set_option maxHeartbeats 1600000 in
theorem rclear_any (h : RDiskAt w g D) (n : Int) : Calls Tryz.prog 60 #[.pointer (some ⟨g, 0, none⟩), .int .i64 n] w fun e w' => e = .returned (.int .i64 ((D.doClear n).1 : Nat)) ∧ RDiskAt w' g (D.doClear n).2 ∧ w.grownBy w' (some g) := by
  have Hf := Lib.hid (rfind_any h n)
  by_cases hn : D.find n = 0
  · have e : D.doClear n = D.change (Dk.wipe n) id := by simp [Dk.doClear, hn]
    obtain ⟨_, hz⟩ := Dk.find_ok_iff hn
    have Hs := Lib.hid (rstopped_any h)
    have Hk := Lib.hid D.stopped_keep
    rw [e, Dk.change_of_stopped]
    rw [hn] at Hf
    rcases D.stopped_code with hc | hc | hc
    · rw [hc] at Hs ⊢
      clear hn e hc
      go_enter Tryz.func60, Tryz.ntmps60
      go_wp2_with fail
      refine (Hf.out).mono ?_
      rintro e w' ⟨rfl, rfl⟩
      go_wp2_with fail
      refine (Hs.out).mono ?_
      rintro e w1 ⟨rfl, hd1, ho1⟩
      obtain ⟨⟨kv1, hb1, hr1⟩, ok1⟩ := hd1
      have hl := rlose_any ⟨⟨kv1, hb1, hr1⟩, ok1⟩ (hr1.ints hb1 (by decide)) ok1.keep
      have d7 := hb1.cell 7
      have d7' : w1.cell? ⟨g, 7, none⟩ = some kv1 := d7
      have Hl := Lib.hid hl
      clear hl d7
      go_wp2_with fail
      refine (Hl.out).mono ?_
      rintro e w2 ⟨rfl, hd2, ho2⟩
      rw [Hk.out] at hd2
      go_wp2_with fail
      go_ret
      exact ⟨rfl, hd2, only_trans ho1 ho2⟩
    · rw [hc] at Hs ⊢
      clear hn e hc
      go_enter Tryz.func60, Tryz.ntmps60
      go_wp2_with fail
      refine (Hf.out).mono ?_
      rintro e w' ⟨rfl, rfl⟩
      go_wp2_with fail
      refine (Hs.out).mono ?_
      rintro e w1 ⟨rfl, hd1, ho1⟩
      go_wp2_with fail
      go_ret
      exact ⟨rfl, hd1, ho1⟩
    · rw [hc] at Hs ⊢
      clear hn e hc
      rcases hz with rfl | rfl
      · go_enter Tryz.func60, Tryz.ntmps60
        go_wp2_with fail
        refine (Hf.out).mono ?_
        rintro e w' ⟨rfl, rfl⟩
        go_wp2_with fail
        refine (Hs.out).mono ?_
        rintro e w1 ⟨rfl, hd1, ho1⟩
        have okd := hd1.ok.wipe 0
        obtain ⟨⟨kv1, hb1, hr1⟩, ok1⟩ := hd1
        obtain ⟨d0, d1, d2, d3, _⟩ := rdk_cells hb1
        have hf1 := fun i => hb1.frozen i
        go_wp2_with fail
        go_ret
        exact ⟨rfl, ⟨⟨kv1, (hb1.put 0 (.string ⟨#[]⟩)).put 2 (.int .i64 0), hr1.far hb1 (by decide) (only_put (only_put (only_refl _ _) 0 _) 2 _)⟩, okd⟩, only_put (only_put ho1 _ _) _ _⟩
      · go_enter Tryz.func60, Tryz.ntmps60
        go_wp2_with fail
        refine (Hf.out).mono ?_
        rintro e w' ⟨rfl, rfl⟩
        go_wp2_with fail
        refine (Hs.out).mono ?_
        rintro e w1 ⟨rfl, hd1, ho1⟩
        have okd := hd1.ok.wipe 1
        obtain ⟨⟨kv1, hb1, hr1⟩, ok1⟩ := hd1
        obtain ⟨d0, d1, d2, d3, _⟩ := rdk_cells hb1
        have hf1 := fun i => hb1.frozen i
        go_wp2_with fail
        go_ret
        exact ⟨rfl, ⟨⟨kv1, (hb1.put 1 (.string ⟨#[]⟩)).put 3 (.int .i64 0), hr1.far hb1 (by decide) (only_put (only_put (only_refl _ _) 1 _) 3 _)⟩, okd⟩, only_put (only_put ho1 _ _) _ _⟩
  · have e : D.doClear n = (D.find n, D) := by simp [Dk.doClear, hn]
    rw [e]
    have hc : (((D.find n : Nat) : Int) != 0) = true := by rw [bne_iff_ne]; omega
    clear hn e
    go_enter Tryz.func60, Tryz.ntmps60
    go_wp2_with fail
    refine (Hf.out).mono ?_
    rintro e w' ⟨rfl, rfl⟩
    go_wp2_with fail
    go_ret
    exact ⟨rfl, h, only_refl _ _⟩

theorem Dk.stopped_sizes (D : Dk) : D.stopped.2.b0 = D.b0 ∧ D.stopped.2.b1 = D.b1 ∧ D.stopped.2.lim = D.lim := by
  have h1 := D.ticked_sizes
  have h2 := D.ticked.broken_sizes
  unfold Dk.stopped
  split
  · exact h1
  · split <;> exact ⟨h2.1.trans h1.1, h2.2.1.trans h1.2.1, h2.2.2.trans h1.2.2⟩
set_option maxHeartbeats 3200000 in
theorem rappend_any (h : RDiskAt w g D) (n : Int) (s : ByteArray) (hs : s.size ≤ 140737488355328) : Calls Tryz.prog 18 #[.pointer (some ⟨g, 0, none⟩), .int .i64 n, .string s] w fun e w' =>
    e = .returned (.int .i64 ((D.append n s).1 : Nat)) ∧ RDiskAt w' g (D.append n s).2 ∧ w.grownBy w' (some g) := by
  have Hf := Lib.hid (rfind_any h n)
  by_cases hn : D.find n = 0
  · obtain ⟨_, hz⟩ := Dk.find_ok_iff hn
    rw [hn] at Hf
    have okl := h.ok.lim
    have oks := h.ok.sum
    have hblk := h.at_
    obtain ⟨kv, hb, hr⟩ := hblk
    obtain ⟨c0, c1, _, _, c4, _⟩ := rdk_cells hb
    by_cases hfull : D.lim < D.b0.size + D.b1.size + s.size
    · have e : D.append n s = (241, D) := by simp [Dk.append, hn, hfull]
      rw [e]
      have i1 : (D.lim : Int) < (D.b0.size : Int) + (D.b1.size : Int) + (s.size : Int) := by omega
      clear e hn hb
      go_enter Tryz.func18, Tryz.ntmps18
      go_wp2_with fail
      refine (Hf.out).mono ?_
      rintro e w' ⟨rfl, rfl⟩
      go_wp2_with fail
      go_quiet (fail)
      go_wp2_with fail
      go_ret
      exact ⟨rfl, h.grown (only_drewN (only_refl _ _) _), only_drewN (only_refl _ _) _⟩
    have i1 : (D.b0.size : Int) + (D.b1.size : Int) + (s.size : Int) ≤ (D.lim : Int) := by omega
    by_cases h0 : s.size = 0
    · have e : D.append n s = (0, D) := by simp [Dk.append, hn, h0]; omega
      rw [e]
      have he : ((s.size : Int) == 0) = true := by rw [beq_iff_eq]; omega
      clear e hn hb h0
      go_enter Tryz.func18, Tryz.ntmps18
      go_wp2_with fail
      refine (Hf.out).mono ?_
      rintro e w' ⟨rfl, rfl⟩
      go_wp2_with fail
      go_quiet (fail)
      go_wp2_with fail
      go_ret
      exact ⟨rfl, h.grown (only_drewN (only_refl _ _) _), only_drewN (only_refl _ _) _⟩
    have e : D.append n s = D.change (Dk.put s n) (Dk.put s n) := by simp [Dk.append, hn, h0, hfull]
    have he : ((s.size : Int) == 0) = false := by rw [beq_eq_false_iff_ne]; omega
    have Hs := Lib.hid (fun m => rstopped_any (h.grown (only_drewN (only_refl w none) m)))
    have Hk := Lib.hid D.stopped_keep
    obtain ⟨t1, t2, t3⟩ := D.stopped_sizes
    have Ht := Lib.hid (And.intro t1 (And.intro t2 t3))
    rw [e, Dk.change_of_stopped]
    clear t1 t2 t3
    rcases D.stopped_code with hc | hc | hc
    · rw [hc] at Hs ⊢
      clear hn e hc hb h0
      rcases hz with rfl | rfl
      · go_enter Tryz.func18, Tryz.ntmps18
        go_wp2_with fail
        refine (Hf.out).mono ?_
        rintro e w' ⟨rfl, rfl⟩
        go_wp2_with fail
        go_quiet (fail)
        go_wp2_with fail
        refine (Hs.out _).mono ?_
        rintro e w1 ⟨rfl, hd1, ho1⟩
        have okd := hd1.ok.put s 0 (by obtain ⟨t1, t2, t3⟩ := Ht.out; rw [t1, t2, t3]; omega)
        have hsz : D.stopped.2.b0.size + s.size ≤ 16777216 := by obtain ⟨t1, t2, t3⟩ := Ht.out; rw [t1]; omega
        clear c0 c1 c4
        obtain ⟨⟨kv1, hb1, hr1⟩, ok1⟩ := hd1
        obtain ⟨d0, d1, d2, d3, _, _, _, d7, _⟩ := rdk_cells hb1
        have hf1 := fun i => hb1.frozen i
        have hb2 := (hb1.put 0 (.string (D.stopped.2.b0 ++ s))).drew
        have hr2 := hr1.far hb1 (by decide) (only_drew (only_put (only_refl w1 (some g)) 0 (.string (D.stopped.2.b0 ++ s))))
        have hl := Lib.hid (rlose_any (D := Dk.put s 0 D.stopped.2) ⟨⟨kv1, hb2, hr2⟩, okd⟩ (hr2.ints hb2 (by decide)) okd.keep)
        clear hb2 hr2
        go_wp2_with fail
        go_region
        all_goals go_wp2_with fail
        refine (hl.out).mono ?_
        rintro e w2 ⟨rfl, hd2, ho2⟩
        rw [Hk.out] at hd2
        go_wp2_with fail
        go_ret
        exact ⟨rfl, hd2, only_trans (only_drew (only_put (only_trans (only_drewN (only_refl _ _) _) ho1) _ _)) ho2⟩
      · go_enter Tryz.func18, Tryz.ntmps18
        go_wp2_with fail
        refine (Hf.out).mono ?_
        rintro e w' ⟨rfl, rfl⟩
        go_wp2_with fail
        go_quiet (fail)
        go_wp2_with fail
        refine (Hs.out _).mono ?_
        rintro e w1 ⟨rfl, hd1, ho1⟩
        have okd := hd1.ok.put s 1 (by obtain ⟨t1, t2, t3⟩ := Ht.out; rw [t1, t2, t3]; omega)
        have hsz : D.stopped.2.b1.size + s.size ≤ 16777216 := by obtain ⟨t1, t2, t3⟩ := Ht.out; rw [t2]; omega
        clear c0 c1 c4
        obtain ⟨⟨kv1, hb1, hr1⟩, ok1⟩ := hd1
        obtain ⟨d0, d1, d2, d3, _, _, _, d7, _⟩ := rdk_cells hb1
        have hf1 := fun i => hb1.frozen i
        have hb2 := (hb1.put 1 (.string (D.stopped.2.b1 ++ s))).drew
        have hr2 := hr1.far hb1 (by decide) (only_drew (only_put (only_refl w1 (some g)) 1 (.string (D.stopped.2.b1 ++ s))))
        have hl := Lib.hid (rlose_any (D := Dk.put s 1 D.stopped.2) ⟨⟨kv1, hb2, hr2⟩, okd⟩ (hr2.ints hb2 (by decide)) okd.keep)
        clear hb2 hr2
        go_wp2_with fail
        go_region
        all_goals go_wp2_with fail
        refine (hl.out).mono ?_
        rintro e w2 ⟨rfl, hd2, ho2⟩
        rw [Hk.out] at hd2
        go_wp2_with fail
        go_ret
        exact ⟨rfl, hd2, only_trans (only_drew (only_put (only_trans (only_drewN (only_refl _ _) _) ho1) _ _)) ho2⟩
    · rw [hc] at Hs ⊢
      clear hn e hc hb h0
      go_enter Tryz.func18, Tryz.ntmps18
      go_wp2_with fail
      refine (Hf.out).mono ?_
      rintro e w' ⟨rfl, rfl⟩
      go_wp2_with fail
      go_quiet (fail)
      go_wp2_with fail
      refine (Hs.out _).mono ?_
      rintro e w1 ⟨rfl, hd1, ho1⟩
      clear c0 c1 c4
      go_wp2_with fail
      go_ret
      exact ⟨rfl, hd1, only_trans (only_drewN (only_refl _ _) _) ho1⟩
    · rw [hc] at Hs ⊢
      clear hn e hc hb h0
      rcases hz with rfl | rfl
      · go_enter Tryz.func18, Tryz.ntmps18
        go_wp2_with fail
        refine (Hf.out).mono ?_
        rintro e w' ⟨rfl, rfl⟩
        go_wp2_with fail
        go_quiet (fail)
        go_wp2_with fail
        refine (Hs.out _).mono ?_
        rintro e w1 ⟨rfl, hd1, ho1⟩
        have okd := hd1.ok.put s 0 (by obtain ⟨t1, t2, t3⟩ := Ht.out; rw [t1, t2, t3]; omega)
        have hsz : D.stopped.2.b0.size + s.size ≤ 16777216 := by obtain ⟨t1, t2, t3⟩ := Ht.out; rw [t1]; omega
        clear c0 c1 c4
        obtain ⟨⟨kv1, hb1, hr1⟩, ok1⟩ := hd1
        obtain ⟨d0, d1, d2, d3, _, _, _, d7, _⟩ := rdk_cells hb1
        have hf1 := fun i => hb1.frozen i
        have hb2 := (hb1.put 0 (.string (D.stopped.2.b0 ++ s))).drew
        have hr2 := hr1.far hb1 (by decide) (only_drew (only_put (only_refl w1 (some g)) 0 (.string (D.stopped.2.b0 ++ s))))
        have Hfin : Hid (RDiskAt ((w1.setCell ⟨g, 0, none⟩ (.string (D.stopped.2.b0 ++ s))).drew) g (Dk.put s 0 D.stopped.2)) := ⟨⟨kv1, hb2, hr2⟩, okd⟩
        clear hb2 hr2
        go_wp2_with fail
        go_region
        all_goals go_wp2_with fail
        go_ret
        exact ⟨rfl, Hfin.out, only_drew (only_put (only_trans (only_drewN (only_refl _ _) _) ho1) _ _)⟩
      · go_enter Tryz.func18, Tryz.ntmps18
        go_wp2_with fail
        refine (Hf.out).mono ?_
        rintro e w' ⟨rfl, rfl⟩
        go_wp2_with fail
        go_quiet (fail)
        go_wp2_with fail
        refine (Hs.out _).mono ?_
        rintro e w1 ⟨rfl, hd1, ho1⟩
        have okd := hd1.ok.put s 1 (by obtain ⟨t1, t2, t3⟩ := Ht.out; rw [t1, t2, t3]; omega)
        have hsz : D.stopped.2.b1.size + s.size ≤ 16777216 := by obtain ⟨t1, t2, t3⟩ := Ht.out; rw [t2]; omega
        clear c0 c1 c4
        obtain ⟨⟨kv1, hb1, hr1⟩, ok1⟩ := hd1
        obtain ⟨d0, d1, d2, d3, _, _, _, d7, _⟩ := rdk_cells hb1
        have hf1 := fun i => hb1.frozen i
        have hb2 := (hb1.put 1 (.string (D.stopped.2.b1 ++ s))).drew
        have hr2 := hr1.far hb1 (by decide) (only_drew (only_put (only_refl w1 (some g)) 1 (.string (D.stopped.2.b1 ++ s))))
        have Hfin : Hid (RDiskAt ((w1.setCell ⟨g, 1, none⟩ (.string (D.stopped.2.b1 ++ s))).drew) g (Dk.put s 1 D.stopped.2)) := ⟨⟨kv1, hb2, hr2⟩, okd⟩
        clear hb2 hr2
        go_wp2_with fail
        go_region
        all_goals go_wp2_with fail
        go_ret
        exact ⟨rfl, Hfin.out, only_drew (only_put (only_trans (only_drewN (only_refl _ _) _) ho1) _ _)⟩
  · have e : D.append n s = (D.find n, D) := by simp [Dk.append, hn]
    rw [e]
    have hc : (((D.find n : Nat) : Int) != 0) = true := by rw [bne_iff_ne]; omega
    clear hn e
    go_enter Tryz.func18, Tryz.ntmps18
    go_wp2_with fail
    refine (Hf.out).mono ?_
    rintro e w' ⟨rfl, rfl⟩
    go_wp2_with fail
    go_ret
    exact ⟨rfl, h, only_refl _ _⟩
end
end Go.Proofs.YtklcpckjmncdkaaGreatDoor
