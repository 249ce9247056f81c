/- THE WALKS of what a change does: the function literals of Append, Sync and Clear; and of Append, Sync, Clear themselves. -/
import Derived.Test.YtklcpckjmncdkaaGreatDoorDiskC
namespace Go.Proofs.YtklcpckjmncdkaaGreatDoor
set_option maxRecDepth 100000
open Go.RowKit
section
variable {w : World} {g : Nat} {D : Dk}
set_option maxHeartbeats 800000 in
theorem put_any (h : DiskAt w g D) {n : Int} (hn : n = 0 ∨ n = 1) {p q : Nat} {s : ByteArray} (cp : w.cell? ⟨p, 0, none⟩ = some (.pointer (some ⟨g, fileOff n, none⟩))) (cq : w.cell? ⟨q, 0, none⟩ = some (.string s))
    (hs : D.b0.size + D.b1.size + s.size ≤ D.lim) : Calls Tryz.prog 45 #[.pointer (some ⟨p, 0, none⟩), .pointer (some ⟨q, 0, none⟩)] w fun e w' =>
      e = .returned (.tuple #[]) ∧ DiskAt w' g (Dk.put s n D) ∧ w.grownBy w' (some g) := by
  have okp := h.ok.put s n hs
  obtain ⟨⟨kv, hb, hr⟩, ok⟩ := h
  obtain ⟨c0, c1, c2, c3, c4, c5, c6, c7, c8, c9⟩ := dk_cells hb
  have hf := fun i => hb.frozen i
  have hl := ok.lim
  rcases hn with rfl | rfl
  · have b1 : D.b0.size + s.size ≤ 16777216 := by omega
    unfold fileOff at cp
    rw [if_pos rfl] at cp
    go_enter Tryz.func45, Tryz.ntmps45
    go_wp2_with fail
    go_region
    all_goals (go_end0; exact ⟨rfl, ⟨⟨kv, (hb.put 0 (.string (D.b0 ++ s))).drew, (hr.far hb (by decide) (only_drew (only_put (only_refl _ _) 0 (.string (D.b0 ++ s)))))⟩, okp⟩, only_drew (only_put (only_refl _ _) _ _)⟩)
  · have b1 : D.b1.size + s.size ≤ 16777216 := by omega
    unfold fileOff at cp
    rw [if_neg (by decide)] at cp
    go_enter Tryz.func45, Tryz.ntmps45
    go_wp2_with fail
    go_region
    all_goals (go_end0; exact ⟨rfl, ⟨⟨kv, (hb.put 2 (.string (D.b1 ++ s))).drew, (hr.far hb (by decide) (only_drew (only_put (only_refl _ _) 2 (.string (D.b1 ++ s)))))⟩, okp⟩, only_drew (only_put (only_refl _ _) _ _)⟩)

set_option maxHeartbeats 800000 in
theorem sync1_any (h : DiskAt w g D) {n : Int} (hn : n = 0 ∨ n = 1) {p : Nat} (cp : w.cell? ⟨p, 0, none⟩ = some (.pointer (some ⟨g, fileOff n, none⟩))) :
    Calls Tryz.prog 50 #[.pointer (some ⟨p, 0, none⟩)] w fun e w' => e = .returned (.tuple #[]) ∧ DiskAt w' g (Dk.sync n D) ∧ w.grownBy w' (some g) := by
  have okp := h.ok.sync n
  obtain ⟨⟨kv, hb, hr⟩, ok⟩ := h
  obtain ⟨c0, c1, c2, c3, c4, c5, c6, c7, c8, c9⟩ := dk_cells hb
  have hf := fun i => hb.frozen i
  rcases hn with rfl | rfl
  · unfold fileOff at cp
    rw [if_pos rfl] at cp
    go_enter Tryz.func50, Tryz.ntmps50
    go_wp2_with fail
    go_region
    all_goals (go_end0; exact ⟨rfl, ⟨⟨kv, (hb.put 1 (.int .i64 (D.b0.size : Int))).drew, (hr.far hb (by decide) (only_drew (only_put (only_refl _ _) 1 (.int .i64 (D.b0.size : Int)))))⟩, okp⟩, only_drew (only_put (only_refl _ _) _ _)⟩)
  · unfold fileOff at cp
    rw [if_neg (by decide)] at cp
    go_enter Tryz.func50, Tryz.ntmps50
    go_wp2_with fail
    go_region
    all_goals (go_end0; exact ⟨rfl, ⟨⟨kv, (hb.put 3 (.int .i64 (D.b1.size : Int))).drew, (hr.far hb (by decide) (only_drew (only_put (only_refl _ _) 3 (.int .i64 (D.b1.size : Int)))))⟩, okp⟩, only_drew (only_put (only_refl _ _) _ _)⟩)

set_option maxHeartbeats 800000 in
theorem wipe_any (h : DiskAt w g D) {n : Int} (hn : n = 0 ∨ n = 1) {p : Nat} (cp : w.cell? ⟨p, 0, none⟩ = some (.pointer (some ⟨g, fileOff n, none⟩))) :
    Calls Tryz.prog 90 #[.pointer (some ⟨p, 0, none⟩)] w fun e w' => e = .returned (.tuple #[]) ∧ DiskAt w' g (Dk.wipe n D) ∧ w.grownBy w' (some g) := by
  have okp := h.ok.wipe n
  obtain ⟨⟨kv, hb, hr⟩, ok⟩ := h
  obtain ⟨c0, c1, c2, c3, c4, c5, c6, c7, c8, c9⟩ := dk_cells hb
  have hf := fun i => hb.frozen i
  rcases hn with rfl | rfl
  · unfold fileOff at cp
    rw [if_pos rfl] at cp
    go_enter Tryz.func90, Tryz.ntmps90
    go_wp2
    go_end0
    exact ⟨rfl, ⟨⟨kv, ((hb.put 0 (.string ⟨#[]⟩)).put 1 (.int .i64 0)), (hr.far hb (by decide) (only_put (only_put (only_refl _ _) 0 (.string ⟨#[]⟩)) 1 (.int .i64 0)))⟩, okp⟩, only_put (only_put (only_refl _ _) _ _) _ _⟩
  · unfold fileOff at cp
    rw [if_neg (by decide)] at cp
    go_enter Tryz.func90, Tryz.ntmps90
    go_wp2
    go_end0
    exact ⟨rfl, ⟨⟨kv, ((hb.put 2 (.string ⟨#[]⟩)).put 3 (.int .i64 0)), (hr.far hb (by decide) (only_put (only_put (only_refl _ _) 2 (.string ⟨#[]⟩)) 3 (.int .i64 0)))⟩, okp⟩, only_put (only_put (only_refl _ _) _ _) _ _⟩

theorem sync2_any (h : DiskAt w g D) : Calls Tryz.prog 51 #[] w fun e w' => e = .returned (.tuple #[]) ∧ DiskAt w' g (id D) ∧ w.grownBy w' (some g) := by
  go_enter Tryz.func51, Tryz.ntmps51
  go_wp2
  go_end0
  exact ⟨rfl, h, only_refl _ _⟩
theorem clear2_any (h : DiskAt w g D) : Calls Tryz.prog 91 #[] w fun e w' => e = .returned (.tuple #[]) ∧ DiskAt w' g (id D) ∧ w.grownBy w' (some g) := by
  go_enter Tryz.func91, Tryz.ntmps91
  go_wp2
  go_end0
  exact ⟨rfl, h, only_refl _ _⟩

theorem enter_put (c : Array Value) : ∀ W, (callFunc 45 c).run Tryz.prog W = .ok (.enter 45 c) W := fun W => by kernel_rfl
theorem enter_sync1 (c : Array Value) : ∀ W, (callFunc 50 c).run Tryz.prog W = .ok (.enter 50 c) W := fun W => by kernel_rfl
theorem enter_sync2 (c : Array Value) : ∀ W, (callFunc 51 c).run Tryz.prog W = .ok (.enter 51 c) W := fun W => by kernel_rfl
theorem enter_clear1 (c : Array Value) : ∀ W, (callFunc 90 c).run Tryz.prog W = .ok (.enter 90 c) W := fun W => by kernel_rfl
theorem enter_clear2 (c : Array Value) : ∀ W, (callFunc 91 c).run Tryz.prog W = .ok (.enter 91 c) W := fun W => by kernel_rfl

set_option maxHeartbeats 800000 in
theorem sync_any (h : DiskAt w g D) (n : Int) : Calls Tryz.prog 19 #[.pointer (some ⟨g, 0, none⟩), .int .i64 n] w fun e w' => e = .returned (.int .u8 ((D.doSync n).1 : Nat)) ∧ DiskAt w' g (D.doSync n).2 ∧ w.grownBy w' (some g) := by
  by_cases hn : D.find n = 0
  · have e : D.doSync n = D.change (Dk.sync n) id := by simp [Dk.doSync, hn]
    rw [e]
    have Hf := Lib.hid (find_ok h n hn)
    obtain ⟨_, hz⟩ := Dk.find_ok_iff hn
    have hlt := h.lt
    have Hc := Lib.hid (change_any (A := Dk.sync n) (C := id) (h.grown (only_alloc (only_refl w none) (.cells #[.pointer (some ⟨g, fileOff n, none⟩)] 96))) (enter_sync1 #[.pointer (some ⟨w.heap.size, 0, none⟩)]) (enter_sync2 #[])
      (fun W hW hd => sync1_any hd hz (hW.cell (a := ⟨w.heap.size, 0, none⟩) (by simp) (by simp; omega))) (fun W _ hd => sync2_any hd) rfl)
    clear hn e
    go_enter Tryz.func19, Tryz.ntmps19
    go_wp2_with fail
    refine (Hf.out).mono ?_
    rintro e w' ⟨rfl, rfl⟩
    go_wp2_with fail
    refine (Hc.out).mono ?_
    rintro e w1 ⟨rfl, hd1, ho1⟩
    go_wp2_with fail
    go_ret
    exact ⟨rfl, hd1, only_trans (only_alloc (only_refl _ _) _) ho1⟩
  · have e : D.doSync n = (D.find n, D) := by simp [Dk.doSync, hn]
    rw [e]
    have Hf := Lib.hid (find_bad h n hn)
    have hc : (((D.find n : Nat) : Int) != 0) = true := by rw [bne_iff_ne]; omega
    clear hn e
    go_enter Tryz.func19, Tryz.ntmps19
    go_wp2_with fail
    refine (Hf.out).mono ?_
    rintro e w' ⟨rfl, rfl⟩
    go_wp2_with fail
    go_ret
    exact ⟨rfl, h.grown (only_alloc (only_refl _ _) _), only_alloc (only_refl _ _) _⟩

set_option maxHeartbeats 800000 in
theorem wipe_file_any (h : DiskAt w g D) (n : Int) : Calls Tryz.prog 59 #[.pointer (some ⟨g, 0, none⟩), .int .i64 n] w fun e w' => e = .returned (.int .u8 ((D.doClear n).1 : Nat)) ∧ DiskAt w' g (D.doClear n).2 ∧ w.grownBy w' (some g) := by
  by_cases hn : D.find n = 0
  · have e : D.doClear n = D.change (Dk.wipe n) id := by simp [Dk.doClear, hn]
    rw [e]
    have Hf := Lib.hid (find_ok h n hn)
    obtain ⟨_, hz⟩ := Dk.find_ok_iff hn
    have hlt := h.lt
    have Hc := Lib.hid (change_any (A := Dk.wipe n) (C := id) (h.grown (only_alloc (only_refl w none) (.cells #[.pointer (some ⟨g, fileOff n, none⟩)] 96))) (enter_clear1 #[.pointer (some ⟨w.heap.size, 0, none⟩)]) (enter_clear2 #[])
      (fun W hW hd => wipe_any hd hz (hW.cell (a := ⟨w.heap.size, 0, none⟩) (by simp) (by simp; omega))) (fun W _ hd => clear2_any hd) rfl)
    clear hn e
    go_enter Tryz.func59, Tryz.ntmps59
    go_wp2_with fail
    refine (Hf.out).mono ?_
    rintro e w' ⟨rfl, rfl⟩
    go_wp2_with fail
    refine (Hc.out).mono ?_
    rintro e w1 ⟨rfl, hd1, ho1⟩
    go_wp2_with fail
    go_ret
    exact ⟨rfl, hd1, only_trans (only_alloc (only_refl _ _) _) ho1⟩
  · have e : D.doClear n = (D.find n, D) := by simp [Dk.doClear, hn]
    rw [e]
    have Hf := Lib.hid (find_bad h n hn)
    have hc : (((D.find n : Nat) : Int) != 0) = true := by rw [bne_iff_ne]; omega
    clear hn e
    go_enter Tryz.func59, Tryz.ntmps59
    go_wp2_with fail
    refine (Hf.out).mono ?_
    rintro e w' ⟨rfl, rfl⟩
    go_wp2_with fail
    go_ret
    exact ⟨rfl, h.grown (only_alloc (only_refl _ _) _), only_alloc (only_refl _ _) _⟩

set_option maxHeartbeats 1600000 in
theorem append_any (h : DiskAt w g D) (n : Int) (s : ByteArray) (hs : s.size ≤ maxLen) : Calls Tryz.prog 17 #[.pointer (some ⟨g, 0, none⟩), .int .i64 n, .string s] w fun e w' =>
    e = .returned (.int .u8 ((D.append n s).1 : Nat)) ∧ DiskAt w' g (D.append n s).2 ∧ w.grownBy w' (some g) := by
  unfold maxLen at hs
  by_cases hn : D.find n = 0
  · have Hf := Lib.hid (find_ok h n hn)
    obtain ⟨ho, hz⟩ := Dk.find_ok_iff hn
    have hlt := h.lt
    by_cases hfull : D.lim < D.b0.size + D.b1.size + s.size
    · have e : D.append n s = (241, D) := by simp [Dk.append, hn, hfull]
      rw [e]
      have okl := h.ok.lim
      have oks := h.ok.sum
      obtain ⟨⟨kv, hb, _⟩, _⟩ := id h
      obtain ⟨c0, _, c2, _, c4, _⟩ := dk_cells hb
      have b1 : ∀ o1 o2 j, ((w.alloc o1).alloc o2).cell? ⟨g, j, none⟩ = w.cell? ⟨g, j, none⟩ := fun o1 o2 j => by rw [World.cell?_alloc_lt _ _ _ (by simp; omega), World.cell?_alloc_lt _ _ _ hlt]
      have i1 : ((D.lim : Int) - (D.b0.size : Int) - (D.b1.size : Int)) < (s.size : Int) := by omega
      clear e
      go_enter Tryz.func17, Tryz.ntmps17
      go_wp2_with fail
      refine (find_ok (w := w.alloc (.cells #[.string s] 9)) (h.grown (only_alloc (only_refl _ _) _)) n hn).mono ?_
      rintro e w' ⟨rfl, rfl⟩
      go_wp2_with fail
      go_quiet (fail)
      go_wp2_with fail
      go_ret
      exact ⟨rfl, h.grown (only_drewN (only_alloc (only_alloc (only_refl _ _) _) _) _), only_drewN (only_alloc (only_alloc (only_refl _ _) _) _) _⟩
    have okl := h.ok.lim
    have oks := h.ok.sum
    by_cases h0 : s.size = 0
    · have e : D.append n s = (0, D) := by simp [Dk.append, hn, h0]; omega
      rw [e]
      obtain ⟨⟨kv, hb, _⟩, _⟩ := id h
      obtain ⟨c0, _, c2, _, c4, _⟩ := dk_cells hb
      have b1 : ∀ o1 o2 j, ((w.alloc o1).alloc o2).cell? ⟨g, j, none⟩ = w.cell? ⟨g, j, none⟩ := fun o1 o2 j => by rw [World.cell?_alloc_lt _ _ _ (by simp; omega), World.cell?_alloc_lt _ _ _ hlt]
      have i1 : (s.size : Int) ≤ ((D.lim : Int) - (D.b0.size : Int) - (D.b1.size : Int)) := by omega
      have he : s.toList = [] := by rw [ByteArray.toList_eq]; exact List.eq_nil_of_length_eq_zero (by simpa using h0)
      clear e h0
      go_enter Tryz.func17, Tryz.ntmps17
      go_wp2_with fail
      refine (find_ok (w := w.alloc (.cells #[.string s] 9)) (h.grown (only_alloc (only_refl _ _) _)) n hn).mono ?_
      rintro e w' ⟨rfl, rfl⟩
      go_wp2_with fail
      go_quiet (fail)
      go_wp2_with fail
      go_ret
      exact ⟨rfl, h.grown (only_drewN (only_alloc (only_alloc (only_refl _ _) _) _) _), only_drewN (only_alloc (only_alloc (only_refl _ _) _) _) _⟩
    · have e : D.append n s = D.change (Dk.put s n) (Dk.put s n) := by simp [Dk.append, hn, h0, hfull]
      rw [e]
      obtain ⟨t1, t2, t3⟩ := D.ticked_sizes
      obtain ⟨u1, u2, u3⟩ := D.ticked.broken_sizes
      have Hc : ∀ W, DiskAt W g D → W.cell? ⟨w.heap.size + 1, 0, none⟩ = some (.pointer (some ⟨g, fileOff n, none⟩)) → W.cell? ⟨w.heap.size, 0, none⟩ = some (.string s) →
          Calls Tryz.prog 46 #[.pointer (some ⟨g, 0, none⟩), .func (.func 45) #[] #[.pointer (some ⟨w.heap.size + 1, 0, none⟩), .pointer (some ⟨w.heap.size, 0, none⟩)], .func (.func 45) #[] #[.pointer (some ⟨w.heap.size + 1, 0, none⟩), .pointer (some ⟨w.heap.size, 0, none⟩)]] W fun e w' =>
            e = .returned (.int .u8 ((D.change (Dk.put s n) (Dk.put s n)).1 : Nat)) ∧ DiskAt w' g (D.change (Dk.put s n) (Dk.put s n)).2 ∧ W.grownBy w' (some g) := fun W hd cp cq =>
        change_any (A := Dk.put s n) (C := Dk.put s n) hd (enter_put _) (enter_put _)
          (fun W' hW hd' => put_any hd' hz (hW.cell cp (by simp; omega)) (hW.cell cq (by simp; omega)) (by rw [u1, u2, u3, t1, t2, t3]; omega))
          (fun W' hW hd' => put_any hd' hz (hW.cell cp (by simp; omega)) (hW.cell cq (by simp; omega)) (by rw [t1, t2, t3]; omega))
          (by unfold Dk.put; split <;> rfl)
      have Hc := Lib.hid Hc
      clear t1 t2 t3 u1 u2 u3
      obtain ⟨⟨kv, hb, _⟩, _⟩ := id h
      obtain ⟨c0, _, c2, _, c4, _⟩ := dk_cells hb
      have b1 : ∀ o1 o2 j, ((w.alloc o1).alloc o2).cell? ⟨g, j, none⟩ = w.cell? ⟨g, j, none⟩ := fun o1 o2 j => by rw [World.cell?_alloc_lt _ _ _ (by simp; omega), World.cell?_alloc_lt _ _ _ hlt]
      have i1 : (s.size : Int) ≤ ((D.lim : Int) - (D.b0.size : Int) - (D.b1.size : Int)) := by omega
      have he : s.toList.isEmpty = false := by
        rw [ByteArray.toList_eq]
        cases hl : s.data.toList with
        | nil => exact absurd (by show s.data.size = 0; rw [← Array.length_toList, hl]; rfl) h0
        | cons _ _ => rfl
      clear e h0
      go_enter Tryz.func17, Tryz.ntmps17
      go_wp2_with fail
      refine (find_ok (w := w.alloc (.cells #[.string s] 9)) (h.grown (only_alloc (only_refl _ _) _)) n hn).mono ?_
      rintro e w' ⟨rfl, rfl⟩
      go_wp2_with fail
      go_quiet (fail)
      go_wp2_with fail
      refine (Hc.out _ (h.grown (only_drewN (only_alloc (only_alloc (only_refl _ _) _) _) _)) (by simp) (by simp)).mono ?_
      rintro e w1 ⟨rfl, hd1, ho1⟩
      go_wp2_with fail
      go_ret
      exact ⟨rfl, hd1, only_trans (only_drewN (only_alloc (only_alloc (only_refl _ _) _) _) _) ho1⟩
  · have e : D.append n s = (D.find n, D) := by simp [Dk.append, hn]
    rw [e]
    have Hf := Lib.hid (find_bad (w := w.alloc (.cells #[.string s] 9)) (h.grown (only_alloc (only_refl _ _) _)) n hn)
    have hc : (((D.find n : Nat) : Int) != 0) = true := by rw [bne_iff_ne]; omega
    clear hn e
    go_enter Tryz.func17, Tryz.ntmps17
    go_wp2_with fail
    refine (Hf.out).mono ?_
    rintro e w' ⟨rfl, rfl⟩
    go_wp2_with fail
    go_ret
    exact ⟨rfl, h.grown (only_alloc (only_alloc (only_refl _ _) _) _), only_alloc (only_alloc (only_refl _ _) _) _⟩
end
end Go.Proofs.YtklcpckjmncdkaaGreatDoor
