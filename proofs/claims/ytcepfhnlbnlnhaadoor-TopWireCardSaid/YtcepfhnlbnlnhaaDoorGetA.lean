/- THE WALKS of the packet's reader: number, text, id, props, sub. -/
import Derived.Test.YtcepfhnlbnlnhaaDoorPutE
import Derived.Test.YtcepfhnlbnlnhaaDoorReads8
namespace Go.Proofs.YtcepfhnlbnlnhaaDoor
set_option maxRecDepth 100000
open Go.RowKit

/-- A reader in memory. -/
def Rd (w : World) (rb : Nat) (s : ByteArray) (a : Nat) : Prop := Blk w rb 82 #[.string s, .int .i64 (a : Int)]
section
variable {w : World} {rb : Nat} {s : ByteArray}
set_option maxHeartbeats 1600000 in
theorem rnumber_gen (k : Nat) (hk : k = 1 ∨ k = 2) (a : Nat) (hs : s.size ≤ 1000000000) (ha : a + k ≤ s.size) (hb : Rd w rb s a) : Calls Tryd.prog 47 #[.pointer (some ⟨rb, 0, none⟩), .int .i64 (k : Int)] w fun e w' => e = .returned (.int .i64 (numAt s a k : Int)) ∧ Rd w' rb s (a + k) ∧ w.grownBy w' (some rb) := by
  unfold Rd at *
  have c0 := hb.cell 0
  have c1 := hb.cell 1
  have hw : Wd k := by rcases hk with rfl | rfl <;> simp [Wd]
  have G : ∀ W, Calls Tryd.prog 63 #[.string s, .int .i64 (a : Int), .int .i64 (k : Int)] W fun e w' => e = .returned (.tuple #[.int .i64 (numAt s a k : Int), .int .i64 ((a : Int) + k), .int .u8 0]) ∧ w' = W := by
    intro W
    exact (get_ok s (by unfold maxLen; omega) k hw a ha W).mono fun _ _ h => ⟨h.1, h.2.symm⟩
  have HG := Lib.hid G
  clear G
  generalize numAt s a k = n at *
  go_enter Tryd.func47, Tryd.ntmps47
  go_wp2_with fail
  go_quiet ((go_at_call 63; exact Calls.quiet_of_same (HG.out _)))
  rename_i nq
  have hb1 := hb.drewN nq
  have f1 := hb1.frozen 1
  have d1 := hb1.cell 1
  go_wp2_with (go_at_call 33; refine must_true.mono ?_; rintro e w' ⟨rfl, rfl⟩)
  go_ret
  exact ⟨rfl, hb1.put 1 _, only_put (only_drewN (only_refl _ _) _) 1 _⟩
set_option maxHeartbeats 1600000 in
theorem rtext_gen (a : Nat) (hs : s.size ≤ 1000000000) (ha : a + 2 + numAt s a 2 ≤ s.size) (hok : tbad (s.extract (a + 2) (a + 2 + numAt s a 2)) 0 = none) (hT : U8 w) (hb : Rd w rb s a) :
    Calls Tryd.prog 49 #[.pointer (some ⟨rb, 0, none⟩)] w fun e w' => e = .returned (.string (s.extract (a + 2) (a + 2 + numAt s a 2))) ∧ Rd w' rb s (a + 2 + numAt s a 2) ∧ w.grownBy w' (some rb) := by
  unfold Rd at *
  have c0 := hb.cell 0
  have c1 := hb.cell 1
  have HG := Lib.hid (fun (W : World) (hT : U8 W) => tget_any s hs a ha hok hT)
  have HT := Lib.hid (hT.kept (only_drew (only_refl w none)))
  have HT1 := Lib.hid hT
  generalize s.extract (a + 2) (a + 2 + numAt s a 2) = t at *
  generalize (a + 2 + numAt s a 2 : Nat) = n at *
  go_enter Tryd.func49, Tryd.ntmps49
  go_wp2_with fail
  go_region_held3 (fun w' => w'.cell? ⟨rb, 0, none⟩ = some (.string s) ∧ w'.cell? ⟨rb, 1, none⟩ = some (.int .i64 (a : Int))) (first | go_keep | assumption | exact ⟨by assumption, by assumption⟩)
    (first
      | (go_at_call 66; refine (HG.out _ HT.out).mono ?_; rintro e w3 ⟨rfl, hk3⟩; have hb3 := hb.drew.grown hk3 (by simp); have k0 : w3.cell? ⟨rb, 0, none⟩ = some (.string s) := hb3.cell 0; have k1 : w3.cell? ⟨rb, 1, none⟩ = some (.int .i64 (a : Int)) := hb3.cell 1))
  have f1 := hb3.frozen 1
  go_wp2_with (go_at_call 33; refine must_true.mono ?_; rintro e w' ⟨rfl, rfl⟩)
  go_ret
  exact ⟨rfl, hb3.put 1 _, only_put (only_weak (only_trans (only_drew (only_refl w none)) hk3) rb) 1 _⟩
set_option maxHeartbeats 800000 in
theorem rid_gen (a : Nat) (hs : s.size ≤ 1000000000) (ha : a + 2 ≤ s.size) (h0 : numAt s a 2 ≠ 0) (hb : Rd w rb s a) : Calls Tryd.prog 50 #[.pointer (some ⟨rb, 0, none⟩)] w fun e w' => e = .returned (.int .i64 (numAt s a 2 : Int)) ∧ Rd w' rb s (a + 2) ∧ w.grownBy w' (some rb) := by
  have HN := Lib.hid (rnumber_gen 2 (.inr rfl) a hs ha hb)
  generalize numAt s a 2 = n at *
  have hn : ((n : Int) == 0) = false := by simp; omega
  go_enter Tryd.func50, Tryd.ntmps50
  go_wp2_with fail
  refine HN.out.mono ?_
  rintro e w1 ⟨rfl, h1, hg1⟩
  go_wp2_with fail
  go_ret
  exact ⟨rfl, h1, hg1⟩
set_option maxHeartbeats 1600000 in
theorem pget_zero (a : Nat) (hs : s.size ≤ 1000000000) (ha : a < s.size) (h0 : s[a] = 0) : Calls Tryd.prog 64 #[.string s, .int .i64 (a : Int)] w fun e w' => e = .returned (.tuple #[.slice none 0 0, .int .i64 ((a : Int) + 1), .int .u8 0]) ∧ w.grownBy w' none := by
  have hV := vget_one (w := w) s hs a ha (by rw [h0]; decide)
  rw [h0] at hV
  have hx : s.extract (a + 1) (a + 1) = ⟨#[]⟩ := by
    apply ByteArray.ext
    simp
  have HV := Lib.hid hV
  clear hV
  have h1 : ¬ (s.size : Int) - ((a : Int) + 1) < 0 := by omega
  have hb := Blk.new w 119 #[.string ⟨#[]⟩, .int .i64 0, .bool false]
  have c0 := hb.cell 0
  have c1 := hb.cell 1
  go_enter Tryd.func64, Tryd.ntmps64
  go_wp2_with fail
  refine HV.out.mono ?_
  rintro e w1 ⟨rfl, rfl⟩
  go_wp2_with fail
  refine wp_loop_rounds 1 ?_
  rw [rounds_succ]
  go_wp2_with fail
  go_quiet (fail)
  go_wp2_with fail
  go_ret3
  exact ⟨rfl, only_drewN (only_alloc (only_refl w none) _) _⟩
set_option maxHeartbeats 1600000 in
theorem rprops_zero (k : Int) (a : Nat) (hs : s.size ≤ 1000000000) (ha : a < s.size) (h0 : s[a] = 0) (hb : Rd w rb s a) : Calls Tryd.prog 48 #[.pointer (some ⟨rb, 0, none⟩), .int .i64 k] w fun e w' => e = .returned (.slice none 0 0) ∧ Rd w' rb s (a + 1) ∧ w.grownBy w' (some rb) := by
  have hmf : ∀ (fn : Fn) (first cap : Array Value) (w : World), (Instr.makeFunc fn first cap).run Tryd.prog w = .ok (.func fn first cap) w := fun _ _ _ _ => rfl
  unfold Rd at *
  have hb0 := hb.alloc (.cells #[.int .i64 k] 28)
  have c0 := hb0.cell 0
  have c1 := hb0.cell 1
  have HG := Lib.hid (fun (W : World) => pget_zero (w := W) a hs ha h0)
  have HC := Lib.hid (fun W f => contains_nil (w := W) f)
  go_enter Tryd.func48, Tryd.ntmps48
  go_wp2_with fail
  go_region_held3 (fun w' => w'.cell? ⟨rb, 0, none⟩ = some (.string s) ∧ w'.cell? ⟨rb, 1, none⟩ = some (.int .i64 (a : Int))) (first | go_keep | assumption | exact ⟨by assumption, by assumption⟩)
    (first
      | (go_at_call 64; refine (HG.out _).mono ?_; rintro e w3 ⟨rfl, hk3⟩; have hb3 := hb0.drew.grown hk3 (by simp); have k0 : w3.cell? ⟨rb, 0, none⟩ = some (.string s) := hb3.cell 0; have k1 : w3.cell? ⟨rb, 1, none⟩ = some (.int .i64 (a : Int)) := hb3.cell 1))
  have f1 := hb3.frozen 1
  go_wp2_with (first
    | (go_at_call 33; refine must_true.mono ?_; rintro e w' ⟨rfl, rfl⟩)
    | (go_at_call 40; refine (HC.out _ _).mono ?_; rintro e w' ⟨rfl, rfl⟩))
  go_ret
  exact ⟨rfl, hb3.put 1 _, only_put (only_weak (only_trans (only_drew (only_alloc (only_refl w none) _)) hk3) rb) 1 _⟩
end
end Go.Proofs.YtcepfhnlbnlnhaaDoor
