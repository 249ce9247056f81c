/- THE WALKS of the statements' own helpers over a disk: wakes, same, act. -/
import Derived.Test.YtklcpckjmncdkaaGreatDoorRAsk
import Derived.Deep.DeepCutAuto
namespace Go.Proofs.YtklcpckjmncdkaaGreatDoor
set_option maxRecDepth 100000
open Go.RowKit
attribute [local go_sem ↓] Go.wp_at_zero Go.wp_at_succ

/-- Two blocks, and what is new, have turned. -/
structure Two (w w' : World) (g r : Nat) : Prop where
  os : w'.os = w.os
  tape : w'.tape = w.tape
  output : w'.output = w.output
  size : w.heap.size ≤ w'.heap.size
  block : ∀ k, k < w.heap.size → k ≠ g → k ≠ r → w'.heap[k]? = w.heap[k]?
theorem Two.refl (w : World) (g r : Nat) : Two w w g r := ⟨rfl, rfl, rfl, Nat.le_refl _, fun _ _ _ _ => rfl⟩
theorem Two.trans {a b c : World} {g r : Nat} (h : Two a b g r) (k : Two b c g r) : Two a c g r :=
  ⟨k.os.trans h.os, k.tape.trans h.tape, k.output.trans h.output, Nat.le_trans h.size k.size, fun i hi h1 h2 => (k.block i (Nat.lt_of_lt_of_le hi h.size) h1 h2).trans (h.block i hi h1 h2)⟩
theorem Two.of_none {a b : World} {g r : Nat} (h : a.grownBy b none) : Two a b g r := ⟨h.os, h.tape, h.output, h.size, fun i hi _ _ => h.block i hi (by simp)⟩
theorem Two.of_left {a b : World} {g r : Nat} (h : a.grownBy b (some g)) : Two a b g r := ⟨h.os, h.tape, h.output, h.size, fun i hi h1 _ => h.block i hi (by simpa using h1)⟩
theorem Two.of_right {a b : World} {g r : Nat} (h : a.grownBy b (some r)) : Two a b g r := ⟨h.os, h.tape, h.output, h.size, fun i hi _ h2 => h.block i hi (by simpa using h2)⟩
theorem Two.below {a b : World} {g r B : Nat} (h : Two a b g r) (hB : B ≤ a.heap.size) (hg : B ≤ g) (hr : B ≤ r) : Below B a b := ⟨h.os, h.tape, h.output, h.size, fun i hi => h.block i (by omega) (by omega) (by omega)⟩

/-- Both disks in memory, with the same content. -/
structure Both (w : World) (g r : Nat) (D : Dk) : Prop where
  d : DiskAt w g D
  r : RDiskAt w r D
theorem Both.ne {w : World} {g r : Nat} {D : Dk} (h : Both w g r D) : g ≠ r := by
  obtain ⟨⟨⟨_, h1, _⟩, _⟩, ⟨⟨_, h2, _⟩, _⟩⟩ := h
  exact Blk.ne_ h1 h2 (by decide)
theorem Both.grown {w w' : World} {g r : Nat} {D : Dk} (h : Both w g r D) (hb : w.grownBy w' none) : Both w' g r D := ⟨h.d.grown hb, h.r.grown hb⟩
theorem DiskAt.blk {w : World} {g : Nat} {D : Dk} (h : DiskAt w g D) : ∃ cs, Blk w g 79 cs := by obtain ⟨⟨_, hb, _⟩, _⟩ := h; exact ⟨_, hb⟩
theorem RDiskAt.blk {w : World} {g : Nat} {D : Dk} (h : RDiskAt w g D) : ∃ cs, Blk w g 95 cs := by obtain ⟨⟨_, hb, _⟩, _⟩ := h; exact ⟨_, hb⟩
theorem RDiskAt.overD {w w' : World} {g r : Nat} {D E : Dk} (h : RDiskAt w r D) (hd : DiskAt w g E) (hb : w.grownBy w' (some g)) : RDiskAt w' r D := by
  obtain ⟨cs, hbk⟩ := hd.blk
  obtain ⟨cs2, hbk2⟩ := h.blk
  exact h.far hbk (by decide) (Blk.ne_ hbk2 hbk (by decide)) hb
theorem DiskAt.overR {w w' : World} {g r : Nat} {D E : Dk} (h : DiskAt w g D) (hd : RDiskAt w r E) (hb : w.grownBy w' (some r)) : DiskAt w' g D := by
  obtain ⟨cs, hbk⟩ := hd.blk
  obtain ⟨cs2, hbk2⟩ := h.blk
  exact h.far hbk (by decide) (Blk.ne_ hbk2 hbk (by decide)) hb

theorem Dk.find_lt (D : Dk) (n : Int) : D.find n < 256 := by
  unfold Dk.find
  split
  · decide
  · split <;> decide
theorem Dk.read_lt (D : Dk) (n : Int) : (D.read n).2 < 256 := by
  unfold Dk.read
  split
  · exact D.find_lt n
  · exact (by decide : 0 < 256)
theorem Dk.change_lt (D : Dk) (A C : Dk → Dk) : (D.change A C).1 < 256 := by
  unfold Dk.change
  split
  · exact (by decide : 240 < 256)
  · split
    · exact (by decide : 241 < 256)
    · exact (by decide : 0 < 256)
theorem Dk.append_lt (D : Dk) (n : Int) (s : ByteArray) : (D.append n s).1 < 256 := by
  unfold Dk.append
  split
  · exact D.find_lt n
  split
  · exact (by decide : 241 < 256)
  split
  · exact (by decide : 0 < 256)
  · exact D.change_lt _ _
theorem Dk.doSync_lt (D : Dk) (n : Int) : (D.doSync n).1 < 256 := by
  unfold Dk.doSync
  split
  · exact D.find_lt n
  · exact D.change_lt _ _
theorem Dk.doClear_lt (D : Dk) (n : Int) : (D.doClear n).1 < 256 := by
  unfold Dk.doClear
  split
  · exact D.find_lt n
  · exact D.change_lt _ _
theorem code_wrap {c : Nat} (h : c < 256) : IntKind.i64.wrap (c : Int) = (c : Int) := IntWalk.i64_in _ (by omega)
theorem flip_of {P : Program} {f : FuncId} {args : Array Value} {w : World} {v : Value} (h : Calls P f args w fun e w' => e = .returned v ∧ w = w') : Calls P f args w fun e w' => e = .returned v ∧ w' = w :=
  h.mono fun _ _ h => ⟨h.1, h.2.symm⟩
set_option maxHeartbeats 1600000 in
theorem same_any {w : World} {g r : Nat} {D : Dk} (h : Both w g r D) : Calls Tryz.prog 25 #[.pointer (some ⟨g, 0, none⟩), .pointer (some ⟨r, 0, none⟩)] w fun e w' => e = .returned (.bool true) ∧ w.grownBy w' none := by
  have hoff := Lib.hid (fun n => flip_of (off_any (h.d.grown (only_drewN (only_refl w none) n))))
  obtain ⟨kv, hb, hr⟩ := h.r.at_
  obtain ⟨_, _, _, _, _, c5, _⟩ := rdk_cells hb
  clear hb hr
  go_enter Tryz.func25, Tryz.ntmps25
  go_wp2_with fail
  go_quiet ((go_at_call 57; exact Calls.quiet_of_same (hoff.out _)))
  go_wp2_with fail
  clear c5
  go_loopw [17] (fun i wr => ∃ m : Nat, m ≤ 2 ∧ i = .int .i64 (m : Int) ∧ w.grownBy wr none) (fun i _ => 2 - (intOf i).toNat)
  case atStart => exact ⟨0, by omega, rfl, only_drewN (only_refl _ _) _⟩
  case round =>
    obtain ⟨m, hm, rfl, hg⟩ := hrel
    have hB := h.grown hg
    have hread := Lib.hid (fun i => read_any hB.d i)
    have hrread := Lib.hid (fun i => rread_any hB.r i)
    have hlasts := Lib.hid (fun n i => flip_of (lasts_any (hB.d.grown (only_drewN (only_refl wr none) n)) i))
    obtain ⟨kv, hb, hr⟩ := hB.r.at_
    obtain ⟨_, _, c2, c3, _⟩ := rdk_cells hb
    clear hb hr
    obtain rfl | rfl | rfl : m = 0 ∨ m = 1 ∨ m = 2 := by omega
    · have hrd := D.read_lt 0
      have hread := hread.out 0
      have hrread := hrread.out 0
      have hlasts : ∀ n, Calls Tryz.prog 58 #[.pointer (some ⟨g, 0, none⟩), .int .i64 0] (wr.drewN n) fun e w' => e = .returned (.int .i64 (D.l0 : Int)) ∧ w' = wr.drewN n := fun n => hlasts.out n 0
      generalize D.read 0 = rd at hrd hread hrread
      obtain ⟨rs, rc⟩ := rd
      simp only at hrd hread hrread
      have hw := code_wrap hrd
      have Hread := Lib.hid hread
      have Hrread := Lib.hid hrread
      have Hlasts := Lib.hid hlasts
      clear hread hrread hlasts
      go_wp2_with fail
      refine Hread.out.mono ?_
      rintro e w' ⟨rfl, rfl⟩
      go_wp2_with fail
      refine Hrread.out.mono ?_
      rintro e w' ⟨rfl, rfl⟩
      go_wp2_with fail
      go_quiet ((go_at_call 58; exact Calls.quiet_of_same (Hlasts.out _)))
      go_wp2_with fail
      go_roundw
      case rel => exact ⟨1, by omega, rfl, only_trans hg (only_drewN (only_refl _ _) _)⟩
      case measure => simp [intOf]
    · have hrd := D.read_lt 1
      have hread := hread.out 1
      have hrread := hrread.out 1
      have hlasts : ∀ n, Calls Tryz.prog 58 #[.pointer (some ⟨g, 0, none⟩), .int .i64 1] (wr.drewN n) fun e w' => e = .returned (.int .i64 (D.l1 : Int)) ∧ w' = wr.drewN n := fun n => hlasts.out n 1
      generalize D.read 1 = rd at hrd hread hrread
      obtain ⟨rs, rc⟩ := rd
      simp only at hrd hread hrread
      have hw := code_wrap hrd
      have Hread := Lib.hid hread
      have Hrread := Lib.hid hrread
      have Hlasts := Lib.hid hlasts
      clear hread hrread hlasts
      go_wp2_with fail
      refine Hread.out.mono ?_
      rintro e w' ⟨rfl, rfl⟩
      go_wp2_with fail
      refine Hrread.out.mono ?_
      rintro e w' ⟨rfl, rfl⟩
      go_wp2_with fail
      go_quiet ((go_at_call 58; exact Calls.quiet_of_same (Hlasts.out _)))
      go_wp2_with fail
      go_roundw
      case rel => exact ⟨2, by omega, rfl, only_trans hg (only_drewN (only_refl _ _) _)⟩
      case measure => simp [intOf]
    · go_wp2_with fail
      go_ret
      exact ⟨rfl, hg⟩
end Go.Proofs.YtklcpckjmncdkaaGreatDoor
