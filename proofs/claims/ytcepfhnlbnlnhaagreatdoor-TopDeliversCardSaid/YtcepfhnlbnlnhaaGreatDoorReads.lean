/- THE WALK of reads: one PUBACK through the codec. -/
import Derived.Test.YtcepfhnlbnlnhaaGreatDoorWr
namespace Go.Proofs.YtcepfhnlbnlnhaaGreatDoor
set_option maxRecDepth 100000
open Go.RowKit

/-- A packet of a kind with an ID and nothing else. -/
def ackV (k n : Nat) : Array Value :=
  #[.int .i64 (k : Int), .bool false, .bool false, .int .i64 0, .int .i64 (n : Int), .string ⟨#[]⟩, .string ⟨#[]⟩, .int .u8 0, .slice none 0 0, .slice none 0 0, .string ⟨#[]⟩, .bool false, .int .i64 0, .bool false, .string ⟨#[]⟩, .string ⟨#[]⟩, .int .i64 0,
    .bool false, .slice none 0 0, .bool false, .bool false, .string ⟨#[]⟩, .string ⟨#[]⟩, .bool false, .slice none 0 0, .slice none 0 0]
section
variable {w : World} {b : Nat} {l : List UInt8}
theorem Lk.allocR {row : Option Nat} {pb : Nat} {a w : World} (h : Lk row pb a w) (o : Obj) : Lk row pb a (w.alloc o) :=
  h.trans (Lk.of_grown (only_alloc (only_refl w none) o) pb |>.weak row)
theorem WrAt.allocR {c : Nat} (h : WrAt w b l c) (o : Obj) : WrAt (w.alloc o) b l c := by
  obtain ⟨p, v, hp, hb, hr⟩ := h.at_
  exact ⟨p, v, hp, hb.alloc o, World.ownsRow.alloc hr o⟩
theorem WrAt.grown {c : Nat} {w' : World} (h : WrAt w b l c) (hg : w.grownBy w' none) : WrAt w' b l c := by
  obtain ⟨p, v, hp, hb, hr⟩ := h.at_
  exact ⟨p, v, hp, hb.grown hg (by simp), World.ownsRow.kept hr hg (by cases v.ownBlock <;> simp)⟩
set_option maxHeartbeats 1600000 in
theorem wtwo_any (h : WrAt w b l 0) (n : Nat) (hn : n < 65536) (hl : l.length ≤ 1000000) : Calls Tryz.prog 77 #[.pointer (some ⟨b, 0, none⟩), .int .i64 (n : Int)] w fun e w' => e = .returned (.tuple #[]) ∧ WrAt w' b (l ++ be 2 n) 0 ∧ Lk none b w w' := by
  have HF := Lib.hid (fixed_any 2 n (.inr (.inl rfl)) (by simpa using hn) w)
  have hbl := be_length 2 n
  generalize be 2 n = q at *
  go_enter Tryz.func77, Tryz.ntmps77
  go_wp2_with fail
  refine HF.out.mono ?_
  rintro e w1 ⟨rfl, hb1⟩
  have hg1 := grown_below hb1 (Nat.le_refl _)
  have HP := Lib.hid (wpart_any (h.grown hg1) ⟨q.toArray⟩ 0 (by show _ + q.toArray.size ≤ _; simp; omega))
  go_wp2_with fail
  refine HP.out.mono ?_
  rintro e w2 ⟨rfl, h2, hk2⟩
  go_wp2_with fail
  go_end0
  exact ⟨rfl, by simpa using h2, (Lk.of_grown hg1 b).trans hk2⟩
set_option maxHeartbeats 1600000 in
theorem wid_any (h : WrAt w b l 0) (n : Nat) (h1 : 1 ≤ n) (hn : n < 65536) (hl : l.length ≤ 1000000) : Calls Tryz.prog 62 #[.pointer (some ⟨b, 0, none⟩), .int .i64 (n : Int)] w fun e w' => e = .returned (.tuple #[]) ∧ WrAt w' b (l ++ be 2 n) 0 ∧ Lk none b w w' := by
  have HT := Lib.hid (wtwo_any h n hn hl)
  have d1 : decide ((n : Int) < 1) = false := by simp; omega
  have d2 : decide ((65535 : Int) < (n : Int)) = false := by simp; omega
  have e1 : ¬ n = 0 := by omega
  have e2 : ¬ 65535 < n := by omega
  go_enter Tryz.func62, Tryz.ntmps62
  go_wp2_with fail
  refine HT.out.mono ?_
  rintro e w1 ⟨rfl, h2, hk2⟩
  go_wp2_with fail
  go_end0
  exact ⟨rfl, h2, hk2⟩
set_option maxHeartbeats 1600000 in
theorem wend_none (k n : Nat) (v : Value) : Calls Tryz.prog 63 #[v, .agg (ackV k n)] w fun e w' => e = .returned (.tuple #[]) ∧ w.grownBy w' none := by
  unfold ackV
  go_enter Tryz.func63, Tryz.ntmps63
  go_wp2_with fail
  go_end0
  exact ⟨rfl, only_alloc (only_refl _ _) _⟩
set_option maxHeartbeats 3200000 in
theorem wbody_ack (h : WrAt w b l 0) (n : Nat) (h1 : 1 ≤ n) (hn : n < 65536) (hl : l.length ≤ 1000000) : Calls Tryz.prog 43 #[.pointer (some ⟨b, 0, none⟩), .agg (ackV 4 n)] w fun e w' => e = .returned (.tuple #[]) ∧ WrAt w' b (l ++ be 2 n) 0 ∧ Lk none b w w' := by
  have hbl := h.cells
  have hblt : b < w.heap.size := by obtain ⟨p, v, hp, hb, hr⟩ := h.at_; exact hb.lt
  have HI := Lib.hid (wid_any (h.allocR (.cells (ackV 4 n) 56)) n h1 hn hl)
  have HX : Blk (w.alloc (.cells (ackV 4 n) 56)) w.heap.size 56 (ackV 4 n) := Blk.new _ _ _
  have HE := Lib.hid (fun W => wend_none (w := W) 4 n (.pointer (some ⟨b, 0, none⟩)))
  have hk0 : Lk none b w (w.alloc (.cells (ackV 4 n) 56)) := (Lk.refl none b w).allocR _
  unfold ackV at *
  go_enter Tryz.func43, Tryz.ntmps43
  go_wp2_with fail
  refine HI.out.mono ?_
  rintro e w1 ⟨rfl, h2, hk1⟩
  have hX1 := hk1.blk HX (by simp) (by omega) (by decide)
  go_wp2_with (refine wpList_load_row (by rfl) 56 _ (by rfl) w.heap.size (by rfl) 56 _ (0, 0) _ hX1 Tryz.underlying56 (by rfl) (by kernel_rfl) ?_)
  refine (HE.out _).mono ?_
  rintro e w2 ⟨rfl, hg2⟩
  go_wp2_with fail
  go_end0
  exact ⟨rfl, h2.grown hg2, (hk0.trans hk1).trans (Lk.of_grown hg2 b)⟩
end
end Go.Proofs.YtcepfhnlbnlnhaaGreatDoor
