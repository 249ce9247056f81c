/- THE WALKS of the journal's head, and of strings.CutPrefix. -/
import Derived.Test.YtklcpckjmncdkaaGreatDoorFrame
import Derived.Test.YtklcpckjmncdkaaGreatDoorDiskAt
namespace Go.Proofs.YtklcpckjmncdkaaGreatDoor
set_option maxRecDepth 100000
open Go.RowKit

def magicL : List UInt8 := [65, 81, 85, 69, 68, 85, 67, 84]
/-- The body of a head. -/
def headL (gen n : Nat) : List UInt8 := magicL ++ be 4 gen ++ be 4 n
theorem headL_length (gen n : Nat) : (headL gen n).length = 16 := by simp [headL, magicL, be_length]
theorem str_cat' (a b c : List UInt8) : ((⟨a.toArray⟩ : ByteArray) ++ (⟨b.toArray⟩ : ByteArray) ++ (⟨c.toArray⟩ : ByteArray) : ByteArray) = ⟨(a ++ b ++ c).toArray⟩ := by
  apply ByteArray.ext
  simp
theorem ret_str {a b : ByteArray} (h : a = b) : Ending.returned (.string a) = .returned (.string b) := by rw [h]
set_option maxHeartbeats 800000 in
theorem head_any (gen n : Nat) (hg : gen < 4294967296) (hn : n < 4294967296) (w : World) :
    Calls Tryz.prog 76 #[.int .i64 gen, .int .i64 n] w fun e w' => e = .returned (.string ⟨(headL gen n).toArray⟩) ∧ Below w.heap.size w w' := by
  have h1 := fun w => fixed_any 4 gen (.inr (.inr rfl)) hg w
  have h2 := fun w => fixed_any 4 n (.inr (.inr rfl)) hn w
  have l1 := be_length 4 gen
  have l2 := be_length 4 n
  have hfin : ((⟨#[65, 81, 85, 69, 68, 85, 67, 84]⟩ : ByteArray) ++ (⟨(be 4 gen).toArray⟩ : ByteArray) ++ (⟨(be 4 n).toArray⟩ : ByteArray) : ByteArray) = ⟨(headL gen n).toArray⟩ := str_cat' magicL _ _
  have H1 := Lib.hid h1
  have H2 := Lib.hid h2
  have Hfin := Lib.hid hfin
  clear h1 h2 hfin
  generalize be 4 gen = b1 at *
  generalize be 4 n = b2 at *
  go_enter Tryz.func76, Tryz.ntmps76
  go_wp2_with fail
  refine (H1.out _).mono ?_
  rintro e w1 ⟨rfl, hw1⟩
  go_wp2_with fail
  refine (H2.out _).mono ?_
  rintro e w2 ⟨rfl, hw2⟩
  go_wp2_with fail
  go_ret
  exact ⟨ret_str Hfin.out, hw1.trans (hw2.mono hw1.size)⟩

/-- A text without a beginning. -/
def cutPre (s p : ByteArray) : ByteArray × Bool := if p.size ≤ s.size ∧ (s.extract 0 p.size).toList = p.toList then (s.extract p.size s.size, true) else (s, false)
set_option maxHeartbeats 800000 in
theorem hasPre_any (s p : ByteArray) (_hs : s.size ≤ maxLen) (_hp : p.size ≤ maxLen) (w : World) :
    Calls Tryz.prog 125 #[.string s, .string p] w fun e w' => e = .returned (.bool (cutPre s p).2) ∧ w = w' := by
  unfold maxLen at _hs _hp
  by_cases h1 : p.size ≤ s.size
  · by_cases h2 : (s.extract 0 p.size).toList = p.toList
    · have e : (cutPre s p).2 = true := by unfold cutPre; rw [if_pos ⟨h1, h2⟩]
      have E := Lib.hid e
      clear e
      go_enter Tryz.func125, Tryz.ntmps125
      go_wp2_with fail
      go_ret
      exact ⟨by rw [E.out]; rfl, rfl⟩
    · have e : (cutPre s p).2 = false := by unfold cutPre; rw [if_neg (fun h => h2 h.2)]
      have hb : ((s.extract 0 p.size).toList == p.toList) = false := by simpa using h2
      have E := Lib.hid e
      clear e
      go_enter Tryz.func125, Tryz.ntmps125
      go_wp2_with fail
      go_ret
      exact ⟨by rw [E.out]; rfl, rfl⟩
  · have e : (cutPre s p).2 = false := by unfold cutPre; rw [if_neg (fun h => h1 h.1)]
    have E := Lib.hid e
    clear e
    go_enter Tryz.func125, Tryz.ntmps125
    go_wp2_with fail
    go_ret
    exact ⟨by rw [E.out]; rfl, rfl⟩
set_option maxHeartbeats 800000 in
theorem cutLite_any (s p : ByteArray) (hs : s.size ≤ maxLen) (hp : p.size ≤ maxLen) (w : World) :
    Calls Tryz.prog 105 #[.string s, .string p] w fun e w' => e = .returned (.tuple #[.string (cutPre s p).1, .bool (cutPre s p).2]) ∧ w = w' := by
  have H := Lib.hid (hasPre_any s p hs hp)
  unfold maxLen at hs hp
  by_cases h : p.size ≤ s.size ∧ (s.extract 0 p.size).toList = p.toList
  · have e : cutPre s p = (s.extract p.size s.size, true) := by unfold cutPre; rw [if_pos h]
    obtain ⟨h1, h2⟩ := h
    rw [e] at H ⊢
    clear e h2
    go_enter Tryz.func105, Tryz.ntmps105
    go_wp2_with fail
    refine (H.out _).mono ?_
    rintro e w' ⟨rfl, rfl⟩
    go_wp2_with fail
    go_ret2
    exact ⟨rfl, rfl⟩
  · have e : cutPre s p = (s, false) := by unfold cutPre; rw [if_neg h]
    rw [e] at H ⊢
    clear e h
    go_enter Tryz.func105, Tryz.ntmps105
    go_wp2_with fail
    refine (H.out _).mono ?_
    rintro e w' ⟨rfl, rfl⟩
    go_wp2_with fail
    go_ret2
    exact ⟨rfl, rfl⟩
set_option maxHeartbeats 800000 in
theorem cutPre_any (s p : ByteArray) (hs : s.size ≤ maxLen) (hp : p.size ≤ maxLen) (w : World) :
    Calls Tryz.prog 75 #[.string s, .string p] w fun e w' => e = .returned (.tuple #[.string (cutPre s p).1, .bool (cutPre s p).2]) ∧ w = w' := by
  have H := Lib.hid (cutLite_any s p hs hp)
  generalize cutPre s p = r at *
  obtain ⟨r1, r2⟩ := r
  go_enter Tryz.func75, Tryz.ntmps75
  go_wp2_with fail
  refine (H.out _).mono ?_
  rintro e w' ⟨rfl, rfl⟩
  go_wp2_with fail
  go_ret2
  exact ⟨rfl, rfl⟩
end Go.Proofs.YtklcpckjmncdkaaGreatDoor
