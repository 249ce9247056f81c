/- THE WALK of the document's Head; plain laws on marks, heads and the end of what is read. -/
import Derived.Test.YtklcpckjmncdkaaGreatDoorLaw
namespace Go.Proofs.YtklcpckjmncdkaaGreatDoor
set_option maxRecDepth 100000
open Go.RowKit

set_option maxHeartbeats 800000 in
theorem rhead_any (gen n : Nat) (hg : gen < 4294967296) (hn : n < 4294967296) (w : World) :
    Calls Tryz.prog 88 #[.int .i64 gen, .int .i64 n] w fun e w' => e = .returned (.string ⟨(headL gen n).toArray⟩) ∧ Below w.heap.size w w' := by
  have h1 := fun w => rfixed_any 4 gen (.inr (.inr rfl)) hg w
  have h2 := fun w => rfixed_any 4 n (.inr (.inr rfl)) hn w
  have l1 := be_length 4 gen
  have l2 := be_length 4 n
  have hfin : ((⟨#[65, 81, 85, 69, 68, 85, 67, 84]⟩ : ByteArray) ++ (⟨(be 4 gen).toArray⟩ : ByteArray) ++ (⟨(be 4 n).toArray⟩ : ByteArray) : ByteArray) = ⟨(headL gen n).toArray⟩ := str_cat' magicL _ _
  have H1 := Lib.hid h1
  have H2 := Lib.hid h2
  have Hfin := Lib.hid hfin
  clear h1 h2 hfin
  generalize be 4 gen = b1 at *
  generalize be 4 n = b2 at *
  go_enter Tryz.func88, Tryz.ntmps88
  go_wp2_with fail
  refine (H1.out _).mono ?_
  rintro e w1 ⟨rfl, hw1⟩
  go_wp2_with fail
  refine (H2.out _).mono ?_
  rintro e w2 ⟨rfl, hw2⟩
  go_wp2_with fail
  go_ret
  exact ⟨ret_str Hfin.out, hw1.trans (hw2.mono hw1.size)⟩

/-! ### Plain laws -/
theorem un_pos {s : ByteArray} {q : Int} (h : (unframe s q).2.2 = 0) : 1 ≤ (unframe s q).1.size := by
  revert h
  unfold unframe
  split
  · intro h; exact absurd h (by decide)
  split
  · intro h; exact absurd h (by decide)
  split
  · intro h; exact absurd h (by decide)
  split
  · intro h; exact absurd h (by decide)
  split
  · intro h; exact absurd h (by decide)
  · intro _
    simp only [ByteArray.size_extract]
    omega
theorem un_past {s : ByteArray} {q : Nat} (h : s.size ≤ q) : (unframe s q).2.2 ≠ 0 := by
  unfold unframe
  split
  · exact (by decide : (128 : Nat) ≠ 0)
  · rw [if_pos (by simp; omega)]
    exact (by decide : (242 : Nat) ≠ 0)
theorem scan_past {s : ByteArray} {q : Nat} (h : s.size ≤ q) (k : Nat) (l : List ByteArray) : scan s k q l = l := by
  cases k with
  | zero => rfl
  | succ k =>
    unfold scan
    simp only
    rw [if_neg (fun hh => un_past h hh.1)]
theorem cut_one {s : ByteArray} {b : UInt8} (h : 1 ≤ s.size) : cutPre s ⟨#[b]⟩ = if s[0] = b then (s.extract 1 s.size, true) else (s, false) := by
  unfold cutPre
  have e : (s.extract 0 1).toList = [s[0]] := by
    have hc : s.data.toList = [] ++ [s[0]] ++ s.data.toList.drop 1 := by
      have h0 : 0 < s.data.toList.length := by rw [← size_list]; omega
      have := (List.getElem_cons_drop h0).symm
      rw [List.drop_zero] at this
      exact this
    rw [extract_at (a := 0) (b := 1) hc rfl rfl, ByteArray.toList_eq]
  have eb : (⟨#[b]⟩ : ByteArray).toList = [b] := by rw [ByteArray.toList_eq]
  by_cases hb : s[0] = b
  · rw [if_pos hb, if_pos ⟨h, by show (s.extract 0 1).toList = _; rw [e, hb, eb]⟩]
    rfl
  · rw [if_neg hb, if_neg (fun hh => hb (by have h2 : (s.extract 0 1).toList = _ := hh.2; rw [e, eb] at h2; injection h2))]
theorem be_ub : ∀ (l : List UInt8), be l.length (ub l) = l := by
  intro l
  generalize hn : l.length = n
  induction n generalizing l with
  | zero => rw [List.eq_nil_of_length_eq_zero hn]; rfl
  | succ n ih =>
    obtain ⟨L, b, rfl⟩ : ∃ L b, l = L ++ [b] := by
      rcases List.eq_nil_or_concat l with rfl | ⟨L, b, h⟩
      · simp at hn
      · exact ⟨L, b, by simpa using h⟩
    have hb := b.toNat_lt
    have hL : L.length = n := by simpa using hn
    rw [ub_snoc]
    show be n ((ub L * 256 + b.toNat) / 256) ++ [UInt8.ofNat ((ub L * 256 + b.toNat) % 256)] = _
    rw [show (ub L * 256 + b.toNat) / 256 = ub L by omega, show (ub L * 256 + b.toNat) % 256 = b.toNat by omega, ih L hL]
    simp
theorem head_iff {h : ByteArray} (hz : h.size = 16) : h = ⟨(headL (numAt h 8 4) (numAt h 12 4)).toArray⟩ ↔ (h.extract 0 8).toList = magicL := by
  have hl : h.data.toList.length = 16 := by rw [← size_list]; exact hz
  constructor
  · intro e
    have hc : h.data.toList = [] ++ magicL ++ (be 4 (numAt h 8 4) ++ be 4 (numAt h 12 4)) := by
      have := congrArg (fun x : ByteArray => x.data.toList) e
      simpa [headL] using this
    rw [extract_at (a := 0) (b := 8) hc rfl rfl, ByteArray.toList_eq]
  · intro e
    have h3 : h.data.toList = h.data.toList.take 8 ++ (h.data.toList.drop 8).take 4 ++ (h.data.toList.drop 12).take 4 := by
      have a1 : (h.data.toList.drop 12).take 4 = h.data.toList.drop 12 := List.take_of_length_le (by rw [List.length_drop]; omega)
      have a2 : h.data.toList.drop 12 = (h.data.toList.drop 8).drop 4 := by rw [List.drop_drop]
      rw [a1, a2, List.append_assoc, List.take_append_drop, List.take_append_drop]
    have e1 : h.data.toList.take 8 = magicL := by
      have hc : h.data.toList = [] ++ h.data.toList.take 8 ++ h.data.toList.drop 8 := by simp
      rw [extract_at (a := 0) (b := 8) hc rfl (by rw [List.length_take]; simp; omega), ByteArray.toList_eq] at e
      simpa using e
    have e2 : (h.data.toList.drop 8).take 4 = be 4 (numAt h 8 4) := by
      have := be_ub ((h.data.toList.drop 8).take 4)
      rw [show ((h.data.toList.drop 8).take 4).length = 4 by simp; omega] at this
      exact this.symm
    have e3 : (h.data.toList.drop 12).take 4 = be 4 (numAt h 12 4) := by
      have := be_ub ((h.data.toList.drop 12).take 4)
      rw [show ((h.data.toList.drop 12).take 4).length = 4 by simp; omega] at this
      exact this.symm
    rw [e1, e2, e3] at h3
    apply ByteArray.ext
    show h.data = (headL _ _).toArray
    apply Array.toList_inj.1
    simpa [headL] using h3
end Go.Proofs.YtklcpckjmncdkaaGreatDoor
