/- THE WALKS of text.next, Fault, Put, Get and of varint.Data, GetData. -/
import Derived.Test.YtcepfhnlbnlnhaaDoorWire
import Derived.Test.YtcepfhnlbnlnhaaDoorUtf8
import Derived.Test.YtcepfhnlbnlnhaaDoorBaseW
import Derived.Shelf.Unicode.DecodeLastEight
namespace Go.Proofs.YtcepfhnlbnlnhaaDoor
set_option maxRecDepth 100000
open Go.RowKit

theorem nextN_le (s : ByteArray) : nextN s ≤ s.size := by
  unfold nextN
  split
  · exact Nat.zero_le _
  · exact Lib.decodeGo_le_size s
section
variable {w : World}
set_option maxHeartbeats 1600000 in
theorem next_any (s : ByteArray) (hT : U8 w) : Calls Tryd.prog 76 #[.string s] w fun e w' => e = .returned (.int .i64 (nextN s)) ∧ w.grownBy w' none := by
  have hD := decode_any s w hT
  unfold nextN
  generalize (Lib.decodeGo s).1 = R at *
  generalize (Lib.decodeGo s).2 = K at *
  have HD := Lib.hid hD
  clear hD
  have hg : ∀ w', Below w.heap.size w w' → w.grownBy w' none := fun w' h => grown_below h (Nat.le_refl _)
  by_cases h0 : R = 0
  · have b0 : ((R : Int) == 0) = true := by simp [h0]
    rw [if_pos (.inl h0)]
    go_enter Tryd.func76, Tryd.ntmps76
    go_wp2_with fail
    refine HD.out.mono ?_
    rintro e w1 ⟨rfl, hb⟩
    go_wp2_with fail
    go_ret
    exact ⟨rfl, hg _ hb⟩
  · have b0 : ((R : Int) == 0) = false := by simp; omega
    by_cases h1 : R = 65533
    · have b1 : ((R : Int) == 65533) = true := by simp [h1]
      by_cases h2 : K < 2
      · have b2 : decide ((K : Int) < 2) = true := by simp; omega
        have b3 : (K : Int) < 2 := by omega
        rw [if_pos (.inr ⟨h1, h2⟩)]
        go_enter Tryd.func76, Tryd.ntmps76
        go_wp2_with fail
        refine HD.out.mono ?_
        rintro e w1 ⟨rfl, hb⟩
        go_wp2_with fail
        go_ret
        exact ⟨rfl, hg _ hb⟩
      · have b2 : decide ((K : Int) < 2) = false := by simp; omega
        have b3 : ¬ (K : Int) < 2 := by omega
        rw [if_neg (by omega)]
        go_enter Tryd.func76, Tryd.ntmps76
        go_wp2_with fail
        refine HD.out.mono ?_
        rintro e w1 ⟨rfl, hb⟩
        go_wp2_with fail
        go_ret
        exact ⟨rfl, hg _ hb⟩
    · have b1 : ((R : Int) == 65533) = false := by simp; omega
      rw [if_neg (by omega)]
      go_enter Tryd.func76, Tryd.ntmps76
      go_wp2_with fail
      refine HD.out.mono ?_
      rintro e w1 ⟨rfl, hb⟩
      go_wp2_with fail
      go_ret
      exact ⟨rfl, hg _ hb⟩
/-- What Fault answers. -/
def badV (s : ByteArray) : Value := .tuple #[.int .i64 (((tbad s 0).getD 0 : Nat) : Int), .bool (tbad s 0).isSome]
theorem U8.kept {w' : World} (h : U8 w) (hg : w.grownBy w' none) : U8 w' := h.grown hg (by simp) (by simp)
set_option maxHeartbeats 1600000 in
theorem fault_any (s : ByteArray) (hs : s.size ≤ 1000000000) (hT : U8 w) : Calls Tryd.prog 68 #[.string s] w fun e w' => e = .returned (badV s) ∧ w.grownBy w' none := by
  unfold badV
  obtain ⟨B, hB⟩ : ∃ B, tbad s 0 = B := ⟨_, rfl⟩
  rw [hB]
  go_enter Tryd.func68, Tryd.ntmps68
  go_wp2_with fail
  go_loopw [4] (fun iv wr => ∃ i : Nat, i ≤ s.size ∧ iv = .int .i64 (i : Int) ∧ tbad s i = B ∧ w.grownBy wr none) (fun iv _ => s.size - (intOf iv).toNat)
  case atStart => exact ⟨0, Nat.zero_le _, rfl, hB, only_refl _ _⟩
  case round =>
    clear hB
    obtain ⟨i, hi, rfl, hB, hg⟩ := hrel
    by_cases hlt : i < s.size
    · have hX := next_any (s.extract i s.size) (hT.kept hg)
      have hle := nextN_le (s.extract i s.size)
      rw [ByteArray.size_extract] at hle
      rw [tbad, dif_pos hlt] at hB
      generalize nextN (s.extract i s.size) = n at *
      have HX := Lib.hid hX
      have HB := Lib.hid hB
      clear hX hB
      have hlti : (i : Int) < (s.size : Int) := by omega
      go_wp2_with fail
      refine HX.out.mono ?_
      rintro e w1 ⟨rfl, hk⟩
      by_cases h0 : n = 0
      · have b0 : ((n : Int) == 0) = true := by simp [h0]
        have hB2 := HB.out
        rw [if_pos h0] at hB2
        subst hB2
        go_wp2_with fail
        go_ret2
        exact ⟨rfl, only_trans hg hk⟩
      · have b0 : ((n : Int) == 0) = false := by simp; omega
        have hB2 := HB.out
        rw [if_neg h0, show max 1 n = n by omega] at hB2
        have hw : IntKind.i64.wrap ((i : Int) + (n : Int)) = (i : Int) + (n : Int) := IntWalk.i64_in _ (by omega)
        clear HB HX
        go_wp2_with fail
        exact ⟨⟨i + n, by omega, rfl, hB2, only_trans hg hk⟩, by simp [intOf]; omega⟩
    · have hlti : ¬ (i : Int) < (s.size : Int) := by omega
      rw [tbad, dif_neg hlt] at hB
      subst hB
      go_wp2_with fail
      go_ret2
      exact ⟨rfl, hg⟩
set_option maxHeartbeats 800000 in
theorem data_any (s : ByteArray) (hs : s.size ≤ 65535) : Calls Tryd.prog 55 #[.string s] w fun e w' => e = .returned (.tuple #[.string (⟨(be 2 s.size).toArray⟩ ++ s), .int .u8 0]) ∧ w.grownBy w' none := by
  have HF := Lib.hid (fixed_any 2 s.size (.inr (.inl rfl)) (by omega) w)
  have hbl := be_length 2 s.size
  have hsz : (⟨(be 2 s.size).toArray⟩ : ByteArray).size = 2 := by rw [size_list]; exact hbl
  generalize (⟨(be 2 s.size).toArray⟩ : ByteArray) = q at *
  have h1 : ¬ (65535 : Int) < (s.size : Int) := by omega
  go_enter Tryd.func55, Tryd.ntmps55
  go_wp2_with fail
  refine HF.out.mono ?_
  rintro e w1 ⟨rfl, hb⟩
  go_wp2_with fail
  go_ret2
  exact ⟨rfl, grown_below hb (Nat.le_refl _)⟩
/-- What text.Put answers. -/
def tputV (s : ByteArray) : Value := if tbad s 0 = none then .tuple #[.string (⟨(be 2 s.size).toArray⟩ ++ s), .int .u8 0] else .tuple #[.string ⟨#[]⟩, .int .u8 129]
set_option maxHeartbeats 800000 in
theorem tput_any (s : ByteArray) (hs : s.size ≤ 65535) (hT : U8 w) : Calls Tryd.prog 54 #[.string s] w fun e w' => e = .returned (tputV s) ∧ w.grownBy w' none := by
  have HF := Lib.hid (fault_any s (by omega) hT)
  have HD := Lib.hid (fun W => data_any (w := W) s hs)
  unfold badV at HF
  unfold tputV
  cases hb : tbad s 0 with
  | none =>
    rw [hb] at HF
    rw [if_pos rfl]
    go_enter Tryd.func54, Tryd.ntmps54
    go_wp2_with fail
    refine HF.out.mono ?_
    rintro e w1 ⟨rfl, hk⟩
    go_wp2_with fail
    refine (HD.out _).mono ?_
    rintro e w2 ⟨rfl, hk2⟩
    go_wp2_with fail
    go_ret2
    exact ⟨rfl, only_trans hk hk2⟩
  | some i =>
    rw [hb] at HF
    rw [if_neg (by simp)]
    go_enter Tryd.func54, Tryd.ntmps54
    go_wp2_with fail
    refine HF.out.mono ?_
    rintro e w1 ⟨rfl, hk⟩
    go_wp2_with fail
    go_ret2
    exact ⟨rfl, hk⟩
set_option maxHeartbeats 1600000 in
theorem getdata_any (s : ByteArray) (hs : s.size ≤ 1000000000) (a : Nat) (ha : a + 2 + numAt s a 2 ≤ s.size) : Calls Tryd.prog 73 #[.string s, .int .i64 (a : Int)] w fun e w' =>
    e = .returned (.tuple #[.string (s.extract (a + 2) (a + 2 + numAt s a 2)), .int .i64 ((a + 2 + numAt s a 2 : Nat) : Int), .int .u8 0]) ∧ w = w' := by
  have HG := Lib.hid (get_ok s (by unfold maxLen; omega) 2 (.inr (.inl rfl)) a (by omega) w)
  generalize numAt s a 2 = n at *
  have h1 : ¬ (s.size : Int) - ((a : Int) + 2) < (n : Int) := by omega
  go_enter Tryd.func73, Tryd.ntmps73
  go_wp2_with fail
  refine HG.out.mono ?_
  rintro e w1 ⟨rfl, rfl⟩
  go_wp2_with fail
  go_ret3
  exact ⟨rfl, rfl⟩
set_option maxHeartbeats 1600000 in
theorem tget_any (s : ByteArray) (hs : s.size ≤ 1000000000) (a : Nat) (ha : a + 2 + numAt s a 2 ≤ s.size) (hok : tbad (s.extract (a + 2) (a + 2 + numAt s a 2)) 0 = none) (hT : U8 w) : Calls Tryd.prog 66 #[.string s, .int .i64 (a : Int)] w fun e w' =>
    e = .returned (.tuple #[.string (s.extract (a + 2) (a + 2 + numAt s a 2)), .int .i64 ((a + 2 + numAt s a 2 : Nat) : Int), .int .u8 0]) ∧ w.grownBy w' none := by
  have HG := Lib.hid (getdata_any (w := w) s hs a ha)
  have hF := fault_any (w := w) (s.extract (a + 2) (a + 2 + numAt s a 2)) (by rw [ByteArray.size_extract]; omega) hT
  unfold badV at hF
  rw [hok] at hF
  have HF := Lib.hid hF
  clear hF hok
  generalize s.extract (a + 2) (a + 2 + numAt s a 2) = t at *
  generalize (a + 2 + numAt s a 2 : Nat) = n at *
  go_enter Tryd.func66, Tryd.ntmps66
  go_wp2_with fail
  refine HG.out.mono ?_
  rintro e w1 ⟨rfl, rfl⟩
  go_wp2_with fail
  refine HF.out.mono ?_
  rintro e w2 ⟨rfl, hk⟩
  go_wp2_with fail
  go_ret3
  exact ⟨rfl, hk⟩
end
end Go.Proofs.YtcepfhnlbnlnhaaDoor
