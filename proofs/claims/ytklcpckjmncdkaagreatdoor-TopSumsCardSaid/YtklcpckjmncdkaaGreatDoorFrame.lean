/- THE WALKS of Frame and Unframe, the program's and the document's. -/
import Derived.Test.YtklcpckjmncdkaaGreatDoorGet
import Derived.Test.YtklcpckjmncdkaaGreatDoorSum
namespace Go.Proofs.YtklcpckjmncdkaaGreatDoor
set_option maxRecDepth 100000
open Go.RowKit

/-- The frame of a body. -/
def frame (l : List UInt8) : List UInt8 := be 4 l.length ++ be 2 (Jr.sum l) ++ l

/-- What stands at a place: the body, the place behind it, the code. -/
def unframe (s : ByteArray) (p : Int) : ByteArray × Nat × Nat :=
  if p < 0 ∨ (s.size : Int) < p then (⟨#[]⟩, 0, 128)
  else if s.size < p.toNat + 4 then (⟨#[]⟩, 0, 242)
  else if numAt s p.toNat 4 = 0 ∨ 131072 < numAt s p.toNat 4 then (⟨#[]⟩, 0, 129)
  else if s.size < p.toNat + 6 + numAt s p.toNat 4 then (⟨#[]⟩, 0, 242)
  else if Jr.sum (s.extract (p.toNat + 6) (p.toNat + 6 + numAt s p.toNat 4)).data.toList ≠ numAt s (p.toNat + 4) 2 then (⟨#[]⟩, 0, 129)
  else (s.extract (p.toNat + 6) (p.toNat + 6 + numAt s p.toNat 4), p.toNat + 6 + numAt s p.toNat 4, 0)

set_option maxHeartbeats 400000 in
theorem frame_empty (s : ByteArray) (h : s.size = 0) (w : World) : Calls Tryz.prog 40 #[.string s] w fun e w' => e = .returned (.tuple #[.string ⟨#[]⟩, .int .u8 129]) ∧ w = w' := by
  have h1 : s.toList = [] := by rw [ByteArray.toList_eq]; exact List.eq_nil_of_length_eq_zero (by simpa using h)
  clear h
  go_enter Tryz.func40, Tryz.ntmps40
  go_wp2_with fail
  go_ret2
  exact ⟨rfl, rfl⟩
theorem isEmpty_no {s : ByteArray} (h : 1 ≤ s.size) : s.toList.isEmpty = false := by
  rw [ByteArray.toList_eq]
  cases hl : s.data.toList with
  | nil =>
    have : s.size = 0 := by show s.data.size = 0; rw [← Array.length_toList, hl]; rfl
    omega
  | cons _ _ => rfl
set_option maxHeartbeats 400000 in
theorem frame_great (s : ByteArray) (hs : s.size ≤ maxLen) (h : 131072 < s.size) (w : World) : Calls Tryz.prog 40 #[.string s] w fun e w' => e = .returned (.tuple #[.string ⟨#[]⟩, .int .u8 149]) ∧ w = w' := by
  unfold maxLen at hs
  have h1 := isEmpty_no (s := s) (by omega)
  go_enter Tryz.func40, Tryz.ntmps40
  go_wp2_with fail
  go_ret2
  exact ⟨rfl, rfl⟩
theorem str_cat (a b : List UInt8) (s : ByteArray) : ((⟨a.toArray⟩ : ByteArray) ++ (⟨b.toArray⟩ : ByteArray) ++ s : ByteArray) = ⟨(a ++ b ++ s.data.toList).toArray⟩ := by
  apply ByteArray.ext
  simp
theorem ret2_str {a b : ByteArray} {v : Value} (h : a = b) : Ending.returned (.tuple #[.string a, v]) = .returned (.tuple #[.string b, v]) := by rw [h]
theorem size_data (s : ByteArray) : s.data.toList.length = s.size := by simp
set_option maxHeartbeats 400000 in
theorem frame_ok (s : ByteArray) (h : 1 ≤ s.size) (h2 : s.size ≤ 131072) (w : World) : Calls Tryz.prog 40 #[.string s] w fun e w' => e = .returned (.tuple #[.string ⟨(frame s.data.toList).toArray⟩, .int .u8 0]) ∧ Below w.heap.size w w' := by
  have h1 := isEmpty_no (s := s) h
  have hl := Jr.sum_lt s.data.toList
  have hb4 := be_length 4 s.size
  have hb2 := be_length 2 (Jr.sum s.data.toList)
  go_enter Tryz.func40, Tryz.ntmps40
  go_wp2_with fail
  refine (fixed_any 4 s.size (by simp [Wd]) (by omega) _).mono ?_
  rintro e w1 ⟨rfl, hw1⟩
  go_wp2_with fail
  refine (sum_any s _ (by unfold maxLen; omega)).mono ?_
  rintro e w' ⟨rfl, rfl⟩
  go_wp2_with fail
  refine (fixed_any 2 _ (by simp [Wd]) (by omega) _).mono ?_
  rintro e w2 ⟨rfl, hw2⟩
  go_wp2_with fail
  go_ret2
  exact ⟨ret2_str (by rw [str_cat, frame, size_data]), hw1.trans (hw2.mono hw1.size)⟩

set_option maxHeartbeats 400000 in
theorem rframe_empty (s : ByteArray) (h : s.size = 0) (w : World) : Calls Tryz.prog 66 #[.string s] w fun e w' => e = .returned (.tuple #[.string ⟨#[]⟩, .int .i64 129]) ∧ w = w' := by
  have h1 : ((s.size : Int) == 0) = true := by simp [h]
  clear h
  go_enter Tryz.func66, Tryz.ntmps66
  go_wp2_with fail
  go_ret2
  exact ⟨rfl, rfl⟩
set_option maxHeartbeats 400000 in
theorem rframe_great (s : ByteArray) (hs : s.size ≤ maxLen) (h : 131072 < s.size) (w : World) : Calls Tryz.prog 66 #[.string s] w fun e w' => e = .returned (.tuple #[.string ⟨#[]⟩, .int .i64 149]) ∧ w = w' := by
  unfold maxLen at hs
  go_enter Tryz.func66, Tryz.ntmps66
  go_wp2_with fail
  go_ret2
  exact ⟨rfl, rfl⟩
set_option maxHeartbeats 400000 in
theorem rframe_ok (s : ByteArray) (h : 1 ≤ s.size) (h2 : s.size ≤ 131072) (w : World) : Calls Tryz.prog 66 #[.string s] w fun e w' => e = .returned (.tuple #[.string ⟨(frame s.data.toList).toArray⟩, .int .i64 0]) ∧ Below w.heap.size w w' := by
  have hl := Jr.sum_lt s.data.toList
  have hb4 := be_length 4 s.size
  have hb2 := be_length 2 (Jr.sum s.data.toList)
  go_enter Tryz.func66, Tryz.ntmps66
  go_wp2_with fail
  refine (rfixed_any 4 s.size (by simp [Wd]) (by omega) _).mono ?_
  rintro e w1 ⟨rfl, hw1⟩
  go_wp2_with fail
  refine (rsum_any s _ (by unfold maxLen; omega)).mono ?_
  rintro e w' ⟨rfl, rfl⟩
  go_wp2_with fail
  refine (rfixed_any 2 _ (by simp [Wd]) (by omega) _).mono ?_
  rintro e w2 ⟨rfl, hw2⟩
  go_wp2_with fail
  go_ret2
  exact ⟨ret2_str (by rw [str_cat, frame, size_data]), hw1.trans (hw2.mono hw1.size)⟩

/-- A body's frame, and the code. -/
def frameR (s : ByteArray) : ByteArray × Nat :=
  if s.size = 0 then (⟨#[]⟩, 129) else if 131072 < s.size then (⟨#[]⟩, 149) else (⟨(frame s.data.toList).toArray⟩, 0)
theorem frame_any (s : ByteArray) (hs : s.size ≤ maxLen) (w : World) : Calls Tryz.prog 40 #[.string s] w fun e w' =>
    e = .returned (.tuple #[.string (frameR s).1, .int .u8 (frameR s).2]) ∧ Below w.heap.size w w' := by
  by_cases h0 : s.size = 0
  · exact (frame_empty s h0 w).mono fun e w' ⟨he, hw⟩ => ⟨by rw [he]; simp [frameR, h0], hw ▸ Below.refl _ _⟩
  by_cases h1 : 131072 < s.size
  · exact (frame_great s hs h1 w).mono fun e w' ⟨he, hw⟩ => ⟨by rw [he]; simp [frameR, h0, h1], hw ▸ Below.refl _ _⟩
  · exact (frame_ok s (by omega) (by omega) w).mono fun e w' ⟨he, hw⟩ => ⟨by rw [he]; simp [frameR, h0, h1], hw⟩
theorem rframe_any (s : ByteArray) (hs : s.size ≤ maxLen) (w : World) : Calls Tryz.prog 66 #[.string s] w fun e w' =>
    e = .returned (.tuple #[.string (frameR s).1, .int .i64 (frameR s).2]) ∧ Below w.heap.size w w' := by
  by_cases h0 : s.size = 0
  · exact (rframe_empty s h0 w).mono fun e w' ⟨he, hw⟩ => ⟨by rw [he]; simp [frameR, h0], hw ▸ Below.refl _ _⟩
  by_cases h1 : 131072 < s.size
  · exact (rframe_great s hs h1 w).mono fun e w' ⟨he, hw⟩ => ⟨by rw [he]; simp [frameR, h0, h1], hw ▸ Below.refl _ _⟩
  · exact (rframe_ok s (by omega) (by omega) w).mono fun e w' ⟨he, hw⟩ => ⟨by rw [he]; simp [frameR, h0, h1], hw⟩
theorem frameR_code (s : ByteArray) : (frameR s).2 < 256 := by
  unfold frameR
  split
  · exact (by decide : 129 < 256)
  · split
    · exact (by decide : 149 < 256)
    · exact (by decide : 0 < 256)

/-! ### Unframe -/
section
variable (s : ByteArray)
theorem un_code (p : Int) : (unframe s p).2.2 < 256 := by
  unfold unframe
  repeat' split
  all_goals (first | exact (by decide : 128 < 256) | exact (by decide : 129 < 256) | exact (by decide : 242 < 256) | exact (by decide : 0 < 256))
theorem un_bad (p : Int) (h : p < 0 ∨ (s.size : Int) < p) : unframe s p = (⟨#[]⟩, 0, 128) := by unfold unframe; rw [if_pos h]
theorem un_short (a : Nat) (h : a ≤ s.size) (h2 : s.size < a + 4) : unframe s a = (⟨#[]⟩, 0, 242) := by
  unfold unframe; rw [if_neg (by omega), if_pos (by simpa using h2)]
theorem un_len (a : Nat) (h : a + 4 ≤ s.size) (h2 : numAt s a 4 = 0 ∨ 131072 < numAt s a 4) : unframe s a = (⟨#[]⟩, 0, 129) := by
  unfold unframe; rw [if_neg (by omega), if_neg (by simp; omega), if_pos (by simpa using h2)]
theorem un_none (a : Nat) (h : a + 4 ≤ s.size) (h1 : 1 ≤ numAt s a 4) (h2 : numAt s a 4 ≤ 131072) (h3 : s.size < a + 6 + numAt s a 4) : unframe s a = (⟨#[]⟩, 0, 242) := by
  unfold unframe; rw [if_neg (by omega), if_neg (by simp; omega), if_neg (by simp; omega), if_pos (by simpa using h3)]
theorem un_sum (a : Nat) (h1 : 1 ≤ numAt s a 4) (h2 : numAt s a 4 ≤ 131072) (h3 : a + 6 + numAt s a 4 ≤ s.size) (h4 : Jr.sum (s.extract (a + 6) (a + 6 + numAt s a 4)).data.toList ≠ numAt s (a + 4) 2) : unframe s a = (⟨#[]⟩, 0, 129) := by
  unfold unframe; rw [if_neg (by omega), if_neg (by simp; omega), if_neg (by simp; omega), if_neg (by simp; omega), if_pos (by simpa using h4)]
theorem un_ok (a : Nat) (h1 : 1 ≤ numAt s a 4) (h2 : numAt s a 4 ≤ 131072) (h3 : a + 6 + numAt s a 4 ≤ s.size) (h4 : Jr.sum (s.extract (a + 6) (a + 6 + numAt s a 4)).data.toList = numAt s (a + 4) 2) : unframe s a = (s.extract (a + 6) (a + 6 + numAt s a 4), a + 6 + numAt s a 4, 0) := by
  unfold unframe; rw [if_neg (by omega), if_neg (by simp; omega), if_neg (by simp; omega), if_neg (by simp; omega), if_neg (by simpa using h4)]; simp
end

set_option maxHeartbeats 800000 in
theorem unframe_any (s : ByteArray) (hs : s.size ≤ maxLen) (p : Int) (w : World) : Calls Tryz.prog 73 #[.string s, .int .i64 p] w fun e w' =>
    e = .returned (.tuple #[.string (unframe s p).1, .int .i64 (unframe s p).2.1, .int .u8 (unframe s p).2.2]) ∧ w = w' := by
  have hs' := hs
  unfold maxLen at hs'
  have h4 : Wd 4 := by simp [Wd]
  have h2 : Wd 2 := by simp [Wd]
  by_cases hp : p < 0 ∨ (s.size : Int) < p
  · rw [un_bad s p hp]
    go_enter Tryz.func73, Tryz.ntmps73
    go_wp2_with fail
    refine (get_bad s hs 4 h4 p hp _).mono ?_
    rintro e w' ⟨rfl, rfl⟩
    go_wp2_with fail
    go_ret3
    exact ⟨rfl, rfl⟩
  obtain ⟨a, rfl⟩ := Int.eq_ofNat_of_zero_le (show 0 ≤ p by omega)
  have ha : a ≤ s.size := by omega
  clear hp
  by_cases hq : s.size < a + 4
  · rw [un_short s a ha hq]
    go_enter Tryz.func73, Tryz.ntmps73
    go_wp2_with fail
    refine (get_none s hs 4 h4 a ha hq _).mono ?_
    rintro e w' ⟨rfl, rfl⟩
    go_wp2_with fail
    go_ret3
    exact ⟨rfl, rfl⟩
  have hn4 := numAt_lt4 s a 4 (by omega)
  by_cases hl : numAt s a 4 = 0 ∨ 131072 < numAt s a 4
  · rw [un_len s a (by omega) hl]
    have g4 := fun w => get_ok s hs 4 h4 a (by omega) w
    generalize numAt s a 4 = n at *
    have G4 := Lib.hid g4
    clear g4
    rcases hl with rfl | hl
    all_goals
      go_enter Tryz.func73, Tryz.ntmps73
      go_wp2_with fail
      refine (G4.out _).mono ?_
      rintro e w' ⟨rfl, rfl⟩
      go_wp2_with fail
      go_ret3
      exact ⟨rfl, rfl⟩
  obtain ⟨l1, l2⟩ : 1 ≤ numAt s a 4 ∧ numAt s a 4 ≤ 131072 := by omega
  clear hl
  have b1 : (((numAt s a 4 : Nat) : Int) == 0) = false := by rw [beq_eq_false_iff_ne]; omega
  have b2 : decide ((131072 : Int) < ((numAt s a 4 : Nat) : Int)) = false := by rw [decide_eq_false_iff_not]; omega
  have g4 : ∀ w, Calls Tryz.prog 74 #[.string s, .int .i64 a, .int .i64 4] w fun e w' => e = .returned (.tuple #[.int .i64 (numAt s a 4), .int .i64 ((a : Int) + 4), .int .u8 0]) ∧ w = w' := fun w => get_ok s hs 4 h4 a (by omega) w
  by_cases hq2 : s.size < a + 6
  · rw [un_none s a (by omega) l1 l2 (by omega)]
    have g2 : ∀ w, Calls Tryz.prog 74 #[.string s, .int .i64 ((a : Int) + 4), .int .i64 2] w fun e w' => e = .returned (.tuple #[.int .i64 0, .int .i64 0, .int .u8 242]) ∧ w = w' := fun w => get_none s hs 2 h2 (a + 4) (by omega) (by omega) w
    generalize numAt s a 4 = n at *
    have G4 := Lib.hid g4
    have G2 := Lib.hid g2
    clear g4 g2
    go_enter Tryz.func73, Tryz.ntmps73
    go_wp2_with fail
    refine (G4.out _).mono ?_
    rintro e w' ⟨rfl, rfl⟩
    go_wp2_with fail
    refine (G2.out _).mono ?_
    rintro e w' ⟨rfl, rfl⟩
    go_wp2_with fail
    go_ret3
    exact ⟨rfl, rfl⟩
  have g2 : ∀ w, Calls Tryz.prog 74 #[.string s, .int .i64 ((a : Int) + 4), .int .i64 2] w fun e w' => e = .returned (.tuple #[.int .i64 (numAt s (a + 4) 2), .int .i64 ((a : Int) + 6), .int .u8 0]) ∧ w = w' := fun w =>
    (get_ok s hs 2 h2 (a + 4) (by omega) w).mono fun e w' ⟨he, hw⟩ => ⟨by rw [he, show (((a + 4 : Nat) : Int) + ((2 : Nat) : Int)) = (a : Int) + 6 from by omega], hw⟩
  by_cases hq3 : s.size < a + 6 + numAt s a 4
  · rw [un_none s a (by omega) l1 l2 hq3]
    generalize numAt s a 4 = n at *
    generalize numAt s (a + 4) 2 = m at *
    have G4 := Lib.hid g4
    have G2 := Lib.hid g2
    clear g4 g2
    go_enter Tryz.func73, Tryz.ntmps73
    go_wp2_with fail
    refine (G4.out _).mono ?_
    rintro e w' ⟨rfl, rfl⟩
    go_wp2_with fail
    refine (G2.out _).mono ?_
    rintro e w' ⟨rfl, rfl⟩
    go_wp2_with fail
    go_ret3
    exact ⟨rfl, rfl⟩
  have gs : ∀ w, Calls Tryz.prog 55 #[.string (s.extract (a + 6) (a + 6 + numAt s a 4))] w fun e w' => e = .returned (.int .i64 (Jr.sum (s.extract (a + 6) (a + 6 + numAt s a 4)).data.toList)) ∧ w = w' := fun w =>
    sum_any _ w (by rw [ByteArray.size_extract]; unfold maxLen; omega)
  have hu := un_sum s a l1 l2 (by omega)
  have hv := un_ok s a l1 l2 (by omega)
  by_cases hsum : Jr.sum (s.extract (a + 6) (a + 6 + numAt s a 4)).data.toList = numAt s (a + 4) 2
  · rw [hv hsum]
    have ht : (((Jr.sum (s.extract (a + 6) (a + 6 + numAt s a 4)).data.toList : Nat) : Int) != (numAt s (a + 4) 2 : Int)) = false := by rw [hsum]; simp
    generalize hn : numAt s a 4 = n at *
    generalize numAt s (a + 4) 2 = m at *
    clear hu hv hsum hn
    generalize Jr.sum (s.extract (a + 6) (a + 6 + n)).data.toList = sm at *
    have G4 := Lib.hid g4
    have G2 := Lib.hid g2
    have Gs := Lib.hid gs
    clear g4 g2 gs
    go_enter Tryz.func73, Tryz.ntmps73
    go_wp2_with fail
    refine (G4.out _).mono ?_
    rintro e w' ⟨rfl, rfl⟩
    go_wp2_with fail
    refine (G2.out _).mono ?_
    rintro e w' ⟨rfl, rfl⟩
    go_wp2_with fail
    refine (Gs.out _).mono ?_
    rintro e w' ⟨rfl, rfl⟩
    go_wp2_with fail
    go_ret3
    exact ⟨rfl, rfl⟩
  · rw [hu hsum]
    have ht : (((Jr.sum (s.extract (a + 6) (a + 6 + numAt s a 4)).data.toList : Nat) : Int) != (numAt s (a + 4) 2 : Int)) = true := by rw [bne_iff_ne]; omega
    generalize hn : numAt s a 4 = n at *
    generalize numAt s (a + 4) 2 = m at *
    clear hu hv hsum hn
    generalize Jr.sum (s.extract (a + 6) (a + 6 + n)).data.toList = sm at *
    have G4 := Lib.hid g4
    have G2 := Lib.hid g2
    have Gs := Lib.hid gs
    clear g4 g2 gs
    go_enter Tryz.func73, Tryz.ntmps73
    go_wp2_with fail
    refine (G4.out _).mono ?_
    rintro e w' ⟨rfl, rfl⟩
    go_wp2_with fail
    refine (G2.out _).mono ?_
    rintro e w' ⟨rfl, rfl⟩
    go_wp2_with fail
    refine (Gs.out _).mono ?_
    rintro e w' ⟨rfl, rfl⟩
    go_wp2_with fail
    go_ret3
    exact ⟨rfl, rfl⟩

set_option maxHeartbeats 800000 in
theorem runframe_any (s : ByteArray) (hs : s.size ≤ maxLen) (p : Int) (w : World) : Calls Tryz.prog 86 #[.string s, .int .i64 p] w fun e w' =>
    e = .returned (.tuple #[.string (unframe s p).1, .int .i64 (unframe s p).2.1, .int .i64 (unframe s p).2.2]) ∧ w = w' := by
  have hs' := hs
  unfold maxLen at hs'
  have h4 : Wd 4 := by simp [Wd]
  have h2 : Wd 2 := by simp [Wd]
  by_cases hp : p < 0 ∨ (s.size : Int) < p
  · rw [un_bad s p hp]
    go_enter Tryz.func86, Tryz.ntmps86
    go_wp2_with fail
    refine (rget_bad s hs 4 h4 p hp _).mono ?_
    rintro e w' ⟨rfl, rfl⟩
    go_wp2_with fail
    go_ret3
    exact ⟨rfl, rfl⟩
  obtain ⟨a, rfl⟩ := Int.eq_ofNat_of_zero_le (show 0 ≤ p by omega)
  have ha : a ≤ s.size := by omega
  clear hp
  by_cases hq : s.size < a + 4
  · rw [un_short s a ha hq]
    go_enter Tryz.func86, Tryz.ntmps86
    go_wp2_with fail
    refine (rget_none s hs 4 h4 a ha hq _).mono ?_
    rintro e w' ⟨rfl, rfl⟩
    go_wp2_with fail
    go_ret3
    exact ⟨rfl, rfl⟩
  have hn4 := numAt_lt4 s a 4 (by omega)
  by_cases hl : numAt s a 4 = 0 ∨ 131072 < numAt s a 4
  · rw [un_len s a (by omega) hl]
    have g4 := fun w => rget_ok s hs 4 h4 a (by omega) w
    generalize numAt s a 4 = n at *
    have G4 := Lib.hid g4
    clear g4
    rcases hl with rfl | hl
    all_goals
      go_enter Tryz.func86, Tryz.ntmps86
      go_wp2_with fail
      refine (G4.out _).mono ?_
      rintro e w' ⟨rfl, rfl⟩
      go_wp2_with fail
      go_ret3
      exact ⟨rfl, rfl⟩
  obtain ⟨l1, l2⟩ : 1 ≤ numAt s a 4 ∧ numAt s a 4 ≤ 131072 := by omega
  clear hl
  have b1 : (((numAt s a 4 : Nat) : Int) == 0) = false := by rw [beq_eq_false_iff_ne]; omega
  have b2 : decide ((131072 : Int) < ((numAt s a 4 : Nat) : Int)) = false := by rw [decide_eq_false_iff_not]; omega
  have g4 : ∀ w, Calls Tryz.prog 87 #[.string s, .int .i64 a, .int .i64 4] w fun e w' => e = .returned (.tuple #[.int .i64 (numAt s a 4), .int .i64 ((a : Int) + 4), .int .i64 0]) ∧ w = w' := fun w => rget_ok s hs 4 h4 a (by omega) w
  by_cases hq2 : s.size < a + 6
  · rw [un_none s a (by omega) l1 l2 (by omega)]
    have g2 : ∀ w, Calls Tryz.prog 87 #[.string s, .int .i64 ((a : Int) + 4), .int .i64 2] w fun e w' => e = .returned (.tuple #[.int .i64 0, .int .i64 0, .int .i64 242]) ∧ w = w' := fun w => rget_none s hs 2 h2 (a + 4) (by omega) (by omega) w
    generalize numAt s a 4 = n at *
    have G4 := Lib.hid g4
    have G2 := Lib.hid g2
    clear g4 g2
    go_enter Tryz.func86, Tryz.ntmps86
    go_wp2_with fail
    refine (G4.out _).mono ?_
    rintro e w' ⟨rfl, rfl⟩
    go_wp2_with fail
    refine (G2.out _).mono ?_
    rintro e w' ⟨rfl, rfl⟩
    go_wp2_with fail
    go_ret3
    exact ⟨rfl, rfl⟩
  have g2 : ∀ w, Calls Tryz.prog 87 #[.string s, .int .i64 ((a : Int) + 4), .int .i64 2] w fun e w' => e = .returned (.tuple #[.int .i64 (numAt s (a + 4) 2), .int .i64 ((a : Int) + 6), .int .i64 0]) ∧ w = w' := fun w =>
    (rget_ok s hs 2 h2 (a + 4) (by omega) w).mono fun e w' ⟨he, hw⟩ => ⟨by rw [he, show (((a + 4 : Nat) : Int) + ((2 : Nat) : Int)) = (a : Int) + 6 from by omega], hw⟩
  by_cases hq3 : s.size < a + 6 + numAt s a 4
  · rw [un_none s a (by omega) l1 l2 hq3]
    generalize numAt s a 4 = n at *
    generalize numAt s (a + 4) 2 = m at *
    have G4 := Lib.hid g4
    have G2 := Lib.hid g2
    clear g4 g2
    go_enter Tryz.func86, Tryz.ntmps86
    go_wp2_with fail
    refine (G4.out _).mono ?_
    rintro e w' ⟨rfl, rfl⟩
    go_wp2_with fail
    refine (G2.out _).mono ?_
    rintro e w' ⟨rfl, rfl⟩
    go_wp2_with fail
    go_ret3
    exact ⟨rfl, rfl⟩
  have gs : ∀ w, Calls Tryz.prog 93 #[.string (s.extract (a + 6) (a + 6 + numAt s a 4))] w fun e w' => e = .returned (.int .i64 (Jr.sum (s.extract (a + 6) (a + 6 + numAt s a 4)).data.toList)) ∧ w = w' := fun w =>
    rsum_any _ w (by rw [ByteArray.size_extract]; unfold maxLen; omega)
  have hu := un_sum s a l1 l2 (by omega)
  have hv := un_ok s a l1 l2 (by omega)
  by_cases hsum : Jr.sum (s.extract (a + 6) (a + 6 + numAt s a 4)).data.toList = numAt s (a + 4) 2
  · rw [hv hsum]
    have ht : (((Jr.sum (s.extract (a + 6) (a + 6 + numAt s a 4)).data.toList : Nat) : Int) != (numAt s (a + 4) 2 : Int)) = false := by rw [hsum]; simp
    generalize hn : numAt s a 4 = n at *
    generalize numAt s (a + 4) 2 = m at *
    clear hu hv hsum hn
    generalize Jr.sum (s.extract (a + 6) (a + 6 + n)).data.toList = sm at *
    have G4 := Lib.hid g4
    have G2 := Lib.hid g2
    have Gs := Lib.hid gs
    clear g4 g2 gs
    go_enter Tryz.func86, Tryz.ntmps86
    go_wp2_with fail
    refine (G4.out _).mono ?_
    rintro e w' ⟨rfl, rfl⟩
    go_wp2_with fail
    refine (G2.out _).mono ?_
    rintro e w' ⟨rfl, rfl⟩
    go_wp2_with fail
    refine (Gs.out _).mono ?_
    rintro e w' ⟨rfl, rfl⟩
    go_wp2_with fail
    go_ret3
    exact ⟨rfl, rfl⟩
  · rw [hu hsum]
    have ht : (((Jr.sum (s.extract (a + 6) (a + 6 + numAt s a 4)).data.toList : Nat) : Int) != (numAt s (a + 4) 2 : Int)) = true := by rw [bne_iff_ne]; omega
    generalize hn : numAt s a 4 = n at *
    generalize numAt s (a + 4) 2 = m at *
    clear hu hv hsum hn
    generalize Jr.sum (s.extract (a + 6) (a + 6 + n)).data.toList = sm at *
    have G4 := Lib.hid g4
    have G2 := Lib.hid g2
    have Gs := Lib.hid gs
    clear g4 g2 gs
    go_enter Tryz.func86, Tryz.ntmps86
    go_wp2_with fail
    refine (G4.out _).mono ?_
    rintro e w' ⟨rfl, rfl⟩
    go_wp2_with fail
    refine (G2.out _).mono ?_
    rintro e w' ⟨rfl, rfl⟩
    go_wp2_with fail
    refine (Gs.out _).mono ?_
    rintro e w' ⟨rfl, rfl⟩
    go_wp2_with fail
    go_ret3
    exact ⟨rfl, rfl⟩
end Go.Proofs.YtklcpckjmncdkaaGreatDoor
