/- THE WALKS of varint.Size, Put, Get at numbers of one or two bytes. -/
import Derived.Test.YtcepfhnlbnlnhaaDoorText
import Derived.Test.YtcepfhnlbnlnhaaDoorReads2
import Derived.Laws.Bits128
namespace Go.Proofs.YtcepfhnlbnlnhaaDoor
set_option maxRecDepth 100000
open Go.RowKit

theorem or_vi (a b : Nat) (ha : a < 128) (hb : b < 128) : bits .or .i64 (a : Int) ((b : Int) * 128) = ((a + b * 128 : Nat) : Int) := by
  have e : a ||| (b * 128) = a + b * 128 := by
    rw [Nat.or_comm, nat_join 7 (b * 128) a (by omega) (by omega)]; omega
  have h1 : ((b : Int) * 128) = ((b * 128 : Nat) : Int) := by omega
  rw [h1]
  have hx : a ||| (b * 128) < 2 ^ 63 := by rw [e]; omega
  show IntKind.i64.wrap ((BitVec.ofInt 64 (a : Int) ||| BitVec.ofInt 64 ((b * 128 : Nat) : Int)).toNat : Int) = _
  rw [BitVec.toNat_or, BitVec.ofInt_natCast, BitVec.ofInt_natCast, BitVec.toNat_ofNat, BitVec.toNat_ofNat, Nat.mod_eq_of_lt (by omega), Nat.mod_eq_of_lt (by omega), e, IntKind.wrap_i64]
  omega
theorem or_none (a : Nat) (ha : a < 256) : bits .or .i64 0 (a : Int) = (a : Int) := by
  have := or_byte 0 a (by omega) ha
  simpa using this
section
variable {w : World}
set_option maxHeartbeats 800000 in
theorem vsize_one (n : Nat) (hn : n < 128) : Calls Tryd.prog 29 #[.int .i64 (n : Int)] w fun e w' => e = .returned (.int .i64 1) ∧ w = w' := by
  have h1 : ¬ (268435455 : Int) < (n : Int) := by omega
  have h2 : ¬ (2097152 : Int) ≤ (n : Int) := by omega
  have h3 : ¬ (16384 : Int) ≤ (n : Int) := by omega
  have h4 : ¬ (128 : Int) ≤ (n : Int) := by omega
  have d0 : decide ((n : Int) < 0) = false := by simp
  have d1 : decide ((268435455 : Int) < (n : Int)) = false := decide_eq_false h1
  have d2 : decide ((2097152 : Int) ≤ (n : Int)) = false := decide_eq_false h2
  have d3 : decide ((16384 : Int) ≤ (n : Int)) = false := decide_eq_false h3
  have d4 : decide ((128 : Int) ≤ (n : Int)) = false := decide_eq_false h4
  go_enter Tryd.func29, Tryd.ntmps29
  go_wp2_with fail
  go_ret
  exact ⟨rfl, rfl⟩
set_option maxHeartbeats 800000 in
theorem vsize_two' (n : Nat) (h0 : 128 ≤ n) (hn : n < 16384) : Calls Tryd.prog 29 #[.int .i64 (n : Int)] w fun e w' => e = .returned (.int .i64 2) ∧ w = w' := by
  have h1 : ¬ (268435455 : Int) < (n : Int) := by omega
  have h2 : ¬ (2097152 : Int) ≤ (n : Int) := by omega
  have h3 : ¬ (16384 : Int) ≤ (n : Int) := by omega
  have h4 : (128 : Int) ≤ (n : Int) := by omega
  have d0 : decide ((n : Int) < 0) = false := by simp
  have d1 : decide ((268435455 : Int) < (n : Int)) = false := decide_eq_false h1
  have d2 : decide ((2097152 : Int) ≤ (n : Int)) = false := decide_eq_false h2
  have d3 : decide ((16384 : Int) ≤ (n : Int)) = false := decide_eq_false h3
  have d4 : decide ((128 : Int) ≤ (n : Int)) = true := decide_eq_true h4
  go_enter Tryd.func29, Tryd.ntmps29
  go_wp2_with fail
  go_ret
  exact ⟨rfl, rfl⟩
set_option maxHeartbeats 1600000 in
/-- varint.Get, where it finds a number of one byte. -/
theorem vget_one (s : ByteArray) (hs : s.size ≤ 1000000000) (a : Nat) (ha : a < s.size) (h8 : (s[a]).toNat < 128) : Calls Tryd.prog 30 #[.string s, .int .i64 (a : Int)] w fun e w' =>
    e = .returned (.tuple #[.int .i64 ((s[a]).toNat : Int), .int .i64 ((a : Int) + 1), .int .u8 0]) ∧ w = w' := by
  obtain ⟨x, hx⟩ : ∃ x, s[a] = x := ⟨_, rfl⟩
  rw [hx] at h8 ⊢
  have hV := Lib.hid (vsize_one (w := w) x.toNat h8)
  have hand := i64_and127 (x.toNat : Int)
  have hz := or_none x.toNat (by omega)
  have d1 : decide ((a : Int) < 0) = false := by simp
  have d2 : decide ((s.size : Int) < (a : Int)) = false := by simp; omega
  have h2 : ¬ (s.size : Int) < (a : Int) := by omega
  have h3 : ¬ (s.size : Int) ≤ (a : Int) := by omega
  have h4 : (x.toNat : Int) < 128 := by omega
  have hm : (x.toNat : Int) % 128 = (x.toNat : Int) := by omega
  go_enter Tryd.func30, Tryd.ntmps30
  go_wp2_with fail
  refine wp_loop_rounds 1 ?_
  rw [rounds_succ]
  go_upto_region 11 with fail
  (try rw [hz])
  go_wp2_with (go_at_call 29; refine hV.out.mono ?_; rintro e w' ⟨rfl, rfl⟩)
  go_ret3
  exact ⟨rfl, rfl⟩
set_option maxHeartbeats 1600000 in
/-- .. of two bytes. -/
theorem vget_pair (s : ByteArray) (hs : s.size ≤ 1000000000) (a : Nat) (ha : a + 1 < s.size) (h1 : 128 ≤ (s[a]).toNat) (h2 : 1 ≤ (s[a + 1]).toNat) (h8 : (s[a + 1]).toNat < 128) : Calls Tryd.prog 30 #[.string s, .int .i64 (a : Int)] w fun e w' =>
    e = .returned (.tuple #[.int .i64 (((s[a]).toNat - 128 + (s[a + 1]).toNat * 128 : Nat) : Int), .int .i64 ((a : Int) + 2), .int .u8 0]) ∧ w = w' := by
  have hxl := (s[a]).toNat_lt
  obtain ⟨x, hx⟩ : ∃ x, s[a] = x := ⟨_, rfl⟩
  obtain ⟨y, hy⟩ : ∃ y, s[a + 1] = y := ⟨_, rfl⟩
  rw [hx] at h1 hxl ⊢
  rw [hy] at h2 h8 ⊢
  obtain ⟨lo, hlo⟩ : ∃ lo, x.toNat - 128 = lo := ⟨_, rfl⟩
  have hV := Lib.hid (vsize_two' (w := w) (lo + y.toNat * 128) (by omega) (by omega))
  have hor := or_vi lo y.toNat (by omega) h8
  have hz := or_none lo (by omega)
  rw [hlo]
  have d1 : decide ((a : Int) < 0) = false := by simp
  have d2 : decide ((s.size : Int) < (a : Int)) = false := by simp; omega
  have g2 : ¬ (s.size : Int) < (a : Int) := by omega
  have g3 : ¬ (s.size : Int) ≤ (a : Int) := by omega
  have g5 : ¬ (s.size : Int) ≤ (a : Int) + 1 := by omega
  have g4 : ¬ (x.toNat : Int) < 128 := by omega
  have g6 : (y.toNat : Int) < 128 := by omega
  have hA1 : bits .and .i64 (x.toNat : Int) 127 = (lo : Int) := by rw [i64_and127]; omega
  have hA2 : bits .and .i64 (y.toNat : Int) 127 = (y.toNat : Int) := by rw [i64_and127]; omega
  go_enter Tryd.func30, Tryd.ntmps30
  go_wp2_with fail
  refine wp_loop_rounds 2 ?_
  rw [rounds_succ]
  go_wp2_with fail
  rw [rounds_succ]
  go_wp2_with (go_at_call 29; refine hV.out.mono ?_; rintro e w' ⟨rfl, rfl⟩)
  go_ret3
  exact ⟨rfl, rfl⟩
set_option maxHeartbeats 1600000 in
/-- .. where there is nothing. -/
theorem vget_end (s : ByteArray) (hs : s.size ≤ 1000000000) : Calls Tryd.prog 30 #[.string s, .int .i64 (s.size : Int)] w fun e w' =>
    e = .returned (.tuple #[.int .i64 0, .int .i64 0, .int .u8 242]) ∧ w = w' := by
  have d1 : decide ((s.size : Int) < 0) = false := by simp
  go_enter Tryd.func30, Tryd.ntmps30
  go_wp2_with fail
  refine wp_loop_rounds 1 ?_
  rw [rounds_succ]
  go_wp2_with fail
  go_ret3
  exact ⟨rfl, rfl⟩
set_option maxHeartbeats 1600000 in
/-- .. where its second byte is not there yet. -/
theorem vget_half (s : ByteArray) (hs : s.size ≤ 1000000000) (a : Nat) (ha : a + 1 = s.size) (h1 : 128 ≤ (s[a]).toNat) : Calls Tryd.prog 30 #[.string s, .int .i64 (a : Int)] w fun e w' =>
    e = .returned (.tuple #[.int .i64 0, .int .i64 0, .int .u8 242]) ∧ w = w' := by
  have hxl := (s[a]).toNat_lt
  obtain ⟨x, hx⟩ : ∃ x, s[a] = x := ⟨_, rfl⟩
  rw [hx] at h1 hxl
  obtain ⟨lo, hlo⟩ : ∃ lo, x.toNat - 128 = lo := ⟨_, rfl⟩
  have hz := or_none lo (by omega)
  have d1 : decide ((a : Int) < 0) = false := by simp
  have d2 : decide ((s.size : Int) < (a : Int)) = false := by simp; omega
  have g2 : ¬ (s.size : Int) < (a : Int) := by omega
  have g3 : ¬ (s.size : Int) ≤ (a : Int) := by omega
  have g5 : (s.size : Int) ≤ (a : Int) + 1 := by omega
  have g4 : ¬ (x.toNat : Int) < 128 := by omega
  have hA1 : bits .and .i64 (x.toNat : Int) 127 = (lo : Int) := by rw [i64_and127]; omega
  go_enter Tryd.func30, Tryd.ntmps30
  go_wp2_with fail
  refine wp_loop_rounds 2 ?_
  rw [rounds_succ]
  go_wp2_with fail
  rw [rounds_succ]
  go_wp2_with fail
  go_ret3
  exact ⟨rfl, rfl⟩
set_option maxHeartbeats 1600000 in
theorem vput_one (n : Nat) (h : n < 128) : Calls Tryd.prog 17 #[.int .i64 (n : Int)] w fun e w' => e = .returned (.tuple #[.string ⟨(vi n).toArray⟩, .int .u8 0]) ∧ w.grownBy w' none := by
  obtain ⟨i0, hi0, hz0, hz1, hz2⟩ := info_parts Tryd.infoU8
  have hn := @World.ownsRow_nil
  obtain ⟨u, rfl⟩ : ∃ u : UInt8, n = u.toNat := ⟨UInt8.ofNat n, by simp; omega⟩
  have hV := Lib.hid (vsize_one (w := w) u.toNat h)
  have hvi : vi u.toNat = [u] := by unfold vi; rw [if_pos h]; simp
  rw [hvi]
  clear hvi
  have hA1 : bits .and .i64 (u.toNat : Int) 127 = (u.toNat : Int) := by rw [i64_and127]; omega
  go_enter Tryd.func17, Tryd.ntmps17
  go_wp2_with (go_at_call 29; refine hV.out.mono ?_; rintro e w' ⟨rfl, rfl⟩)
  refine wp_loop_rounds 2 ?_
  rw [rounds_succ]
  go_wp2_with (at_builtin; refine wpList_append_lies _ rfl _ _ 52 rfl w.heap.size 5 i0 _ 1 1 Tryd.underlying52 hi0 hz0 hz1 hz2 rfl (by decide) _ _ _ rfl (hn _ _ _ _) ⟨w.heap.size, 0, none⟩ 1 1 [.int .u8 (u.toNat : Int)] rfl rfl (one_cell _ _ _) (by intro v hv; simp at hv; subst hv; rfl) (by omega) (by unfold maxLen; omega) (by omega) (by simp) (w.heap.size + 1) (by simp) ?_; intro g cap w1 hown1 hg1 hat1 hlt1)
  rw [rounds_succ]
  have hg1' : w.grownBy w1 none := only_trans (only_alloc (only_refl w none) _) (show (w.alloc (.cells #[.int .u8 (u.toNat : Int)] 5)).grownBy w1 none from hg1)
  have hB : BRow w1 w.heap.size (.slice (some ⟨g, 0, none⟩) 1 cap) [u] := hown1
  have hconv := run_convert_bytes_back (P := Tryd.prog) w1 52 9 5 ⟨g, 0, none⟩ cap [u] Tryd.underlying52 Tryd.underlying5 Tryd.underlying9 (BRow.cellsAt hB)
  have hconv' : (convert 52 9 (.slice (some ⟨g, 0, none⟩) 1 cap)).run Tryd.prog w1 = .ok (.string ⟨[u].toArray⟩) w1 := hconv
  clear hconv hB hown1
  go_wp2_with fail
  go_ret2
  exact ⟨rfl, hg1'⟩
set_option maxHeartbeats 3200000 in
theorem vput_pair (n : Nat) (h0 : 128 ≤ n) (h : n < 16384) : Calls Tryd.prog 17 #[.int .i64 (n : Int)] w fun e w' => e = .returned (.tuple #[.string ⟨(vi n).toArray⟩, .int .u8 0]) ∧ w.grownBy w' none := by
  obtain ⟨i0, hi0, hz0, hz1, hz2⟩ := info_parts Tryd.infoU8
  have hn := @World.ownsRow_nil
  obtain ⟨a, ha⟩ : ∃ a : UInt8, a.toNat = n % 128 + 128 := ⟨UInt8.ofNat (n % 128 + 128), by simp; omega⟩
  obtain ⟨b, hb⟩ : ∃ b : UInt8, b.toNat = n / 128 := ⟨UInt8.ofNat (n / 128), by simp; omega⟩
  have hV := Lib.hid (vsize_two' (w := w) n h0 h)
  have hvi : vi n = [a, b] := by
    unfold vi
    rw [if_neg (by omega), ← ha, ← hb]
    simp
  rw [hvi]
  clear hvi
  have hO : bits .or .u8 ((n : Int) % 128) 128 = (a.toNat : Int) := by rw [u8_or128_right _ (by omega) (by omega)]; omega
  have hS : (n : Int) / 128 = (b.toNat : Int) := by omega
  have hA2 : bits .and .i64 (b.toNat : Int) 127 = (b.toNat : Int) := by rw [i64_and127]; omega
  have hO2 : bits .or .u8 (bits .and .i64 (n : Int) 127 % 256) 128 = (a.toNat : Int) := by rw [i64_and127, show (n : Int) % 128 % 256 = (n : Int) % 128 by omega, hO]
  have hO3 : bits .or .u8 (IntKind.u8.wrap (bits .and .i64 (n : Int) 127)) 128 = (a.toNat : Int) := by rw [IntKind.wrap_u8]; exact hO2
  have hb8 : (b.toNat : Int) % 256 = (b.toNat : Int) := by omega
  clear ha hb
  go_enter Tryd.func17, Tryd.ntmps17
  go_wp2_with (go_at_call 29; refine hV.out.mono ?_; rintro e w' ⟨rfl, rfl⟩)
  refine wp_loop_rounds 3 ?_
  rw [rounds_succ]
  go_wp2_with (at_builtin; refine wpList_append_lies _ rfl _ _ 52 rfl w.heap.size 5 i0 _ 1 1 Tryd.underlying52 hi0 hz0 hz1 hz2 rfl (by decide) _ _ _ rfl (hn _ _ _ _) ⟨w.heap.size, 0, none⟩ 1 1 [.int .u8 (a.toNat : Int)] rfl rfl (one_cell _ _ _) (by intro v hv; simp at hv; subst hv; rfl) (by omega) (by unfold maxLen; omega) (by omega) (by simp) (w.heap.size + 1) (by simp) ?_; intro g cap w1 hown1 hg1 hat1 hlt1)
  rw [rounds_succ]
  have hg1' : w.grownBy w1 none := only_trans (only_alloc (only_refl w none) _) (show (w.alloc (.cells #[.int .u8 (a.toNat : Int)] 5)).grownBy w1 none from hg1)
  have hs1 := hg1'.size
  have hown1' : w1.ownsRow w.heap.size 5 1 (.slice (some ⟨g, 0, none⟩) 1 cap) 1 [.int .u8 (a.toNat : Int)] := hown1
  clear hg1 hown1
  go_wp2_with (at_builtin; refine wpList_append_lies _ rfl _ _ 52 rfl w.heap.size 5 i0 _ 1 1 Tryd.underlying52 hi0 hz0 hz1 hz2 rfl (by decide) _ _ _ rfl (hown1'.alloc _) ⟨w1.heap.size, 0, none⟩ 1 1 [.int .u8 (b.toNat : Int)] rfl rfl (one_cell _ _ _) (by intro v hv; simp at hv; subst hv; rfl) (by omega) (by unfold maxLen; omega) (by omega) (by simp; omega) (w1.heap.size + 1) (by simp) ?_; intro g2 cap2 w2 hown2 hg2 hat2 hlt2)
  rw [rounds_succ]
  have hB : BRow w2 w.heap.size (.slice (some ⟨g2, 0, none⟩) 2 cap2) [a, b] := hown2
  have hconv := run_convert_bytes_back (P := Tryd.prog) w2 52 9 5 ⟨g2, 0, none⟩ cap2 [a, b] Tryd.underlying52 Tryd.underlying5 Tryd.underlying9 (BRow.cellsAt hB)
  have hconv' : (convert 52 9 (.slice (some ⟨g2, 0, none⟩) 2 cap2)).run Tryd.prog w2 = .ok (.string ⟨[a, b].toArray⟩) w2 := hconv
  have hgl : w.heap.size ≤ g := (hown1'.lt g rfl).1
  have hg2' : w.grownBy w2 none := grown_own (only_trans hg1' (only_alloc (only_refl w1 none) _)) hg2 hgl
  clear hconv hB hown2 hown1'
  go_wp2_with fail
  go_ret2
  exact ⟨rfl, hg2'⟩
/-- varint.Put. -/
theorem vput_any (n : Nat) (h : n < 16384) : Calls Tryd.prog 17 #[.int .i64 (n : Int)] w fun e w' => e = .returned (.tuple #[.string ⟨(vi n).toArray⟩, .int .u8 0]) ∧ w.grownBy w' none := by
  by_cases h0 : n < 128
  · exact vput_one n h0
  · exact vput_pair n (by omega) h
end
end Go.Proofs.YtcepfhnlbnlnhaaDoor
