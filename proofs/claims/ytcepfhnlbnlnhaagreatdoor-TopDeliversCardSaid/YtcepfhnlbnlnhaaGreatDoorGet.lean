/- THE WALKS of GetFixed, the program's and the document's: the number in one, two or four bytes at a place. -/
import Derived.Test.YtcepfhnlbnlnhaaGreatDoorFix
import Derived.BigQuiet
import Derived.Deep.QuietTactic
namespace Go.Proofs.YtcepfhnlbnlnhaaGreatDoor
set_option maxRecDepth 100000
open Go.RowKit

/-- The number that bytes are, the highest first. -/
def ub (l : List UInt8) : Nat := l.foldl (fun n b => n * 256 + b.toNat) 0
theorem ub_snoc (l : List UInt8) (b : UInt8) : ub (l ++ [b]) = ub l * 256 + b.toNat := by simp [ub]
theorem foldl_ub_lt : ∀ (l : List UInt8) (n : Nat), l.foldl (fun n b => n * 256 + b.toNat) n < (n + 1) * 256 ^ l.length
  | [], n => by simp
  | b :: l, n => by
    have ih := foldl_ub_lt l (n * 256 + b.toNat)
    have hb := b.toNat_lt
    have h2 : (n * 256 + b.toNat + 1) * 256 ^ l.length ≤ ((n + 1) * 256) * 256 ^ l.length := Nat.mul_le_mul_right _ (by omega)
    simp only [List.foldl_cons, List.length_cons, Nat.pow_succ]
    rw [Nat.mul_comm (256 ^ l.length) 256, ← Nat.mul_assoc]
    omega
theorem ub_lt (l : List UInt8) : ub l < 256 ^ l.length := by simpa [ub] using foldl_ub_lt l 0
/-- The number in q bytes from a on. -/
def numAt (s : ByteArray) (a q : Nat) : Nat := ub ((s.data.toList.drop a).take q)
theorem numAt_zero (s : ByteArray) (a : Nat) : numAt s a 0 = 0 := by simp [numAt, ub]
theorem numAt_succ (s : ByteArray) (a q : Nat) (h : a + q < s.size) : numAt s a (q + 1) = numAt s a q * 256 + s[a + q].toNat := by
  unfold numAt
  have e : (s.data.toList.drop a).take (q + 1) = (s.data.toList.drop a).take q ++ [s[a + q]] := by
    rw [List.take_succ_eq_append_getElem (by simp; omega)]
    simp
    rfl
  rw [e, ub_snoc]
theorem numAt_lt (s : ByteArray) (a q : Nat) : numAt s a q < 256 ^ q := by
  refine Nat.lt_of_lt_of_le (ub_lt _) (Nat.pow_le_pow_right (by decide) (List.length_take_le _ _))
theorem numAt_lt4 (s : ByteArray) (a q : Nat) (h : q ≤ 4) : numAt s a q < 4294967296 :=
  Nat.lt_of_lt_of_le (numAt_lt s a q) (Nat.le_trans (Nat.pow_le_pow_right (by decide) h) (by decide))
theorem numAt_lt3 (s : ByteArray) (a q : Nat) (h : q ≤ 3) : numAt s a q < 16777216 :=
  Nat.lt_of_lt_of_le (numAt_lt s a q) (Nat.le_trans (Nat.pow_le_pow_right (by decide) h) (by decide))

theorem or_byte (n b : Nat) (hn : n < 16777216) (hb : b < 256) : bits .or .i64 ((n : Int) * 256) (b : Int) = ((n * 256 + b : Nat) : Int) := by
  have hx : n * 256 ||| b = n * 256 + b := nat_join 8 (n * 256) b (by omega) (by omega)
  show IntKind.i64.wrap ((BitVec.ofInt 64 ((n * 256 : Nat) : Int) ||| BitVec.ofInt 64 (b : Int)).toNat : Int) = _
  rw [BitVec.toNat_or]
  have e1 : (BitVec.ofInt 64 ((n * 256 : Nat) : Int)).toNat = n * 256 := by rw [BitVec.ofInt_natCast, BitVec.toNat_ofNat]; exact Nat.mod_eq_of_lt (by omega)
  have e2 : (BitVec.ofInt 64 (b : Int)).toNat = b := by rw [BitVec.ofInt_natCast, BitVec.toNat_ofNat]; exact Nat.mod_eq_of_lt (by omega)
  rw [e1, e2, hx, IntKind.wrap_i64]
  omega

section
variable (s : ByteArray) (hs : s.size ≤ maxLen) (k : Nat) (hk : Wd k)
include hs hk

set_option maxHeartbeats 400000 in
theorem get_bad (p : Int) (hp : p < 0 ∨ (s.size : Int) < p) (w : World) :
    Calls Tryz.prog 115 #[.string s, .int .i64 p, .int .i64 k] w fun e w' => e = .returned (.tuple #[.int .i64 0, .int .i64 0, .int .u8 128]) ∧ w = w' := by
  unfold maxLen at hs
  rcases hp with hp | hp
  · have hd : decide (p < 0) = true := by simpa using hp
    go_enter Tryz.func115, Tryz.ntmps115
    go_wp2_with (go_at_call 65; refine (wide_yes k hk _).mono ?_; rintro e w' ⟨rfl, rfl⟩)
    go_ret3
    exact ⟨rfl, rfl⟩
  · have hd : decide (p < 0) = false := by simp; omega
    go_enter Tryz.func115, Tryz.ntmps115
    go_wp2_with (go_at_call 65; refine (wide_yes k hk _).mono ?_; rintro e w' ⟨rfl, rfl⟩)
    go_ret3
    exact ⟨rfl, rfl⟩

set_option maxHeartbeats 400000 in
theorem get_none (a : Nat) (ha : a ≤ s.size) (h : s.size < a + k) (w : World) :
    Calls Tryz.prog 115 #[.string s, .int .i64 a, .int .i64 k] w fun e w' => e = .returned (.tuple #[.int .i64 0, .int .i64 0, .int .u8 242]) ∧ w = w' := by
  unfold maxLen at hs
  go_enter Tryz.func115, Tryz.ntmps115
  go_wp2_with (go_at_call 65; refine (wide_yes k hk _).mono ?_; rintro e w' ⟨rfl, rfl⟩)
  go_ret3
  exact ⟨rfl, rfl⟩

set_option maxHeartbeats 400000 in
theorem get_ok (a : Nat) (h : a + k ≤ s.size) (w : World) :
    Calls Tryz.prog 115 #[.string s, .int .i64 a, .int .i64 k] w fun e w' => e = .returned (.tuple #[.int .i64 (numAt s a k), .int .i64 ((a : Int) + k), .int .u8 0]) ∧ w = w' := by
  unfold maxLen at hs
  obtain ⟨hk1, hk4⟩ : 1 ≤ k ∧ k ≤ 4 := by rcases hk with rfl | rfl | rfl <;> omega
  have hd1 : decide ((a : Int) < 0) = false := by simp
  have hd2 : decide (s.size < a) = false := by simp; omega
  go_enter Tryz.func115, Tryz.ntmps115
  go_wp2_with (go_at_call 65; refine (wide_yes k hk _).mono ?_; rintro e w' ⟨rfl, rfl⟩)
  go_loop [9, 33] (fun n i => ∃ q : Nat, q ≤ k ∧ i = .int .i64 q ∧ n = .int .i64 (numAt s a q)) (fun _ i => k - (intOf i).toNat)
  case atStart => exact ⟨0, Nat.zero_le _, rfl, by rw [numAt_zero]; rfl⟩
  case round =>
    obtain ⟨q, hq, rfl, rfl⟩ := hrel
    by_cases hlt : q < k
    · have hsu := numAt_succ s a q (by omega)
      have hl3 := numAt_lt3 s a q (by omega)
      have hb := s[a + q].toNat_lt
      have hor := or_byte (numAt s a q) s[a + q].toNat hl3 hb
      rw [← hsu] at hor
      generalize numAt s a q = n at *
      generalize hm : numAt s a (q + 1) = m at *
      have Hm := Lib.hid hm
      clear hsu hm
      go_wp2
      go_round
      case rel => exact ⟨q + 1, by omega, by go_num, by rw [Hm.out]⟩
      case measure => simp [intOf]; omega
    · obtain rfl : q = k := by omega
      go_wp2
      go_ret3
      exact ⟨rfl, rfl⟩

end
end Go.Proofs.YtcepfhnlbnlnhaaGreatDoor
