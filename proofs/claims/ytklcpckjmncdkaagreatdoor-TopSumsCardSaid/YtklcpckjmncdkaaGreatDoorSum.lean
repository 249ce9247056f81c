/- THE WALKS of the two check sums: the program's journal.Sum and the document's Sum both come to Jr.sum. -/
import Derived.Test.YtklcpckjmncdkaaGreatDoorChecked
import Derived.Test.YtklcpckjmncdkaaGreatDoorCrc
import Derived.WalkKit
import Derived.WalkSpells
import Derived.Outline
import Derived.Lib.Hide
import Derived.Handy
namespace Go.Proofs.YtklcpckjmncdkaaGreatDoor
set_option maxRecDepth 100000
open Go.RowKit

theorem ret_int {k : IntKind} {a b : Int} (h : a = b) : Ending.returned (.int k a) = .returned (.int k b) := by rw [h]
theorem take_snoc (s : ByteArray) (k : Nat) (h : k < s.size) : s.data.toList.take (k + 1) = s.data.toList.take k ++ [s[k]] := by
  rw [List.take_succ_eq_append_getElem (by simpa using h)]; rfl
theorem sum_take_succ (s : ByteArray) (k : Nat) (h : k < s.size) : Jr.sum (s.data.toList.take (k + 1)) = Jr.upd (Jr.sum (s.data.toList.take k)) s[k].toNat := by
  rw [take_snoc s k h, Jr.sum_snoc]

theorem xor_byte (c b : Nat) (hc : c < 65536) (hb : b < 256) : bits .xor .u16 (c : Int) (IntKind.u16.wrap (IntKind.u16.wrap (b : Int) * 256)) = ((c ^^^ (b * 256) : Nat) : Int) := by
  have : IntKind.u16.wrap (IntKind.u16.wrap (b : Int) * 256) = ((b * 256 : Nat) : Int) := by simp only [IntKind.wrap_u16]; omega
  rw [this, u16_xor_nat c (b * 256) hc (by omega)]
theorem xor_step (c : Nat) (hc : c < 65536) : bits .xor .u16 (IntKind.u16.wrap ((c : Int) * 2)) (4129 * ((c : Int) / 32768)) = ((Jr.step c : Nat) : Int) := by
  have e1 : IntKind.u16.wrap ((c : Int) * 2) = ((c * 2 % 65536 : Nat) : Int) := by simp only [IntKind.wrap_u16]; omega
  have e2 : 4129 * ((c : Int) / 32768) = ((4129 * (c / 32768) : Nat) : Int) := by omega
  rw [e1, e2, u16_xor_nat _ _ (by omega) (by omega)]; rfl

set_option maxHeartbeats 400000 in
theorem sum_any (s : ByteArray) (w : World) (hs : s.size ≤ maxLen) :
    Calls Tryz.prog 55 #[.string s] w fun e w' => e = .returned (.int .i64 (Jr.sum s.data.toList)) ∧ w = w' := by
  unfold maxLen at hs
  go_enter Tryz.func55, Tryz.ntmps55
  go_wp2
  go_loop [3, 8] (fun c i => ∃ k : Nat, k ≤ s.size ∧ i = .int .i64 k ∧ c = .int .u16 (Jr.sum (s.data.toList.take k))) (fun _ i => s.size - (intOf i).toNat)
  case atStart => exact ⟨0, Nat.zero_le _, rfl, rfl⟩
  case round =>
    obtain ⟨k, hk, rfl, rfl⟩ := hrel
    have hlt0 := Jr.sum_lt (s.data.toList.take k)
    obtain ⟨c0, hc0⟩ : ∃ c0, c0 = Jr.sum (s.data.toList.take k) := ⟨_, rfl⟩
    rw [← hc0] at hlt0 ⊢
    have Hc0 := Lib.hid hc0
    clear hc0
    by_cases hlt : k < s.size
    · have hx := xor_byte c0 s[k].toNat hlt0 s[k].toNat_lt
      have hy := Jr.xor_lt hlt0 (show s[k].toNat * 256 < 65536 by have := s[k].toNat_lt; omega)
      obtain ⟨d0, hd0⟩ : ∃ d0, d0 = c0 ^^^ (s[k].toNat * 256) := ⟨_, rfl⟩
      rw [← hd0] at hx hy
      have Hd0 := Lib.hid hd0
      clear hd0
      go_wp2
      go_loop [3, 18] (fun c i => ∃ m : Nat, m ≤ 8 ∧ i = .int .i64 m ∧ c = .int .u16 (Jr.steps m d0)) (fun _ i => 8 - (intOf i).toNat)
      case atStart => exact ⟨0, Nat.zero_le _, rfl, rfl⟩
      case round =>
        obtain ⟨m, hm, rfl, rfl⟩ := hrel
        have hl := Jr.steps_lt hy m
        have hst := xor_step (Jr.steps m d0) hl
        by_cases hlt8 : m < 8
        · go_wp2
          go_round
          case rel => exact ⟨m + 1, by omega, by go_num, rfl⟩
          case measure => simp [intOf]; omega
        · obtain rfl : m = 8 := by omega
          go_wp2
          go_round
          case rel => exact ⟨k + 1, by omega, by go_num, by rw [sum_take_succ s k hlt, ← Hc0.out, Jr.upd, ← Hd0.out]⟩
          case measure => simp [intOf]; omega
    · go_wp2
      go_ret
      exact ⟨ret_int (by rw [Hc0.out, List.take_of_length_le (by simp; omega)]), rfl⟩

theorem ofInt_i64 (a : Nat) (ha : a < 9223372036854775808) : (BitVec.ofInt 64 (a : Int)).toNat = a := by
  rw [BitVec.ofInt_natCast, BitVec.toNat_ofNat]; exact Nat.mod_eq_of_lt (by omega)
theorem i64_xor_nat (a b : Nat) (ha : a < 9223372036854775808) (hb : b < 9223372036854775808) : bits .xor .i64 (a : Int) (b : Int) = ((a ^^^ b : Nat) : Int) := by
  have hx : a ^^^ b < 2 ^ 63 := Nat.xor_lt_two_pow (by omega) (by omega)
  show IntKind.i64.wrap ((BitVec.ofInt 64 (a : Int) ^^^ BitVec.ofInt 64 (b : Int)).toNat : Int) = _
  rw [BitVec.toNat_xor, ofInt_i64 a ha, ofInt_i64 b hb, IntKind.wrap_i64]
  omega
/-- The weight of the m-th bit. -/
def wt (m : Nat) : Nat := 128 / 2 ^ m
theorem wt_succ (m : Nat) : wt m / 2 = wt (m + 1) := by unfold wt; rw [Nat.div_div_eq_div_mul, Nat.pow_succ]
theorem wt_pow (m : Nat) (h : m < 8) : wt m = 2 ^ (7 - m) := by
  have : m = 0 ∨ m = 1 ∨ m = 2 ∨ m = 3 ∨ m = 4 ∨ m = 5 ∨ m = 6 ∨ m = 7 := by omega
  rcases this with h | h | h | h | h | h | h | h <;> subst h <;> rfl
theorem wt_pos (m : Nat) (h : m < 8) : 1 ≤ wt m ∧ wt m ≤ 128 := by
  have : m = 0 ∨ m = 1 ∨ m = 2 ∨ m = 3 ∨ m = 4 ∨ m = 5 ∨ m = 6 ∨ m = 7 := by omega
  rcases this with h | h | h | h | h | h | h | h <;> subst h <;> decide
theorem rsteps_yes (b m c : Nat) (h : m < 8) (e : b / wt m % 2 = Jr.rsteps b m c / 32768) : Jr.rsteps b (m + 1) c = Jr.rsteps b m c * 2 % 65536 := by
  rw [wt_pow m h] at e
  simp only [Jr.rsteps, Jr.rstep]
  rw [if_pos e]
theorem rsteps_no (b m c : Nat) (h : m < 8) (e : ¬ b / wt m % 2 = Jr.rsteps b m c / 32768) : Jr.rsteps b (m + 1) c = (Jr.rsteps b m c * 2 % 65536) ^^^ 4129 := by
  rw [wt_pow m h] at e
  simp only [Jr.rsteps, Jr.rstep]
  rw [if_neg e]

set_option maxHeartbeats 400000 in
theorem rsum_any (s : ByteArray) (w : World) (hs : s.size ≤ maxLen) :
    Calls Tryz.prog 93 #[.string s] w fun e w' => e = .returned (.int .i64 (Jr.sum s.data.toList)) ∧ w = w' := by
  unfold maxLen at hs
  go_enter Tryz.func93, Tryz.ntmps93
  go_wp2
  go_loop [3, 4] (fun c i => ∃ k : Nat, k ≤ s.size ∧ i = .int .i64 k ∧ c = .int .i64 (Jr.sum (s.data.toList.take k))) (fun _ i => s.size - (intOf i).toNat)
  case atStart => exact ⟨0, Nat.zero_le _, rfl, rfl⟩
  case round =>
    obtain ⟨k, hk, rfl, rfl⟩ := hrel
    have hlt0 := Jr.sum_lt (s.data.toList.take k)
    obtain ⟨c0, hc0⟩ : ∃ c0, c0 = Jr.sum (s.data.toList.take k) := ⟨_, rfl⟩
    rw [← hc0] at hlt0 ⊢
    have Hc0 := Lib.hid hc0
    clear hc0
    by_cases hlt : k < s.size
    · go_wp2
      go_loop [3, 5, 6] (fun c p i => ∃ m : Nat, m ≤ 8 ∧ i = .int .i64 m ∧ p = .int .i64 (wt m) ∧ c = .int .i64 (Jr.rsteps s[k].toNat m c0)) (fun _ _ i => 8 - (intOf i).toNat)
      case atStart => exact ⟨0, Nat.zero_le _, rfl, rfl, rfl⟩
      case round =>
        obtain ⟨m, hm, rfl, rfl, rfl⟩ := hrel
        have hl := Jr.rsteps_lt (b := s[k].toNat) hlt0 m
        have hb := s[k].toNat_lt
        by_cases hlt8 : m < 8
        · obtain ⟨hp1, hp2⟩ := wt_pos m hlt8
          obtain ⟨hq0, hq1⟩ : (0 : Int) ≤ (s[k].toNat : Int) / (wt m : Int) ∧ (s[k].toNat : Int) / (wt m : Int) ≤ 255 := by
            have e1 : (0 : Int) ≤ ((s[k].toNat / wt m : Nat) : Int) := Int.natCast_nonneg _
            have e2 : ((s[k].toNat / wt m : Nat) : Int) ≤ 255 := by have := Nat.div_le_self s[k].toNat (wt m); omega
            rw [Int.natCast_ediv] at e1 e2
            exact ⟨e1, e2⟩
          have hx := i64_xor_nat (Jr.rsteps s[k].toNat m c0 * 2 % 65536) 4129 (by omega) (by omega)
          have ht : ((s[k].toNat : Int) / (wt m : Int) % 2 = (Jr.rsteps s[k].toNat m c0 : Int) / 32768) ↔ (s[k].toNat / wt m % 2 = Jr.rsteps s[k].toNat m c0 / 32768) := by
            have e := Int.natCast_ediv s[k].toNat (wt m)
            rw [← e]; omega
          by_cases e : s[k].toNat / wt m % 2 = Jr.rsteps s[k].toNat m c0 / 32768
          · have hn := rsteps_yes s[k].toNat m c0 hlt8 e
            have ht1 : ((s[k].toNat : Int) / (wt m : Int) % 2 != (Jr.rsteps s[k].toNat m c0 : Int) / 32768) = false := by simpa using ht.2 e
            have Hn := Lib.hid hn
            clear hn ht e hx
            go_wp2
            go_round
            case rel => exact ⟨m + 1, by omega, by go_num, by rw [← wt_succ]; go_num, by rw [Hn.out]; go_num⟩
            case measure => simp [intOf]; omega
          · have hn := rsteps_no s[k].toNat m c0 hlt8 e
            have ht1 : ((s[k].toNat : Int) / (wt m : Int) % 2 != (Jr.rsteps s[k].toNat m c0 : Int) / 32768) = true := by simpa using fun h => e (ht.1 h)
            have Hn := Lib.hid hn
            have hx' : bits .xor .i64 ((Jr.rsteps s[k].toNat m c0 : Int) * 2 % 65536) 4129 = ((Jr.rsteps s[k].toNat m c0 * 2 % 65536 ^^^ 4129 : Nat) : Int) := by rw [← hx]; rfl
            clear hn ht e hx
            go_wp2
            go_round
            case rel => exact ⟨m + 1, by omega, by go_num, by rw [← wt_succ]; go_num, by rw [Hn.out]⟩
            case measure => simp [intOf]; omega
        · obtain rfl : m = 8 := by omega
          go_wp2
          go_round
          case rel => exact ⟨k + 1, by omega, by go_num, by rw [sum_take_succ s k hlt, ← Hc0.out, Jr.upd_eq _ _ hlt0 hb]⟩
          case measure => simp [intOf]; omega
    · go_wp2
      go_ret
      exact ⟨ret_int (by rw [Hc0.out, List.take_of_length_le (by simp; omega)]), rfl⟩
end Go.Proofs.YtklcpckjmncdkaaGreatDoor
