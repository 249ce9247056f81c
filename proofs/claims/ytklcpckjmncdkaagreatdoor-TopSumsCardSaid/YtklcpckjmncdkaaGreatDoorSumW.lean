/- THE WALKS of the statements' sum and digits. -/
import Derived.Test.YtklcpckjmncdkaaGreatDoorSumLaw
import Derived.Test.YtklcpckjmncdkaaGreatDoorWk
namespace Go.Proofs.YtklcpckjmncdkaaGreatDoor
set_option maxRecDepth 100000
open Go.RowKit

theorem numL_append (n : Nat) (a b : List UInt8) : numL n (a ++ b) = numL (numL n a) b := List.foldl_append
theorem numL_le : ∀ (l : List UInt8) (n : Nat), n ≤ numL n l
  | [], n => Nat.le_refl _
  | c :: l, n => Nat.le_trans (by omega) (numL_le l (n * 10 + (c - 48).toNat))
theorem numL_take_le (n k : Nat) (l : List UInt8) : numL n (l.take k) ≤ numL n l := by
  have e : numL n l = numL n (l.take k ++ l.drop k) := by rw [List.take_append_drop]
  rw [e, numL_append]
  exact numL_le _ _
theorem numL_succ (s : ByteArray) (k : Nat) (h : k < s.size) : numL 0 (s.data.toList.take (k + 1)) = numL 0 (s.data.toList.take k) * 10 + (s[k] - 48).toNat := by
  rw [take_snoc s k h, numL_append]; rfl
theorem sub48 (b : UInt8) : IntKind.u8.wrap ((b.toNat : Int) - 48) = ((b - 48).toNat : Int) := by
  rw [UInt8.toNat_sub]
  simp only [IntKind.wrap_u8]
  have := b.toNat_lt
  have : (48 : UInt8).toNat = 48 := rfl
  omega
theorem one_byte {r : ByteArray} (h : r.size = 1) : ∃ b, r = ⟨#[b]⟩ ∧ byteN r = b.toNat := by
  obtain ⟨⟨l⟩⟩ := r
  match l, h with
  | [b], _ => exact ⟨b, rfl, rfl⟩
theorem recN_succ (l : List ByteArray) (k : Nat) (h : k < l.length) : recN (l.take (k + 1)) = recN (l.take k) + byteN l[k] := by
  rw [List.take_succ_eq_append_getElem h, recN_append]
  simp [recN]
theorem recN_take_le (l : List ByteArray) (k : Nat) : recN (l.take k) ≤ recN l := by
  have e : recN l = recN (l.take k ++ l.drop k) := by rw [List.take_append_drop]
  rw [e, recN_append]; omega
theorem recN_le (l : List ByteArray) : recN l ≤ 255 * l.length := by
  induction l with
  | nil => exact Nat.le_refl _
  | cons a l ih =>
    have := byteN_le a
    have e : recN (a :: l) = byteN a + recN l := by simp [recN]
    rw [e, List.length_cons]; omega
section
variable {w : World}
set_option maxHeartbeats 3200000 in
theorem tsum_any {B : Nat} {v : Value} {st : ByteArray} {l : List ByteArray} (hs : st.size ≤ 100000) (hn : stN st ≤ 100000) (hv : StrsAt w B v l) (h1 : ∀ r ∈ l, r.size = 1) (hl : l.length ≤ 1000) :
    Calls Tryz.prog 10 #[.string st, v] w fun e w' => e = .returned (.tuple #[.int .i64 (valN st l : Int), .bool true]) ∧ w.grownBy w' none := by
  have hv' := hv
  obtain ⟨A, c, rfl, -⟩ := hv'.at_
  clear hv'
  go_enter Tryz.func10, Tryz.ntmps10
  go_wp2_with fail
  go_loopw [6, 12] (fun nv iv wr => ∃ k : Nat, k ≤ st.size ∧ iv = .int .i64 (k : Int) ∧ nv = .int .i64 (numL 0 (st.data.toList.take k) : Int) ∧ w.grownBy wr none) (fun _ iv _ => st.size - (intOf iv).toNat)
  case atStart => exact ⟨0, Nat.zero_le _, rfl, rfl, only_refl _ _⟩
  case round =>
    obtain ⟨k, hk, rfl, rfl, hg⟩ := hrel
    by_cases hlt : k < st.size
    · have hx := sub48 st[k]
      have hy := numL_succ st k hlt
      have hz := numL_take_le 0 (k + 1) st.data.toList
      unfold stN at hn
      generalize hnv : numL 0 (st.data.toList.take (k + 1)) = n1 at *
      generalize hnw : numL 0 (st.data.toList.take k) = n0 at *
      generalize hd : (st[k] - 48).toNat = d at *
      have hN1 := Lib.hid hnv
      clear hnv hnw hd
      have hy2 := Lib.hid hy
      go_wp2_with fail
      refine ⟨⟨k + 1, by omega, by go_num, by rw [hN1.out]; go_num, hg⟩, by simp [intOf]; omega⟩
    · obtain rfl : k = st.size := by omega
      have e1 : st.data.toList.take st.size = st.data.toList := List.take_of_length_le (by simp)
      rw [e1]
      have hst : numL 0 st.data.toList = stN st := rfl
      rw [hst]
      have hz : stN st + recN l = valN st l := rfl
      have hr := recN_le l
      generalize stN st = n0 at *
      clear hst e1
      go_wp2_with fail
      go_loopw [6, 26] (fun nv iv wr => ∃ k : Nat, k ≤ l.length ∧ iv = .int .i64 (k : Int) ∧ nv = .int .i64 ((n0 + recN (l.take k) : Nat) : Int) ∧ w.grownBy wr none) (fun _ iv _ => l.length - (intOf iv).toNat)
      case atStart => exact ⟨0, Nat.zero_le _, rfl, by simp [recN], hg⟩
      case round =>
        clear hg
        obtain ⟨k, hk, rfl, rfl, hg⟩ := hrel
        have hkw : IntKind.i64.wrap ((k : Int) + 1) = (k : Int) + 1 := IntWalk.i64_in _ (by omega)
        by_cases hkl : k < l.length
        · obtain ⟨b1, o1, rfl, hc1⟩ := (hv.grown hg).cell (by omega)
          have d1 := hc1 k hkl
          have i1 : (k : Int) < (l.length : Int) := by omega
          have hy := recN_succ l k hkl
          have hz2 := recN_take_le l (k + 1)
          obtain ⟨b, hb, hbn⟩ := one_byte (h1 l[k] (List.getElem_mem hkl))
          rw [hb] at d1
          rw [hbn] at hy
          generalize hnv : recN (l.take (k + 1)) = r1 at *
          generalize hnw : recN (l.take k) = r0 at *
          have hR := Lib.hid hnv
          have hbl := b.toNat_lt
          clear hnv hnw hc1 hv h1 hb hbn
          go_wp2_with fail
          exact ⟨⟨k + 1, by omega, by first | rfl | go_num, by rw [hR.out]; show Value.int .i64 (wrap64 ((n0 : Int) + (r0 : Int) + wrap64 (b.toNat : Int))) = _; rw [IntWalk.wrap64_in (b.toNat : Int) (by omega), IntWalk.wrap64_in _ (by omega)]; exact congrArg _ (by omega), hg⟩, by simp [intOf]; omega⟩
        · obtain rfl : k = l.length := by omega
          have i1 : ¬ (l.length : Int) < (l.length : Int) := by omega
          rw [List.take_length, hz]
          go_wp2_with fail
          go_ret2
          exact ⟨rfl, hg⟩
set_option maxHeartbeats 1600000 in
theorem digits_any (v : Nat) (hv : v ≤ 1000000000) : Calls Tryz.prog 14 #[.int .i64 (v : Int)] w fun e w' => e = .returned (.string (digB v)) ∧ w.grownBy w' none := by
  go_enter Tryz.func14, Tryz.ntmps14
  go_wp2_with fail
  go_loopw [0, 3] (fun nv sv wr => ∃ (m : Nat) (s : ByteArray), m ≤ v ∧ nv = .int .i64 (m : Int) ∧ sv = .string s ∧ dig m ++ s.data.toList = dig v ∧ w.grownBy wr none) (fun nv _ _ => (intOf nv).toNat)
  case atStart => exact ⟨v, ⟨#[]⟩, Nat.le_refl _, rfl, rfl, by simp, only_refl _ _⟩
  case round =>
    obtain ⟨m, s, hm, rfl, rfl, hd, hg⟩ := hrel
    by_cases h0 : 0 < m
    · have i1 : (0 : Int) < (m : Int) := by omega
      have hq : (m : Int) / 10 = ((m / 10 : Nat) : Int) := by omega
      have hr : (m : Int) % 10 = ((m % 10 : Nat) : Int) := by omega
      have hsz : s.size ≤ v := by
        have := congrArg List.length hd
        rw [List.length_append] at this
        have h2 := dig_len v
        rw [size_list]; omega
      have hd2 : dig (m / 10) ++ ((⟨[UInt8.ofNat (48 + m % 10)].toArray⟩ : ByteArray) ++ s).data.toList = dig v := by
        rw [← hd, dig_pos h0, ByteArray.data_append, Array.toList_append, ← List.append_assoc]
      have hbb : IntKind.u8.wrap (48 + ((m % 10 : Nat) : Int)) = ((UInt8.ofNat (48 + m % 10)).toNat : Int) := by
        have e1 : (UInt8.ofNat (48 + m % 10)).toNat = 48 + m % 10 := by simp; omega
        rw [e1]
        simp only [IntKind.wrap_u8]; omega
      have hmd : m % 10 < 10 := Nat.mod_lt _ (by decide)
      have hmq : m / 10 < m := Nat.div_lt_self h0 (by decide)
      have HD := Lib.hid hd2
      generalize hbv : UInt8.ofNat (48 + m % 10) = bb at *
      have hconv := conv_one wr bb
      generalize hmv : m % 10 = r at *
      generalize hmw : m / 10 = q at *
      clear hbv hmv hmw hd hd2
      go_wp2_with fail
      refine ⟨⟨q, _, by omega, rfl, rfl, HD.out, only_alloc hg _⟩, by simp [intOf]; omega⟩
    · obtain rfl : m = 0 := by omega
      have hs : s = digB v := by
        rw [dig_zero, List.nil_append] at hd
        unfold digB
        rw [← hd]
      rw [hs]
      go_wp2_with fail
      go_ret
      exact ⟨rfl, hg⟩
end
end Go.Proofs.YtklcpckjmncdkaaGreatDoor
