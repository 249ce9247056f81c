/- PLAIN LAW: what stands where in a packet's body. -/
import Derived.Test.YtcepfhnlbnlnhaaDoorWire
import Derived.Test.YtcepfhnlbnlnhaaDoorBaseW
namespace Go.Proofs.YtcepfhnlbnlnhaaDoor
set_option maxRecDepth 100000
open Go.RowKit

theorem ub_be : ∀ (k n : Nat), n < 256 ^ k → ub (be k n) = n
  | 0, n, h => by
    have : n = 0 := by simpa using h
    subst this; rfl
  | k + 1, n, h => by
    have h1 : n / 256 < 256 ^ k := by rw [Nat.pow_succ] at h; exact Nat.div_lt_of_lt_mul (by rw [Nat.mul_comm]; exact h)
    rw [be, ub_snoc, ub_be k (n / 256) h1]
    have : (UInt8.ofNat (n % 256)).toNat = n % 256 := by simp
    rw [this]; omega
theorem numAt_at {s : ByteArray} {pre x post : List UInt8} (h : s.data.toList = pre ++ x ++ post) {a q : Nat} (ha : a = pre.length) (hq : x.length = q) : numAt s a q = ub x := by
  subst ha; subst hq
  unfold numAt
  rw [h, List.append_assoc, List.drop_left, List.take_left]
theorem extract_at {s : ByteArray} {pre x post : List UInt8} (h : s.data.toList = pre ++ x ++ post) {a b : Nat} (ha : a = pre.length) (hb : b = pre.length + x.length) : s.extract a b = ⟨x.toArray⟩ := by
  subst ha; subst hb
  apply ByteArray.ext
  apply Array.toList_inj.1
  rw [ByteArray.data_extract, Array.toList_extract]
  unfold List.extract
  rw [h, List.append_assoc, List.drop_left, Nat.add_sub_cancel_left, List.take_left]
theorem bytes_of (l : List UInt8) : (⟨l.toArray⟩ : ByteArray).data.toList = l := rfl
theorem arr_list (t : ByteArray) : (⟨t.data.toList.toArray⟩ : ByteArray) = t := by
  apply ByteArray.ext
  simp
theorem byte_at {s : ByteArray} {pre post : List UInt8} {x : UInt8} (h : s.data.toList = pre ++ [x] ++ post) {a : Nat} (ha : a = pre.length) : ∃ h : a < s.size, s[a] = x := by
  have hl := congrArg List.length h
  rw [← size_list] at hl
  simp only [List.length_append, List.length_singleton] at hl
  refine ⟨by omega, ?_⟩
  have e : s[a]'(by omega) = s.data.toList[a]'(by rw [← size_list]; omega) := by simp; rfl
  rw [e]
  subst ha
  simp only [h]
  simp
structure PubAt (s : ByteArray) (q id : Nat) (t b : ByteArray) (a : Nat) : Prop where
  len : numAt s 0 2 = t.size
  fits : 0 + 2 + t.size ≤ s.size
  text : s.extract (0 + 2) (0 + 2 + t.size) = t
  idAt : q ≠ 0 → 0 + 2 + t.size + 2 ≤ s.size ∧ numAt s (0 + 2 + t.size) 2 = id
  here : a = (if q = 0 then 0 + 2 + t.size else 0 + 2 + t.size + 2)
  lt : a < s.size
  zero : s[a] = 0
  rest : s.extract (a + 1) s.size = b
theorem pub_at {s : ByteArray} {q id : Nat} {t b : ByteArray} (hs : s.data.toList = (Pk.pub q id t b).bodyL) (hok : (Pk.pub q id t b).Ok) : ∃ a, PubAt s q id t b a := by
  obtain ⟨_, _, hid, ht, _, hb⟩ := hok
  simp only [Pk.bodyL] at hs
  have hn : numAt s 0 2 = t.size := by
    rw [numAt_at (a := 0) (q := 2) (pre := []) (x := be 2 t.size) (post := t.data.toList ++ (if q = 0 then [] else be 2 id) ++ [0] ++ b.data.toList) (by rw [hs]; simp) rfl (be_length _ _), ub_be _ _ (by omega)]
  have hsz := congrArg List.length hs
  rw [← size_list] at hsz
  simp only [List.length_append, be_length, size_data, List.length_singleton] at hsz
  have htx : s.extract (0 + 2) (0 + 2 + t.size) = t := by
    rw [extract_at (pre := be 2 t.size) (x := t.data.toList) (post := (if q = 0 then [] else be 2 id) ++ [0] ++ b.data.toList) (by rw [hs]; simp) (by rw [be_length]) (by rw [be_length, size_data]), arr_list]
  by_cases hq : q = 0
  · rw [if_pos hq] at hs hsz
    rw [List.length_nil] at hsz
    obtain ⟨hlt, hz⟩ := byte_at (s := s) (pre := be 2 t.size ++ t.data.toList ++ []) (x := 0) (post := b.data.toList) hs (a := 0 + 2 + t.size) (by simp only [List.length_append, be_length, size_data, List.length_nil] <;> omega)
    refine ⟨0 + 2 + t.size, hn, by omega, htx, fun h => absurd hq h, by rw [if_pos hq], hlt, hz, ?_⟩
    rw [extract_at (pre := be 2 t.size ++ t.data.toList ++ [] ++ [0]) (x := b.data.toList) (post := []) (by rw [hs]; simp) (by simp only [List.length_append, be_length, size_data, List.length_nil, List.length_singleton] <;> omega) (by simp only [List.length_append, be_length, size_data, List.length_nil, List.length_singleton] <;> omega), arr_list]
  · rw [if_neg hq] at hs hsz
    rw [be_length] at hsz
    have hi := hid hq
    obtain ⟨hlt, hz⟩ := byte_at (s := s) (pre := be 2 t.size ++ t.data.toList ++ be 2 id) (x := 0) (post := b.data.toList) hs (a := 0 + 2 + t.size + 2) (by simp only [List.length_append, be_length, size_data] <;> omega)
    refine ⟨0 + 2 + t.size + 2, hn, by omega, htx, fun _ => ⟨by omega, ?_⟩, by rw [if_neg hq], hlt, hz, ?_⟩
    · rw [numAt_at (pre := be 2 t.size ++ t.data.toList) (x := be 2 id) (post := [0] ++ b.data.toList) (by rw [hs]; simp) (by simp only [List.length_append, be_length, size_data] <;> omega) (be_length _ _), ub_be _ _ (by have := hi.2; omega)]
    · rw [extract_at (pre := be 2 t.size ++ t.data.toList ++ be 2 id ++ [0]) (x := b.data.toList) (post := []) (by rw [hs]; simp) (by simp only [List.length_append, be_length, size_data, List.length_singleton] <;> omega) (by simp only [List.length_append, be_length, size_data, List.length_singleton] <;> omega), arr_list]
structure SubAt (s : ByteArray) (id q : Nat) (t : ByteArray) : Prop where
  idAt : numAt s 0 2 = id
  size : s.size = 6 + t.size
  lt : 0 + 2 < s.size
  zero : s[0 + 2] = 0
  len : numAt s (0 + 2 + 1) 2 = t.size
  text : s.extract (0 + 2 + 1 + 2) (0 + 2 + 1 + 2 + t.size) = t
  opts : numAt s (0 + 2 + 1 + 2 + t.size) 1 = q
theorem sub_at {s : ByteArray} {id q : Nat} {t : ByteArray} (hs : s.data.toList = (Pk.sub id q t).bodyL) (hok : (Pk.sub id q t).Ok) : SubAt s id q t := by
  obtain ⟨hid, hq, ht, _⟩ := hok
  simp only [Pk.bodyL] at hs
  have hsz := congrArg List.length hs
  rw [← size_list] at hsz
  simp only [List.length_append, be_length, size_data, List.length_singleton] at hsz
  obtain ⟨hlt, hz⟩ := byte_at (s := s) (pre := be 2 id) (x := 0) (post := be 2 t.size ++ t.data.toList ++ [UInt8.ofNat q]) (by rw [hs]; simp) (a := 0 + 2) (by rw [be_length])
  refine ⟨?_, by omega, hlt, hz, ?_, ?_, ?_⟩
  · rw [numAt_at (a := 0) (q := 2) (pre := []) (x := be 2 id) (post := [0] ++ (be 2 t.size ++ t.data.toList) ++ [UInt8.ofNat q]) (by rw [hs]; simp) rfl (be_length _ _), ub_be _ _ (by have := hid.2; omega)]
  · rw [numAt_at (pre := be 2 id ++ [0]) (x := be 2 t.size) (post := t.data.toList ++ [UInt8.ofNat q]) (by rw [hs]; simp) (by simp only [List.length_append, be_length, List.length_singleton]) (be_length _ _), ub_be _ _ (by omega)]
  · rw [extract_at (pre := be 2 id ++ [0] ++ be 2 t.size) (x := t.data.toList) (post := [UInt8.ofNat q]) (by rw [hs]; simp) (by simp only [List.length_append, be_length, List.length_singleton]) (by simp only [List.length_append, be_length, List.length_singleton, size_data]), arr_list]
  · rw [numAt_at (q := 1) (pre := be 2 id ++ [0] ++ be 2 t.size ++ t.data.toList) (x := [UInt8.ofNat q]) (post := []) (by rw [hs]; simp) (by simp only [List.length_append, be_length, List.length_singleton, size_data]) rfl]
    simp [ub]
    omega
theorem ack_at {s : ByteArray} {id : Nat} (hs : s.data.toList = (Pk.ack id).bodyL) (hid : IdOk id) : numAt s 0 2 = id ∧ s.size = 2 := by
  simp only [Pk.bodyL] at hs
  have hsz := congrArg List.length hs
  rw [← size_list, be_length] at hsz
  refine ⟨?_, hsz⟩
  rw [numAt_at (a := 0) (q := 2) (pre := []) (x := be 2 id) (post := []) (by rw [hs]; simp) rfl (be_length _ _), ub_be _ _ (by have := hid.2; omega)]
end Go.Proofs.YtcepfhnlbnlnhaaDoor
