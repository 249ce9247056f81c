/- PLAIN LAW of the check sum: with one byte of a frame's check sum or body turned, it is none. No program in sight. -/
import Derived.Test.YtklcpckjmncdkaaDoorLaw
namespace Go.Proofs.YtklcpckjmncdkaaDoor
set_option maxRecDepth 100000
open Go.RowKit
namespace Jr
set_option maxRecDepth 100000
theorem xor_cancel {a b c : Nat} (h : a ^^^ b = a ^^^ c) : b = c := by
  have := congrArg (fun x => a ^^^ x) h
  simpa [← Nat.xor_assoc] using this
theorem xor_cancel_r {a b c : Nat} (h : b ^^^ a = c ^^^ a) : b = c := by
  rw [Nat.xor_comm b a, Nat.xor_comm c a] at h; exact xor_cancel h
theorem odd_xor (a : Nat) (h : a % 2 = 0) : (a ^^^ 4129) % 2 = 1 := by
  have := Nat.xor_mod_two_pow (a := a) (b := 4129) (n := 1)
  rw [Nat.pow_one, h] at this
  simpa using this
theorem step_inj {c d : Nat} (hc : c < 65536) (hd : d < 65536) (h : step c = step d) : c = d := by
  unfold step at h
  rcases (show c / 32768 = 0 ∨ c / 32768 = 1 by omega) with h1 | h1 <;> rcases (show d / 32768 = 0 ∨ d / 32768 = 1 by omega) with h2 | h2
  · rw [h1, h2] at h; have := xor_cancel_r h; omega
  · rw [h1, h2, Nat.mul_zero, Nat.mul_one, Nat.xor_zero] at h
    have := odd_xor (d * 2 % 65536) (by omega)
    omega
  · rw [h1, h2, Nat.mul_zero, Nat.mul_one, Nat.xor_zero] at h
    have := odd_xor (c * 2 % 65536) (by omega)
    omega
  · rw [h1, h2] at h; have := xor_cancel_r h; omega
theorem steps_inj : ∀ (k : Nat) {c d : Nat}, c < 65536 → d < 65536 → steps k c = steps k d → c = d
  | 0, _, _, _, _, h => h
  | k + 1, _, _, hc, hd, h => steps_inj k hc hd (step_inj (steps_lt hc k) (steps_lt hd k) h)
theorem upd_inj {c d b : Nat} (hc : c < 65536) (hd : d < 65536) (hb : b < 256) (h : upd c b = upd d b) : c = d :=
  xor_cancel_r (steps_inj 8 (xor_lt hc (by omega)) (xor_lt hd (by omega)) h)
theorem upd_byte {c b d : Nat} (hc : c < 65536) (hb : b < 256) (hd : d < 256) (h : upd c b = upd c d) : b = d := by
  have := xor_cancel (steps_inj 8 (xor_lt hc (by omega)) (xor_lt hc (by omega)) h)
  omega
theorem foldl_ne : ∀ (l : List UInt8) {c d : Nat}, c < 65536 → d < 65536 → c ≠ d → l.foldl (fun c b => upd c b.toNat) c ≠ l.foldl (fun c b => upd c b.toNat) d
  | [], _, _, _, _, h => h
  | b :: l, _, _, hc, hd, h => foldl_ne l (upd_lt hc b.toNat_lt) (upd_lt hd b.toNat_lt) fun e => h (upd_inj hc hd b.toNat_lt e)
theorem sum_turned (p q : List UInt8) (x y : UInt8) (h : x ≠ y) : sum (p ++ x :: q) ≠ sum (p ++ y :: q) := by
  unfold sum
  rw [List.foldl_append, List.foldl_append, List.foldl_cons, List.foldl_cons]
  have hp := foldl_lt p 65535 (by decide)
  refine foldl_ne q (upd_lt hp x.toNat_lt) (upd_lt hp y.toNat_lt) fun e => h ?_
  have := upd_byte hp x.toNat_lt y.toNat_lt e
  exact UInt8.toNat_inj.1 this
end Jr

theorem be_two (n : Nat) : be 2 n = [UInt8.ofNat (n / 256 % 256), UInt8.ofNat (n % 256)] := by simp [be]
theorem ub_two (a b : UInt8) : ub [a, b] = a.toNat * 256 + b.toNat := by simp [ub]
theorem list_split {α : Type} (l : List α) (i : Nat) {x : α} (h : l[i]? = some x) : ∃ p q, l = p ++ x :: q ∧ ∀ y, l.set i y = p ++ y :: q := by
  obtain ⟨hi, hx⟩ := List.getElem?_eq_some_iff.1 h
  refine ⟨l.take i, l.drop (i + 1), ?_, fun y => ?_⟩
  · rw [← hx, ← List.drop_eq_getElem_cons hi, List.take_append_drop]
  · rw [List.set_eq_take_append_cons_drop, if_pos hi]
/-- One byte of the check sum, or of the body, is turned. -/
theorem bits_law {b : ByteArray} (hb : OkB b) {j : Nat} (h4 : 4 ≤ j) {x y : UInt8} (hx0 : (frame b.data.toList)[j]? = some x) (hy : x ≠ y) :
    unframe ⟨((frame b.data.toList).set j y).toArray⟩ 0 = (⟨#[]⟩, 0, 129) := by
  obtain ⟨h1, h2⟩ := hb
  have hl := size_list b
  have hfl := frame_length b.data.toList
  have hs2 := be_length 2 (Jr.sum b.data.toList)
  have hs4 := be_length 4 b.data.toList.length
  have hsum := Jr.sum_lt b.data.toList
  have key : ∀ s2 bd : List UInt8, s2.length = 2 → bd.length = b.data.toList.length → Jr.sum bd ≠ ub s2 → unframe ⟨(be 4 b.data.toList.length ++ s2 ++ bd).toArray⟩ 0 = (⟨#[]⟩, 0, 129) := by
    intro s2 bd e2 eb hne
    generalize hS : (⟨(be 4 b.data.toList.length ++ s2 ++ bd).toArray⟩ : ByteArray) = S
    have hSd : S.data.toList = be 4 b.data.toList.length ++ s2 ++ bd := by rw [← hS]
    have n4 : numAt S 0 4 = b.size := by
      rw [numAt_at (s := S) (a := 0) (pre := []) (x := be 4 b.data.toList.length) (post := s2 ++ bd) (by rw [hSd]; simp) rfl hs4, ub_be 4 _ (by rw [← hl]; omega), hl]
    have n2 : numAt S 4 2 = ub s2 := numAt_at (s := S) (pre := be 4 b.data.toList.length) (x := s2) (post := bd) hSd (by rw [hs4]) e2
    have hsz : S.size = 6 + b.size := by rw [size_list, hSd]; simp only [List.length_append, hs4, e2, eb]; omega
    have hx : S.extract (0 + 6) (0 + 6 + b.size) = ⟨bd.toArray⟩ := extract_at (s := S) (pre := be 4 b.data.toList.length ++ s2) (x := bd) (post := []) (by rw [hSd]; simp) (by rw [List.length_append, hs4, e2]) (by rw [List.length_append, hs4, e2, eb]; omega)
    have := un_sum S 0 (by rw [n4]; omega) (by rw [n4]; omega) (by rw [n4]; omega) (by rw [n4, hx]; rw [show (0 : Nat) + 4 = 4 from rfl, n2]; exact hne)
    exact this
  by_cases h6 : j < 6
  · have e : (frame b.data.toList).set j y = be 4 b.data.toList.length ++ (be 2 (Jr.sum b.data.toList)).set (j - 4) y ++ b.data.toList := by
      unfold frame
      rw [List.append_assoc, List.set_append_right _ _ (by omega), List.set_append_left _ _ (by omega), hs4, List.append_assoc]
    have eg : (be 2 (Jr.sum b.data.toList))[j - 4]? = some x := by
      rw [← hx0]
      unfold frame
      rw [List.getElem?_append_left (by simp only [List.length_append]; omega), List.getElem?_append_right (by omega), hs4]
    rw [e]
    refine key _ _ (by simp [hs2]) rfl ?_
    intro hh
    rw [be_two] at eg hh
    have ha : (UInt8.ofNat (Jr.sum b.data.toList / 256 % 256)).toNat = Jr.sum b.data.toList / 256 := by rw [UInt8.toNat_ofNat']; omega
    have hb' : (UInt8.ofNat (Jr.sum b.data.toList % 256)).toNat = Jr.sum b.data.toList % 256 := by rw [UInt8.toNat_ofNat']; omega
    have hyl := y.toNat_lt
    apply hy
    apply UInt8.toNat_inj.1
    rcases (show j = 4 ∨ j = 5 by omega) with rfl | rfl
    · simp only [Nat.sub_self, List.set_cons_zero, List.getElem?_cons_zero, Option.some.injEq] at hh eg
      rw [ub_two, hb'] at hh
      rw [← eg, ha]; omega
    · simp only [Nat.reduceSub, List.set_cons_succ, List.set_cons_zero, List.getElem?_cons_succ, List.getElem?_cons_zero, Option.some.injEq] at hh eg
      rw [ub_two, ha] at hh
      rw [← eg, hb']; omega
  · have e : (frame b.data.toList).set j y = be 4 b.data.toList.length ++ be 2 (Jr.sum b.data.toList) ++ b.data.toList.set (j - 6) y := by
      unfold frame
      rw [List.set_append_right _ _ (by simp only [List.length_append]; omega), List.length_append, hs4, hs2]
    have eg : b.data.toList[j - 6]? = some x := by
      rw [← hx0]
      unfold frame
      rw [List.getElem?_append_right (by simp only [List.length_append]; omega), List.length_append, hs4, hs2]
    rw [e]
    refine key _ _ hs2 (by simp) ?_
    rw [ub_be 2 _ (by omega)]
    obtain ⟨p, q, hp, hset⟩ := list_split b.data.toList (j - 6) eg
    rw [hset y]
    generalize b.data.toList = L at *
    subst hp
    exact fun hh => Jr.sum_turned p q x y hy hh.symm
end Go.Proofs.YtklcpckjmncdkaaDoor
