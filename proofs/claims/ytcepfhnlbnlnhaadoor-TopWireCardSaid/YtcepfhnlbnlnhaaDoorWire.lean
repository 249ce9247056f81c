/- PLAIN LAW of the statement TopWire: packets as bytes, and bytes that are cut anywhere. No program in sight. -/
import Derived.Test.YtcepfhnlbnlnhaaDoorGet
import Derived.Shelf.Unicode.DecodeAny
namespace Go.Proofs.YtcepfhnlbnlnhaaDoor
set_option maxRecDepth 100000
open Go.RowKit

/-! ### Texts -/
/-- How many bytes the first character has; 0: there is none that may be. -/
def nextN (s : ByteArray) : Nat := if (Lib.decodeGo s).1 = 0 ∨ (Lib.decodeGo s).1 = 65533 ∧ (Lib.decodeGo s).2 < 2 then 0 else (Lib.decodeGo s).2
/-- The first byte behind a place at which a text is none. -/
def tbad (s : ByteArray) (i : Nat) : Option Nat :=
  if _h : i < s.size then (if nextN (s.extract i s.size) = 0 then some i else tbad s (i + max 1 (nextN (s.extract i s.size)))) else none
termination_by s.size - i
decreasing_by omega

/-! ### Packets -/
inductive Pk where
  | pub (q id : Nat) (t b : ByteArray)
  | sub (id q : Nat) (t : ByteArray)
  | ack (id : Nat)
  | ping
def vi (n : Nat) : List UInt8 := if n < 128 then [UInt8.ofNat n] else [UInt8.ofNat (n % 128 + 128), UInt8.ofNat (n / 128)]
def Pk.bodyL : Pk → List UInt8
  | .pub q id t b => be 2 t.size ++ t.data.toList ++ (if q = 0 then [] else be 2 id) ++ [0] ++ b.data.toList
  | .sub id q t => be 2 id ++ [0] ++ (be 2 t.size ++ t.data.toList) ++ [UInt8.ofNat q]
  | .ack id => be 2 id
  | .ping => []
def Pk.headN : Pk → Nat
  | .pub q _ _ _ => 48 + 2 * q
  | .sub _ _ _ => 130
  | .ack _ => 64
  | .ping => 192
def Pk.enc (p : Pk) : List UInt8 := UInt8.ofNat p.headN :: (vi p.bodyL.length ++ p.bodyL)
def IdOk (n : Nat) : Prop := 1 ≤ n ∧ n ≤ 65535
def Pk.Ok : Pk → Prop
  | .pub q id t b => q ≤ 2 ∧ (q = 0 → id = 0) ∧ (q ≠ 0 → IdOk id) ∧ t.size ≤ 31 ∧ tbad t 0 = none ∧ b.size ≤ 300
  | .sub id q t => IdOk id ∧ q ≤ 2 ∧ t.size ≤ 31 ∧ tbad t 0 = none
  | .ack id => IdOk id
  | .ping => True
theorem vi_len (n : Nat) : (vi n).length = 1 ∧ n < 128 ∨ (vi n).length = 2 ∧ 128 ≤ n := by
  unfold vi
  split
  · exact .inl ⟨rfl, by assumption⟩
  · exact .inr ⟨rfl, by omega⟩
theorem size_data (s : ByteArray) : s.data.toList.length = s.size := by simp
theorem Pk.body_len {p : Pk} (h : p.Ok) : p.bodyL.length ≤ 336 := by
  cases p with
  | pub q id t b =>
    obtain ⟨_, _, _, h1, _, h2⟩ := h
    simp only [Pk.bodyL, List.length_append, be_length, size_data, List.length_singleton]
    split
    · simp only [List.length_nil]; omega
    · rw [be_length]; omega
  | sub id q t =>
    obtain ⟨_, _, h1, _⟩ := h
    simp only [Pk.bodyL, List.length_append, be_length, size_data, List.length_singleton]
    omega
  | ack id => simp only [Pk.bodyL, be_length]; omega
  | ping => simp only [Pk.bodyL, List.length_nil]; omega
theorem Pk.enc_len (p : Pk) : p.enc.length = 1 + (vi p.bodyL.length).length + p.bodyL.length := by
  simp only [Pk.enc, List.length_cons, List.length_append]; omega
theorem Pk.enc_pos (p : Pk) : p.enc ≠ [] := by unfold Pk.enc; exact List.cons_ne_nil _ _
def encs (ps : List Pk) : List UInt8 := (ps.map Pk.enc).flatten
theorem encs_cons (p : Pk) (ps : List Pk) : encs (p :: ps) = p.enc ++ encs ps := by simp [encs]
theorem encs_append (a b : List Pk) : encs (a ++ b) = encs a ++ encs b := by simp [encs]
theorem encs_nil : encs [] = [] := rfl
theorem encs_pos {ps : List Pk} (h : encs ps = []) : ps = [] := by
  cases ps with
  | nil => rfl
  | cons p ps =>
    rw [encs_cons] at h
    exact absurd (List.append_eq_nil_iff.1 h).1 p.enc_pos
/-- A beginning of a packet's bytes, not all of them. -/
def Part (r : List UInt8) (p : Pk) : Prop := ∃ t, t ≠ [] ∧ r ++ t = p.enc
/-- Bytes as they come: whole packets, and a beginning of the next. -/
def Came (ps : List Pk) (j : Nat) (r : List UInt8) : Prop := j ≤ ps.length ∧ (r = [] ∨ ∃ p, ps[j]? = some p ∧ Part r p)
theorem split_enc : ∀ (ps : List Pk) (X Y : List UInt8), X ++ Y = encs ps → ∃ j r, Came ps j r ∧ X = encs (ps.take j) ++ r
  | [], X, Y, h => ⟨0, [], ⟨Nat.le_refl _, .inl rfl⟩, by
      rw [encs_nil] at h
      rw [(List.append_eq_nil_iff.1 h).1]; rfl⟩
  | p :: ps, X, Y, h => by
    rw [encs_cons] at h
    rcases List.append_eq_append_iff.1 h with ⟨z, hz, hz2⟩ | ⟨z, hz, hz2⟩
    · by_cases hz0 : z = []
      · subst hz0
        rw [List.append_nil] at hz
        exact ⟨1, [], ⟨by simp, .inl rfl⟩, by rw [List.append_nil, List.take_succ_cons, List.take_zero, encs_cons, encs_nil, List.append_nil, hz]⟩
      · exact ⟨0, X, ⟨Nat.zero_le _, .inr ⟨p, rfl, z, hz0, hz.symm⟩⟩, by rw [List.take_zero, encs_nil, List.nil_append]⟩
    · obtain ⟨j, r, ⟨hj, hr⟩, hX⟩ := split_enc ps z Y hz2.symm
      refine ⟨j + 1, r, ⟨by rw [List.length_cons]; omega, hr.imp id fun ⟨q, hq, hp⟩ => ⟨q, by simpa using hq, hp⟩⟩, ?_⟩
      rw [List.take_succ_cons, encs_cons, List.append_assoc, ← hX, hz]
theorem came_all {ps : List Pk} {j : Nat} {r : List UInt8} (h : Came ps j r) (he : encs (ps.take j) ++ r = encs ps) : j = ps.length ∧ r = [] := by
  obtain ⟨hj, hr⟩ := h
  have e : encs ps = encs (ps.take j) ++ encs (ps.drop j) := by rw [← encs_append, List.take_append_drop]
  rw [e] at he
  have hd := List.append_cancel_left he
  rcases hr with hr | ⟨p, hp, t, ht, hrt⟩
  · subst hr
    have := encs_pos hd.symm
    have hl := congrArg List.length this
    rw [List.length_drop, List.length_nil] at hl
    exact ⟨by omega, rfl⟩
  · obtain ⟨hlt, he2⟩ := List.getElem?_eq_some_iff.1 hp
    rw [List.drop_eq_getElem_cons hlt, he2, encs_cons] at hd
    exfalso
    have hl := congrArg List.length hd
    have hl2 := congrArg List.length hrt
    rw [List.length_append] at hl hl2
    exact ht (List.eq_nil_of_length_eq_zero (by omega))
theorem came_rest {ps : List Pk} {X Y : List UInt8} {j : Nat} {r : List UInt8} (h : X ++ Y = encs ps) (hX : X = encs (ps.take j) ++ r) : r ++ Y = encs (ps.drop j) := by
  have e : encs ps = encs (ps.take j) ++ encs (ps.drop j) := by rw [← encs_append, List.take_append_drop]
  rw [hX, e, List.append_assoc] at h
  exact List.append_cancel_left h
end Go.Proofs.YtcepfhnlbnlnhaaDoor
