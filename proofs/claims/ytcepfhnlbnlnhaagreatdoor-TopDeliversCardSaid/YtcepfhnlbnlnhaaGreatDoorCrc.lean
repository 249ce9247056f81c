/- PLAIN MATHEMATICS of the journal's check sum: the program's way (exclusive or with the byte, then eight shifts) and the document's way (bit by bit) come to the same number. -/
namespace Go.Proofs.YtcepfhnlbnlnhaaGreatDoor
set_option maxRecDepth 100000
namespace Jr

set_option maxRecDepth 100000
/-- One shift of the program's. -/
def step (c : Nat) : Nat := (c * 2 % 65536) ^^^ (4129 * (c / 32768))
/-- k shifts. -/
def steps : Nat → Nat → Nat
  | 0, c => c
  | k + 1, c => step (steps k c)
/-- The sum behind one byte more. -/
def upd (c b : Nat) : Nat := steps 8 (c ^^^ (b * 256))
/-- The check sum of bytes. -/
def sum (l : List UInt8) : Nat := l.foldl (fun c b => upd c b.toNat) 65535

/-- One bit of the document's: p is the bit's weight. -/
def rstep (c b p : Nat) : Nat := if b / p % 2 = c / 32768 then c * 2 % 65536 else (c * 2 % 65536) ^^^ 4129
/-- k bits of the document's. -/
def rsteps (b : Nat) : Nat → Nat → Nat
  | 0, c => c
  | k + 1, c => rstep (rsteps b k c) b (2 ^ (7 - k))

theorem xor_lt {a b : Nat} (ha : a < 65536) (hb : b < 65536) : a ^^^ b < 65536 := Nat.xor_lt_two_pow (n := 16) ha hb
theorem step_lt {c : Nat} (h : c < 65536) : step c < 65536 := by
  unfold step
  refine xor_lt (Nat.mod_lt _ (by decide)) ?_
  have : c / 32768 ≤ 1 := by omega
  omega
theorem steps_lt {c : Nat} (h : c < 65536) : ∀ k, steps k c < 65536
  | 0 => h
  | k + 1 => step_lt (steps_lt h k)
theorem upd_lt {c b : Nat} (h : c < 65536) (hb : b < 256) : upd c b < 65536 := steps_lt (xor_lt h (by omega)) 8
theorem rstep_lt {c b p : Nat} : rstep c b p < 65536 := by
  unfold rstep
  split
  · exact Nat.mod_lt _ (by decide)
  · exact xor_lt (Nat.mod_lt _ (by decide)) (by decide)
theorem rsteps_lt {c b : Nat} (h : c < 65536) : ∀ k, rsteps b k c < 65536
  | 0 => h
  | _ + 1 => rstep_lt
theorem foldl_lt (l : List UInt8) (c : Nat) (h : c < 65536) : l.foldl (fun c b => upd c b.toNat) c < 65536 := by
  induction l generalizing c with
  | nil => exact h
  | cons b l ih => exact ih _ (upd_lt h b.toNat_lt)
theorem sum_lt (l : List UInt8) : sum l < 65536 := foldl_lt l _ (by decide)
theorem sum_snoc (l : List UInt8) (b : UInt8) : sum (l ++ [b]) = upd (sum l) b.toNat := by simp [sum, List.foldl_append]

theorem dbl_xor (r x : Nat) : (r ^^^ x) * 2 % 65536 = (r * 2 % 65536) ^^^ (x * 2 % 65536) := by
  have h := Nat.xor_mod_two_pow (a := r * 2) (b := x * 2) (n := 16)
  have h2 : (r ^^^ x) * 2 = r * 2 ^^^ x * 2 := by
    have := Nat.shiftLeft_xor_distrib (a := r) (b := x) (i := 1)
    simpa [Nat.shiftLeft_eq] using this
  rw [h2]
  exact h
theorem top_xor (r x : Nat) : (r ^^^ x) / 32768 = (r / 32768) ^^^ (x / 32768) := by
  have := Nat.shiftRight_xor_distrib (a := r) (b := x) (i := 15)
  simpa [Nat.shiftRight_eq_div_pow] using this

theorem xlc (a b c : Nat) : a ^^^ (b ^^^ c) = b ^^^ (a ^^^ c) := by rw [← Nat.xor_assoc, Nat.xor_comm a b, Nat.xor_assoc]
theorem lin (r x : Nat) (t : Nat) (hr : r < 65536) (hx : x < 65536) (ht : x / 32768 = t) :
    step (r ^^^ x) = (if t = r / 32768 then r * 2 % 65536 else (r * 2 % 65536) ^^^ 4129) ^^^ (x * 2 % 65536) := by
  have h1 : r / 32768 = 0 ∨ r / 32768 = 1 := by omega
  have h2 : t = 0 ∨ t = 1 := by omega
  unfold step
  rw [dbl_xor, top_xor, ht]
  rcases h1 with h1 | h1 <;> rcases h2 with h2 | h2 <;> rw [h1, h2] <;> simp [Nat.xor_comm, xlc]

theorem rel (r b : Nat) (hr : r < 65536) (hb : b < 256) : ∀ k, k ≤ 8 → steps k (r ^^^ (b * 256)) = rsteps b k r ^^^ (b * 256 * 2 ^ k % 65536)
  | 0, _ => by
    have : b * 256 % 65536 = b * 256 := Nat.mod_eq_of_lt (by omega)
    simp [steps, rsteps, this]
  | k + 1, hk => by
    have ih := rel r b hr hb k (by omega)
    have hk7 : k = 0 ∨ k = 1 ∨ k = 2 ∨ k = 3 ∨ k = 4 ∨ k = 5 ∨ k = 6 ∨ k = 7 := by omega
    have ht : b * 256 * 2 ^ k % 65536 / 32768 = b / 2 ^ (7 - k) % 2 := by
      rcases hk7 with h | h | h | h | h | h | h | h <;> subst h <;> simp <;> omega
    have hd : b * 256 * 2 ^ k % 65536 * 2 % 65536 = b * 256 * 2 ^ (k + 1) % 65536 := by
      rcases hk7 with h | h | h | h | h | h | h | h <;> subst h <;> simp <;> omega
    have := lin (rsteps b k r) (b * 256 * 2 ^ k % 65536) _ (rsteps_lt hr k) (Nat.mod_lt _ (by decide)) ht
    simp only [steps]
    rw [ih, this, hd]
    rfl

/-- Eight bits of the document's are one byte of the program's. -/
theorem upd_eq (r b : Nat) (hr : r < 65536) (hb : b < 256) : rsteps b 8 r = upd r b := by
  have h := rel r b hr hb 8 (Nat.le_refl _)
  have h0 : b * 256 * 2 ^ 8 % 65536 = 0 := by omega
  unfold upd
  rw [h, h0, Nat.xor_zero]

end Jr
end Go.Proofs.YtcepfhnlbnlnhaaGreatDoor
