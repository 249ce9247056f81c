/- PLAIN MATHEMATICS of a disk: what each call answers, and what the disk has behind it. No program in sight. -/
namespace Go.Proofs.YtklcpckjmncdkaaGreatDoor

set_option maxRecDepth 100000
/-- An int of Go's. -/
def I64 (k : Int) : Prop := -9223372036854775808 ≤ k ∧ k ≤ 9223372036854775807

/-- A disk: the bytes of both files, how many of them last, the limit, the power, what was asked for. -/
structure Dk where
  b0 : ByteArray
  b1 : ByteArray
  l0 : Nat
  l1 : Nat
  lim : Nat
  off : Bool
  cut : Nat
  keep : List Int
  brk : Nat
  full : Bool

/-- What holds of every disk. -/
structure Dk.Ok (D : Dk) : Prop where
  l0 : D.l0 ≤ D.b0.size
  l1 : D.l1 ≤ D.b1.size
  sum : D.b0.size + D.b1.size ≤ D.lim
  lim : D.lim ≤ 16777216
  full : 0 < D.brk → D.full = false
  cut : I64 D.cut
  brk : I64 D.brk
  keep : ∀ k ∈ D.keep, I64 k

/-- How many of n bytes a number keeps. -/
def kept (n : Nat) (k : Int) : Nat := if 0 ≤ k then k.toNat % (n + 1) else n - (-(k + 1)).toNat % (n + 1)
theorem kept_le (n : Nat) (k : Int) : kept n k ≤ n := by
  unfold kept
  split
  · have := Nat.mod_lt k.toNat (show 0 < n + 1 by omega); omega
  · omega
theorem kept_zero (n : Nat) : kept n 0 = 0 := by simp [kept]

def Dk.cleared (D : Dk) : Dk := { D with cut := 0, keep := [], brk := 0, full := false }
def Dk.on (D : Dk) : Dk := { D.cleared with off := false }
/-- What of a file's bytes is there behind a loss of power. -/
def cutTo (b : ByteArray) (l : Nat) (k : Int) : ByteArray := b.extract 0 (l + kept (b.size - l) k)
theorem cutTo_size {b : ByteArray} {l : Nat} (k : Int) (h : l ≤ b.size) : (cutTo b l k).size = l + kept (b.size - l) k := by
  have := kept_le (b.size - l) k
  unfold cutTo
  rw [ByteArray.size_extract]
  omega
theorem cutTo_le {b : ByteArray} {l : Nat} (k : Int) (h : l ≤ b.size) : (cutTo b l k).size ≤ b.size := by
  have := kept_le (b.size - l) k
  rw [cutTo_size k h]; omega
/-- The power is lost. -/
def Dk.lose (D : Dk) (ks : List Int) : Dk :=
  { D.cleared with b0 := cutTo D.b0 D.l0 (ks.getD 0 0), l0 := (cutTo D.b0 D.l0 (ks.getD 0 0)).size, b1 := cutTo D.b1 D.l1 (ks.getD 1 0), l1 := (cutTo D.b1 D.l1 (ks.getD 1 0)).size, off := true }

/-- The same, a file at a time. -/
def Dk.lose0 (D : Dk) (ks : List Int) : Dk := { D with b0 := cutTo D.b0 D.l0 (ks.getD 0 0), l0 := (cutTo D.b0 D.l0 (ks.getD 0 0)).size }
def Dk.lose1 (D : Dk) (ks : List Int) : Dk := { D with b1 := cutTo D.b1 D.l1 (ks.getD 1 0), l1 := (cutTo D.b1 D.l1 (ks.getD 1 0)).size }
theorem Dk.lose_eq (D : Dk) (ks : List Int) : ({ (D.lose0 ks).lose1 ks with off := true } : Dk).cleared = D.lose ks := rfl
/-- Cut: the ask goes on, or comes about. -/
def Dk.cutHits (D : Dk) : Bool := D.cut == 1
def Dk.ticked (D : Dk) : Dk := { D with cut := D.cut - 1 }
def Dk.broken (D : Dk) : Dk := if 0 < D.brk then { D with brk := D.brk - 1, full := D.brk == 1 } else D
/-- A change: done, cut short, or refused. -/
def Dk.change (D : Dk) (act cutAct : Dk → Dk) : Nat × Dk :=
  if D.cut = 1 then (240, (cutAct D.ticked).lose D.keep)
  else if D.ticked.broken.full = true then (241, D.ticked.broken) else (0, act D.ticked.broken)

/-- What was asked for, met: the document's way. -/
def Dk.stopped (D : Dk) : Nat × Dk := if D.cut = 1 then (240, D.ticked) else if D.ticked.broken.full = true then (241, D.ticked.broken) else (0, D.ticked.broken)
theorem Dk.change_of_stopped (D : Dk) (A C : Dk → Dk) : D.change A C = if D.stopped.1 = 240 then (240, (C D.stopped.2).lose D.keep) else if D.stopped.1 = 241 then (241, D.stopped.2) else (0, A D.stopped.2) := by
  unfold Dk.change Dk.stopped
  by_cases h1 : D.cut = 1
  · simp [h1]
  · by_cases h2 : D.ticked.broken.full = true
    · simp [h1, h2]
    · simp [h1, h2]
/-- The code of a call with a file. -/
def Dk.find (D : Dk) (n : Int) : Nat := if D.off = true then 240 else if n = 0 ∨ n = 1 then 0 else 242
def Dk.bytes (D : Dk) (n : Int) : ByteArray := if n = 0 then D.b0 else D.b1
def Dk.put (s : ByteArray) (n : Int) (D : Dk) : Dk := if n = 0 then { D with b0 := D.b0 ++ s } else { D with b1 := D.b1 ++ s }
def Dk.sync (n : Int) (D : Dk) : Dk := if n = 0 then { D with l0 := D.b0.size } else { D with l1 := D.b1.size }
def Dk.wipe (n : Int) (D : Dk) : Dk := if n = 0 then { D with b0 := ⟨#[]⟩, l0 := 0 } else { D with b1 := ⟨#[]⟩, l1 := 0 }

def Dk.append (D : Dk) (n : Int) (s : ByteArray) : Nat × Dk :=
  if D.find n ≠ 0 then (D.find n, D)
  else if D.lim < D.b0.size + D.b1.size + s.size then (241, D)
  else if s.size = 0 then (0, D) else D.change (Dk.put s n) (Dk.put s n)
def Dk.doSync (D : Dk) (n : Int) : Nat × Dk := if D.find n ≠ 0 then (D.find n, D) else D.change (Dk.sync n) id
def Dk.doClear (D : Dk) (n : Int) : Nat × Dk := if D.find n ≠ 0 then (D.find n, D) else D.change (Dk.wipe n) id
def Dk.read (D : Dk) (n : Int) : ByteArray × Nat := if D.find n ≠ 0 then (⟨#[]⟩, D.find n) else (D.bytes n, 0)
def Dk.lasts (D : Dk) (n : Int) : Nat := if n = 0 then D.l0 else if n = 1 then D.l1 else 0
def Dk.doCut (D : Dk) (n : Int) (ks : List Int) : Dk := { D with cut := n.toNat, keep := ks }
def Dk.doBreak (D : Dk) (n : Int) : Dk := { D with brk := n.toNat, full := false }
def Dk.crash (D : Dk) (ks : List Int) : Dk := if D.off = true then D.on else (D.lose ks).on
/-- A new disk. -/
def Dk.new (limit : Int) : Dk := ⟨⟨#[]⟩, ⟨#[]⟩, 0, 0, (max 0 (min limit 16777216)).toNat, false, 0, [], 0, false⟩

theorem i64_zero : I64 0 := by unfold I64; omega
theorem i64_sub {n : Nat} (h : I64 n) (k : Nat) : I64 ((n - k : Nat) : Int) := by unfold I64 at *; omega
theorem i64_toNat {n : Int} (h : I64 n) : I64 (n.toNat : Int) := by unfold I64 at *; omega

theorem Dk.Ok.cleared {D : Dk} (h : D.Ok) : D.cleared.Ok :=
  ⟨h.l0, h.l1, h.sum, h.lim, fun _ => rfl, i64_zero, i64_zero, fun k hk => by simp [Dk.cleared] at hk⟩
theorem Dk.Ok.on {D : Dk} (h : D.Ok) : D.on.Ok := ⟨h.l0, h.l1, h.sum, h.lim, fun _ => rfl, i64_zero, i64_zero, fun k hk => by simp [Dk.on, Dk.cleared] at hk⟩
theorem Dk.Ok.lose {D : Dk} (h : D.Ok) (ks : List Int) : (D.lose ks).Ok :=
  ⟨Nat.le_refl _, Nat.le_refl _, by have a := cutTo_le (ks.getD 0 0) h.l0; have b := cutTo_le (ks.getD 1 0) h.l1; have := h.sum; simp only [Dk.lose]; simp only [Dk.cleared]; omega, h.lim, fun _ => rfl, i64_zero, i64_zero, fun k hk => by simp [Dk.lose, Dk.cleared] at hk⟩
theorem Dk.Ok.lose0 {D : Dk} (h : D.Ok) (ks : List Int) : (D.lose0 ks).Ok :=
  ⟨Nat.le_refl _, h.l1, by have a := cutTo_le (ks.getD 0 0) h.l0; have := h.sum; simp only [Dk.lose0]; omega, h.lim, h.full, h.cut, h.brk, h.keep⟩
theorem Dk.Ok.lose1 {D : Dk} (h : D.Ok) (ks : List Int) : (D.lose1 ks).Ok :=
  ⟨h.l0, Nat.le_refl _, by have a := cutTo_le (ks.getD 1 0) h.l1; have := h.sum; simp only [Dk.lose1]; omega, h.lim, h.full, h.cut, h.brk, h.keep⟩
theorem Dk.Ok.ticked {D : Dk} (h : D.Ok) : D.ticked.Ok := ⟨h.l0, h.l1, h.sum, h.lim, h.full, i64_sub h.cut 1, h.brk, h.keep⟩
theorem Dk.Ok.broken {D : Dk} (h : D.Ok) : D.broken.Ok := by
  unfold Dk.broken
  split
  · refine ⟨h.l0, h.l1, h.sum, h.lim, fun hb => ?_, h.cut, i64_sub h.brk 1, h.keep⟩
    simp only at hb ⊢
    simp; omega
  · exact h
theorem Dk.Ok.sync {D : Dk} (h : D.Ok) (n : Int) : (Dk.sync n D).Ok := by
  unfold Dk.sync
  split
  · exact ⟨Nat.le_refl _, h.l1, h.sum, h.lim, h.full, h.cut, h.brk, h.keep⟩
  · exact ⟨h.l0, Nat.le_refl _, h.sum, h.lim, h.full, h.cut, h.brk, h.keep⟩
theorem Dk.Ok.wipe {D : Dk} (h : D.Ok) (n : Int) : (Dk.wipe n D).Ok := by
  have hs := h.sum
  have e : (⟨#[]⟩ : ByteArray).size = 0 := rfl
  unfold Dk.wipe
  split
  · exact ⟨Nat.zero_le _, h.l1, by simp only [e]; omega, h.lim, h.full, h.cut, h.brk, h.keep⟩
  · exact ⟨h.l0, Nat.zero_le _, by simp only [e]; omega, h.lim, h.full, h.cut, h.brk, h.keep⟩
theorem Dk.Ok.put {D : Dk} (h : D.Ok) (s : ByteArray) (n : Int) (hs : D.b0.size + D.b1.size + s.size ≤ D.lim) : (Dk.put s n D).Ok := by
  have h0 := h.l0
  have h1 := h.l1
  unfold Dk.put
  split
  · exact ⟨by simp only [ByteArray.size_append]; omega, h.l1, by simp only [ByteArray.size_append]; omega, h.lim, h.full, h.cut, h.brk, h.keep⟩
  · exact ⟨h.l0, by simp only [ByteArray.size_append]; omega, by simp only [ByteArray.size_append]; omega, h.lim, h.full, h.cut, h.brk, h.keep⟩
theorem Dk.ticked_sizes (D : Dk) : D.ticked.b0 = D.b0 ∧ D.ticked.b1 = D.b1 ∧ D.ticked.lim = D.lim := ⟨rfl, rfl, rfl⟩
theorem Dk.broken_sizes (D : Dk) : D.broken.b0 = D.b0 ∧ D.broken.b1 = D.b1 ∧ D.broken.lim = D.lim := by unfold Dk.broken; split <;> exact ⟨rfl, rfl, rfl⟩
theorem Dk.Ok.change {D : Dk} (h : D.Ok) {act cutAct : Dk → Dk} (ha : (act D.ticked.broken).Ok) (hc : (cutAct D.ticked).Ok) : (D.change act cutAct).2.Ok := by
  unfold Dk.change
  split
  · exact hc.lose _
  · split
    · exact h.ticked.broken
    · exact ha
theorem Dk.Ok.append {D : Dk} (h : D.Ok) (n : Int) (s : ByteArray) : (D.append n s).2.Ok := by
  unfold Dk.append
  split
  · exact h
  split
  · exact h
  split
  · exact h
  rename_i h1 _
  obtain ⟨a, b, c⟩ := D.ticked.broken_sizes
  obtain ⟨a', b', c'⟩ := D.ticked_sizes
  exact h.change (h.ticked.broken.put s n (by rw [a, b, c, a', b', c']; omega)) (h.ticked.put s n (by rw [a', b', c']; omega))
theorem Dk.Ok.doSync {D : Dk} (h : D.Ok) (n : Int) : (D.doSync n).2.Ok := by
  unfold Dk.doSync
  split
  · exact h
  · exact h.change (h.ticked.broken.sync n) h.ticked
theorem Dk.Ok.doClear {D : Dk} (h : D.Ok) (n : Int) : (D.doClear n).2.Ok := by
  unfold Dk.doClear
  split
  · exact h
  · exact h.change (h.ticked.broken.wipe n) h.ticked
theorem Dk.Ok.doCut {D : Dk} (h : D.Ok) {n : Int} (hn : I64 n) {ks : List Int} (hk : ∀ k ∈ ks, I64 k) : (D.doCut n ks).Ok := ⟨h.l0, h.l1, h.sum, h.lim, h.full, i64_toNat hn, h.brk, hk⟩
theorem Dk.Ok.doBreak {D : Dk} (h : D.Ok) {n : Int} (hn : I64 n) : (D.doBreak n).Ok := ⟨h.l0, h.l1, h.sum, h.lim, fun _ => rfl, h.cut, i64_toNat hn, h.keep⟩
theorem Dk.Ok.crash {D : Dk} (h : D.Ok) (ks : List Int) : (D.crash ks).Ok := by
  unfold Dk.crash
  split
  · exact h.on
  · exact (h.lose ks).on
theorem Dk.new_ok (limit : Int) : (Dk.new limit).Ok :=
  ⟨Nat.le_refl _, Nat.le_refl _, Nat.zero_le _, by simp only [Dk.new]; omega, fun _ => rfl, i64_zero, i64_zero, fun k hk => by simp [Dk.new] at hk⟩
end Go.Proofs.YtklcpckjmncdkaaGreatDoor
