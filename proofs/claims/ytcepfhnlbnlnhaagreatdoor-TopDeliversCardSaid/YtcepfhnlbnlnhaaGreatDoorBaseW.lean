/- WHAT IS IN HAND: blocks, rows, worlds that grow; of the texts of other statements what the wire needs. -/
import Derived.Test.YtcepfhnlbnlnhaaGreatDoorGet
import Derived.WalkKit
import Derived.WalkSpells
import Derived.Outline
import Derived.Lib.Hide
import Derived.Handy
import Derived.Deep.Draws
import Derived.Deep.AppendLies
import Derived.Laws.ResultCell
import Derived.LaidEql
import Derived.Stop.Asserts
import Derived.RowKitTokens
import Derived.BigQuiet
import Derived.Deep.QuietTactic
import Derived.BigRegion
import Derived.ChangeAlike
import Derived.StillTailTactics
import Derived.Deep.RegionHeld3
import Derived.Deep.DrawnRows
import Derived.Lib.LazyBuf
import Derived.Test.YtcepfhnlbnlnhaaGreatDoorShelf
import Derived.Laws.AppendOwnNone
import Derived.Deep.DeepCutAuto
namespace Go.Proofs.YtcepfhnlbnlnhaaGreatDoor
set_option maxRecDepth 100000
section
open Go.RowKit
/-- Block g is just these cells. -/
def Blk (w : World) (g : Nat) (t : TypeId) (cs : Array Value) : Prop := w.heap[g]? = some (.cells cs t (0, 0))
section
variable {w w' : World} {g : Nat} {t : TypeId} {cs : Array Value}
theorem Blk.lt (h : Blk w g t cs) : g < w.heap.size := (Array.getElem?_eq_some_iff.1 h).1
theorem Blk.cell (h : Blk w g t cs) (i : Nat) : w.cell? ⟨g, i, none⟩ = cs[i]? := cell_of_row w g i cs t (0, 0) h
theorem Blk.frozen (h : Blk w g t cs) (i : Nat) : w.frozen? ⟨g, i, none⟩ = false := by
  unfold Blk at h
  simp [World.frozen?, h]
theorem Blk.new (w : World) (t : TypeId) (cs : Array Value) : Blk (w.alloc (.cells cs t)) w.heap.size t cs := heap_alloc_new w _
theorem Blk.drew (h : Blk w g t cs) : Blk w.drew g t cs := h
theorem Blk.drewN (h : Blk w g t cs) (n : Nat) : Blk (w.drewN n) g t cs := h
theorem Blk.alloc (h : Blk w g t cs) (o : Obj) : Blk (w.alloc o) g t cs := (Below.heap_alloc w o g h.lt).trans h
theorem Blk.put (h : Blk w g t cs) (i : Nat) (u : Value) : Blk (w.setCell ⟨g, i, none⟩ u) g t (cs.setIfInBounds i u) := by
  unfold Blk at h ⊢
  simp [World.setCell, Array.getElem?_modify, h]
theorem Blk.far (h : Blk w g t cs) {p : Addr} (hp : g ≠ p.block) (u : Value) : Blk (w.setCell p u) g t cs := (Below.heap_setCell w p u g hp).trans h
theorem Blk.grown {row : Option Nat} (h : Blk w g t cs) (hb : w.grownBy w' row) (hg : some g ≠ row) : Blk w' g t cs := (hb.block g h.lt hg).trans h
theorem Blk.ne_ {g' : Nat} {t' : TypeId} {cs' : Array Value} (h : Blk w g t cs) (h' : Blk w g' t' cs') (hne : t ≠ t') : g ≠ g' := by
  rintro rfl
  unfold Blk at h h'
  rw [h] at h'
  injection h' with h'
  injection h' with _ ht
  exact hne ht
end
section
variable {a w : World} {g : Nat}
theorem only_refl (a : World) (row : Option Nat) : a.grownBy a row := World.grownBy.refl a row
theorem only_trans {a b c : World} {row : Option Nat} (h : a.grownBy b row) (k : b.grownBy c row) : a.grownBy c row :=
  ⟨k.os.trans h.os, k.tape.trans h.tape, k.output.trans h.output, Nat.le_trans h.size k.size, fun i hi hne => (k.block i (Nat.lt_of_lt_of_le hi h.size) hne).trans (h.block i hi hne)⟩
theorem only_drew {row : Option Nat} (h : a.grownBy w row) : a.grownBy w.drew row := ⟨h.os, h.tape, h.output, h.size, h.block⟩
theorem only_drewN {row : Option Nat} (h : a.grownBy w row) (n : Nat) : a.grownBy (w.drewN n) row := ⟨h.os, h.tape, h.output, h.size, h.block⟩
theorem only_alloc {row : Option Nat} (h : a.grownBy w row) (o : Obj) : a.grownBy (w.alloc o) row :=
  ⟨h.os, h.tape, h.output, Nat.le_trans h.size (by simp), fun i hi hne => (Below.heap_alloc w o i (Nat.lt_of_lt_of_le hi h.size)).trans (h.block i hi hne)⟩
theorem only_put (h : a.grownBy w (some g)) (i : Nat) (u : Value) : a.grownBy (w.setCell ⟨g, i, none⟩ u) (some g) :=
  ⟨h.os, h.tape, h.output, by simpa [World.setCell] using h.size, fun j hj hne => (Below.heap_setCell w ⟨g, i, none⟩ u j (fun e => hne (by rw [e]))).trans (h.block j hj hne)⟩
theorem only_new {row : Option Nat} (h : a.grownBy w row) {p : Addr} (hp : a.heap.size ≤ p.block) (u : Value) : a.grownBy (w.setCell p u) row :=
  ⟨h.os, h.tape, h.output, by simpa [World.setCell] using h.size, fun j hj hne => (Below.heap_setCell w p u j (by omega)).trans (h.block j hj hne)⟩
end
end
section
open Go.RowKit
/-- A slice of strings in a block of the call's own. -/
structure StrsAt (w : World) (B : Nat) (v : Value) (l : List ByteArray) : Prop where
  at_ : ∃ A c, v = .slice A l.length c ∧ l.length ≤ c ∧ c ≤ maxLen ∧
    (0 < c → ∃ b off cs, A = some ⟨b, off, none⟩ ∧ B ≤ b ∧ w.heap[b]? = some (.cells cs 9 (0, 0)) ∧ off + c ≤ cs.size ∧ ∀ j (h : j < l.length), cs[off + j]? = some (.string l[j]))
theorem Tryz.infoStr : (Tryz.prog.info? 9).map (fun i => (i.zero, i.size, i.bytes)) = some (some (.string ⟨#[]⟩), 1, 16) := by kernel_rfl
end
section
open Go.RowKit
attribute [local go_sem ↓] Go.wp_at_zero Go.wp_at_succ
end
section
open Go.RowKit
/-- Two blocks, and what is new, have turned. -/
structure Duo (w w' : World) (g r : Nat) : Prop where
  os : w'.os = w.os
  tape : w'.tape = w.tape
  output : w'.output = w.output
  size : w.heap.size ≤ w'.heap.size
  block : ∀ i, i < w.heap.size → i ≠ g → i ≠ r → w'.heap[i]? = w.heap[i]?
theorem Duo.refl (w : World) (g r : Nat) : Duo w w g r := ⟨rfl, rfl, rfl, Nat.le_refl _, fun _ _ _ _ => rfl⟩
theorem Duo.trans {a b c : World} {g r : Nat} (h : Duo a b g r) (k : Duo b c g r) : Duo a c g r :=
  ⟨k.os.trans h.os, k.tape.trans h.tape, k.output.trans h.output, Nat.le_trans h.size k.size, fun i hi h1 h2 => (k.block i (Nat.lt_of_lt_of_le hi h.size) h1 h2).trans (h.block i hi h1 h2)⟩
theorem Duo.of_none {a b : World} {g r : Nat} (h : a.grownBy b none) : Duo a b g r := ⟨h.os, h.tape, h.output, h.size, fun i hi _ _ => h.block i hi (by simp)⟩
theorem Duo.of_left {a b : World} {g r : Nat} (h : a.grownBy b (some g)) : Duo a b g r := ⟨h.os, h.tape, h.output, h.size, fun i hi h1 _ => h.block i hi (by simpa using h1)⟩
theorem Duo.of_right {a b : World} {g r : Nat} (h : a.grownBy b (some r)) : Duo a b g r := ⟨h.os, h.tape, h.output, h.size, fun i hi _ h2 => h.block i hi (by simpa using h2)⟩
/-- Of the blocks that stood: the row's has turned; of the builder's own (pb, and rows of bytes from pb on) nothing is said. -/
structure Lk (row : Option Nat) (pb : Nat) (w w' : World) : Prop where
  os : w'.os = w.os
  tape : w'.tape = w.tape
  output : w'.output = w.output
  size : w.heap.size ≤ w'.heap.size
  block : ∀ k o, w.heap[k]? = some o → some k ≠ row → k ≠ pb → (k < pb ∨ ∀ c fz, o ≠ .cells c 5 fz) → w'.heap[k]? = some o
section
variable {row : Option Nat} {pb : Nat} {a b c : World}
theorem Lk.refl (row : Option Nat) (pb : Nat) (w : World) : Lk row pb w w := ⟨rfl, rfl, rfl, Nat.le_refl _, fun _ _ h _ _ _ => h⟩
theorem Lk.trans (h : Lk row pb a b) (k : Lk row pb b c) : Lk row pb a c :=
  ⟨k.os.trans h.os, k.tape.trans h.tape, k.output.trans h.output, Nat.le_trans h.size k.size, fun i o hi h1 h2 h3 => k.block i o (h.block i o hi h1 h2 h3) h1 h2 h3⟩
theorem Lk.weak (h : Lk none pb a b) (row : Option Nat) : Lk row pb a b := ⟨h.os, h.tape, h.output, h.size, fun i o hi _ h2 h3 => h.block i o hi (by simp) h2 h3⟩
theorem Lk.of_grown (h : a.grownBy b row) (pb : Nat) : Lk row pb a b :=
  ⟨h.os, h.tape, h.output, h.size, fun i _ hi h1 _ _ => (h.block i (Array.getElem?_eq_some_iff.1 hi).1 h1).trans hi⟩
theorem Lk.of_builder (h : Below pb a b) (k : Lib.OthersKept 5 (some pb) a b) : Lk none pb a b :=
  ⟨h.os, h.tape, h.output, h.size, fun i o hi _ h2 h3 => by
    rcases h3 with h3 | h3
    · exact (h.block i h3).trans hi
    · exact k i o hi (by simpa using h2) h3⟩
theorem Lk.blk {g : Nat} {t : TypeId} {cs : Array Value} (h : Lk row pb a b) (hb : Blk a g t cs) (hg : some g ≠ row) (hp : g ≠ pb) (ht : t ≠ 5) : Blk b g t cs :=
  h.block g _ hb hg hp (.inr fun c fz e => by injection e with _ e2; exact ht e2)
theorem Lk.cell {k : Nat} {o : Obj} (h : Lk row pb a b) (hk : a.heap[k]? = some o) (hr : some k ≠ row) (hp : k ≠ pb) (ho : k < pb ∨ ∀ c fz, o ≠ .cells c 5 fz) (i : Nat) : b.cell? ⟨k, i, none⟩ = a.cell? ⟨k, i, none⟩ :=
  World.cell?_of_block ((h.block k o hk hr hp ho).trans hk.symm)
end
end
section
open Go.RowKit
theorem StrsAt.kept {w w' : World} {B : Nat} {v : Value} {l : List ByteArray} (h : StrsAt w B v l) (hk : ∀ b cs, B ≤ b → Blk w b 9 cs → Blk w' b 9 cs) : StrsAt w' B v l := by
  obtain ⟨A, c, rfl, h1, h2, h3⟩ := h
  refine ⟨A, c, rfl, h1, h2, fun hc => ?_⟩
  obtain ⟨b, off, cs, hA, hb, hh, ho, hcell⟩ := h3 hc
  exact ⟨b, off, cs, hA, hb, hk b cs hb hh, ho, hcell⟩
theorem StrsAt.grown {w w' : World} {B : Nat} {v : Value} {l : List ByteArray} (h : StrsAt w B v l) (hg : w.grownBy w' none) : StrsAt w' B v l :=
  h.kept fun _ _ _ hb => hb.grown hg (by simp)
theorem grown_below {w w' : World} {B : Nat} (h : Below B w w') (hB : w.heap.size ≤ B) : w.grownBy w' none := ⟨h.os, h.tape, h.output, h.size, fun i hi _ => h.block i (by omega)⟩
end
section
open Go.RowKit
theorem StrsAt.mono {w : World} {B B' : Nat} {v : Value} {l : List ByteArray} (h : StrsAt w B v l) (hB : B' ≤ B) : StrsAt w B' v l := by
  obtain ⟨A, c, hv, h1, h2, h3⟩ := h
  refine ⟨A, c, hv, h1, h2, fun hc => ?_⟩
  obtain ⟨b, off, cs, hA, hb, rest⟩ := h3 hc
  exact ⟨b, off, cs, hA, Nat.le_trans hB hb, rest⟩
theorem StrsAt.put {w : World} {B b : Nat} {t : TypeId} {cs : Array Value} {v : Value} {l : List ByteArray} (h : StrsAt w B v l) (hb : Blk w b t cs) (ht : t ≠ 9) (i : Nat) (u : Value) : StrsAt (w.setCell ⟨b, i, none⟩ u) B v l :=
  h.kept fun _ _ _ hk => hk.far (Blk.ne_ hk hb (Ne.symm ht)) u
end
section
open Go.RowKit
theorem size_list (s : ByteArray) : s.size = s.data.toList.length := by simp
end
section
open Go.RowKit


end
section
open Go.RowKit
section
variable {w : World}
theorem StrsAt.cell {w : World} {B : Nat} {A : Option Addr} {n c : Nat} {l : List ByteArray} (h : StrsAt w B (.slice A n c) l) (hl : 0 < l.length) :
    ∃ b off, A = some ⟨b, off, none⟩ ∧ ∀ j (hj : j < l.length), w.cell? ⟨b, off + j, none⟩ = some (.string l[j]) := by
  obtain ⟨A', c', hv, h1, _, h3⟩ := h
  injection hv with e1 e2 e3
  subst e1; subst e3
  obtain ⟨b, off, cs, hA, _, hb, _, hcell⟩ := h3 (by omega)
  exact ⟨b, off, hA, fun j hj => (cell_of_row w b (off + j) cs _ (0, 0) hb).trans (hcell j hj)⟩
theorem grown_duo {a b c : World} {g jb : Nat} (h : a.grownBy b none) (hd : Duo b c g jb) (hg : a.heap.size ≤ g) (hj : a.heap.size ≤ jb) : a.grownBy c none :=
  ⟨hd.os.trans h.os, hd.tape.trans h.tape, hd.output.trans h.output, Nat.le_trans h.size hd.size, fun i hi _ => (hd.block i (Nat.lt_of_lt_of_le hi h.size) (by omega) (by omega)).trans (h.block i hi (by simp))⟩
theorem grown_own {a b c : World} {g : Nat} (h : a.grownBy b none) (hd : b.grownBy c (some g)) (hg : a.heap.size ≤ g) : a.grownBy c none :=
  ⟨hd.os.trans h.os, hd.tape.trans h.tape, hd.output.trans h.output, Nat.le_trans h.size hd.size, fun i hi _ => (hd.block i (Nat.lt_of_lt_of_le hi h.size) (by simp; omega)).trans (h.block i hi (by simp))⟩
end
end
end Go.Proofs.YtcepfhnlbnlnhaaGreatDoor
