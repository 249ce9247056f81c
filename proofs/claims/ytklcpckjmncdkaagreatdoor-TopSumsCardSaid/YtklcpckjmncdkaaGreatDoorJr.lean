/- A JOURNAL, as plain data and in memory: what its calls answer; which blocks a call turns; what a builder keeps. -/
import Derived.Test.YtklcpckjmncdkaaGreatDoorRead
import Derived.Test.YtklcpckjmncdkaaGreatDoorFault
import Derived.Test.YtklcpckjmncdkaaGreatDoorDiskK
import Derived.Test.YtklcpckjmncdkaaGreatDoorShelf
namespace Go.Proofs.YtklcpckjmncdkaaGreatDoor
set_option maxRecDepth 100000
open Go.RowKit

/-- A journal: its file, its generation, whether it is broken. -/
structure Jr where
  file : Int
  gen : Nat
  broken : Bool

/-- The body that is laid for the text at place i. -/
def lbody (i : Nat) (b : ByteArray) : ByteArray := if 1 < i then markR ++ b else b
/-- The frames, one behind the other; or the code of the first body that has none. -/
def lframes : Nat → List ByteArray → List UInt8 → Nat × List UInt8
  | _, [], acc => (0, acc)
  | i, b :: l, acc => if (frameR (lbody i b)).2 = 0 then lframes (i + 1) l (acc ++ (frameR (lbody i b)).1.data.toList) else ((frameR (lbody i b)).2, acc)
/-- What is laid: head, state, records. -/
def texts (gen : Nat) (s : ByteArray) (recs : List ByteArray) : List ByteArray := ⟨(headL (gen + 1) (1 + recs.length)).toArray⟩ :: (markS ++ s) :: recs
def three (D : Dk) (n : Int) (s : ByteArray) : Nat × Dk :=
  if (D.doClear n).1 ≠ 0 then D.doClear n else if ((D.doClear n).2.append n s).1 ≠ 0 then (D.doClear n).2.append n s else ((D.doClear n).2.append n s).2.doSync n
def jlay (D : Dk) (J : Jr) (s : ByteArray) (recs : List ByteArray) : Nat × Dk × Jr :=
  if 2147483647 ≤ J.gen then (241, D, J)
  else
    let f := lframes 0 (texts J.gen s recs) []
    if f.1 ≠ 0 then (f.1, D, J)
    else
      let t := three D (1 - J.file) ⟨f.2.toArray⟩
      if t.1 ≠ 0 then (t.1, t.2, { J with broken := true }) else (0, t.2, { J with file := 1 - J.file, gen := J.gen + 1 })

/-! ### Which blocks turn -/
/-- Two blocks, and what is new, have turned. -/
structure Duo (w w' : World) (g r : Nat) : Prop where
  os : w'.os = w.os
  tape : w'.tape = w.tape
  output : w'.output = w.output
  size : w.heap.size ≤ w'.heap.size
  block : ∀ i, i < w.heap.size → i ≠ g → i ≠ r → w'.heap[i]? = w.heap[i]?
theorem Duo.refl (w : World) (g r : Nat) : Duo w w g r := ⟨rfl, rfl, rfl, Nat.le_refl _, fun _ _ _ _ => rfl⟩
theorem Duo.trans {a b c : World} {g r : Nat} (h : Duo a b g r) (k : Duo b c g r) : Duo a c g r :=
  ⟨k.os.trans h.os, k.tape.trans h.tape, k.output.trans h.output, Nat.le_trans h.size k.size, fun i hi h1 h2 => (k.block i (Nat.lt_of_lt_of_le hi h.size) h1 h2).trans (h.block i hi h1 h2)⟩
theorem Duo.of_none {a b : World} {g r : Nat} (h : a.grownBy b none) : Duo a b g r := ⟨h.os, h.tape, h.output, h.size, fun i hi _ _ => h.block i hi (by simp)⟩
theorem Duo.of_left {a b : World} {g r : Nat} (h : a.grownBy b (some g)) : Duo a b g r := ⟨h.os, h.tape, h.output, h.size, fun i hi h1 _ => h.block i hi (by simpa using h1)⟩
theorem Duo.of_right {a b : World} {g r : Nat} (h : a.grownBy b (some r)) : Duo a b g r := ⟨h.os, h.tape, h.output, h.size, fun i hi _ h2 => h.block i hi (by simpa using h2)⟩
theorem Duo.below {a b : World} {g r B : Nat} (h : Duo a b g r) (hB : B ≤ a.heap.size) (hg : B ≤ g) (hr : B ≤ r) : Below B a b := ⟨h.os, h.tape, h.output, h.size, fun i hi => h.block i (by omega) (by omega) (by omega)⟩

/-- Of the blocks that stood: the row's has turned; of the builder's own (pb, and rows of bytes from pb on) nothing is said. -/
structure Lk (row : Option Nat) (pb : Nat) (w w' : World) : Prop where
  os : w'.os = w.os
  tape : w'.tape = w.tape
  output : w'.output = w.output
  size : w.heap.size ≤ w'.heap.size
  block : ∀ k o, w.heap[k]? = some o → some k ≠ row → k ≠ pb → (k < pb ∨ ∀ c fz, o ≠ .cells c 5 fz) → w'.heap[k]? = some o
section
variable {row : Option Nat} {pb : Nat} {a b c : World}
theorem Lk.refl (row : Option Nat) (pb : Nat) (w : World) : Lk row pb w w := ⟨rfl, rfl, rfl, Nat.le_refl _, fun _ _ h _ _ _ => h⟩
theorem Lk.trans (h : Lk row pb a b) (k : Lk row pb b c) : Lk row pb a c :=
  ⟨k.os.trans h.os, k.tape.trans h.tape, k.output.trans h.output, Nat.le_trans h.size k.size, fun i o hi h1 h2 h3 => k.block i o (h.block i o hi h1 h2 h3) h1 h2 h3⟩
theorem Lk.weak (h : Lk none pb a b) (row : Option Nat) : Lk row pb a b := ⟨h.os, h.tape, h.output, h.size, fun i o hi _ h2 h3 => h.block i o hi (by simp) h2 h3⟩
theorem Lk.of_grown (h : a.grownBy b row) (pb : Nat) : Lk row pb a b :=
  ⟨h.os, h.tape, h.output, h.size, fun i _ hi h1 _ _ => (h.block i (Array.getElem?_eq_some_iff.1 hi).1 h1).trans hi⟩
theorem Lk.of_below {B : Nat} (h : Below B a b) (hB : a.heap.size ≤ B) (pb : Nat) : Lk none pb a b :=
  ⟨h.os, h.tape, h.output, h.size, fun i _ hi _ _ _ => (h.block i (Nat.lt_of_lt_of_le (Array.getElem?_eq_some_iff.1 hi).1 hB)).trans hi⟩
theorem Lk.of_builder (h : Below pb a b) (k : Lib.OthersKept 5 (some pb) a b) : Lk none pb a b :=
  ⟨h.os, h.tape, h.output, h.size, fun i o hi _ h2 h3 => by
    rcases h3 with h3 | h3
    · exact (h.block i h3).trans hi
    · exact k i o hi (by simpa using h2) h3⟩
theorem Lk.blk {g : Nat} {t : TypeId} {cs : Array Value} (h : Lk row pb a b) (hb : Blk a g t cs) (hg : some g ≠ row) (hp : g ≠ pb) (ht : t ≠ 5) : Blk b g t cs :=
  h.block g _ hb hg hp (.inr fun c fz e => by injection e with _ e2; exact ht e2)
theorem Lk.cell {k : Nat} {o : Obj} (h : Lk row pb a b) (hk : a.heap[k]? = some o) (hr : some k ≠ row) (hp : k ≠ pb) (ho : k < pb ∨ ∀ c fz, o ≠ .cells c 5 fz) (i : Nat) : b.cell? ⟨k, i, none⟩ = a.cell? ⟨k, i, none⟩ :=
  World.cell?_of_block ((h.block k o hk hr hp ho).trans hk.symm)
theorem IntRow.lk {v : Value} {l : List Int} (h : IntRow a v l) (hk : Lk row pb a b) {tp : TypeId} {cp : Array Value} (hpb : Blk a pb tp cp) (htp : tp ≠ 3) (hr : ∀ g, row = some g → ∃ t cs, Blk a g t cs ∧ t ≠ 3) : IntRow b v l := by
  refine ⟨h.1, h.2.imp id ?_⟩
  rintro ⟨g', cap, cur, rfl, h0, hh, h1, h2, h3, h4⟩
  refine ⟨g', cap, cur, rfl, h0, ?_, h1, h2, h3, h4⟩
  refine hk.block g' _ hh ?_ (Blk.ne_ (t := 3) hh hpb (Ne.symm htp)) (.inr fun c fz e => by injection e with _ e2; exact absurd e2 (by decide))
  intro e
  obtain ⟨t, cs, hb, hne⟩ := hr g' e.symm
  exact Blk.ne_ (t := 3) hh hb (Ne.symm hne) rfl
theorem DiskAt.lk {g : Nat} {D : Dk} (h : DiskAt a g D) (hk : Lk none pb a b) {tp : TypeId} {cp : Array Value} (hpb : Blk a pb tp cp) (htp : tp ≠ 3) (hg : g ≠ pb) : DiskAt b g D := by
  obtain ⟨⟨kv, hb, hr⟩, ok⟩ := h
  exact ⟨⟨kv, hk.blk hb (by simp) hg (by decide), hr.lk hk hpb htp (fun g e => by cases e)⟩, ok⟩
theorem Hand.lk (h : Hand a) (hk : Lk row pb a b) (hr : some 0 ≠ row) (hp : 0 < pb) : Hand b := by
  unfold Hand at h ⊢
  have h0 := Hand.lt h
  rw [← h]
  obtain ⟨o, ho⟩ : ∃ o, a.heap[0]? = some o := ⟨_, Array.getElem?_eq_getElem h0⟩
  exact hk.cell ho hr (by omega) (.inl hp) 0
end

/-! ### A builder keeps -/
theorem bAt_kept {T e : TypeId} {B b : Nat} {p : Value} {bs : List Value} {w w' : World} (h : Lib.BuilderAtF T e B b p bs w) (hb : ∀ k, B ≤ k → k < w.heap.size → w'.heap[k]? = w.heap[k]?) : Lib.BuilderAtF T e B b p bs w' := by
  obtain ⟨hB, v, hk, hr, hne⟩ := h
  refine ⟨hB, v, (hb b hB (Array.getElem?_eq_some_iff.1 hk).1).trans hk, ⟨hr.1, hr.2.imp id ?_⟩, hne⟩
  rintro ⟨g, cap, cur, fz, hv, h0, hg, rest⟩
  exact ⟨g, cap, cur, fz, hv, h0, (hb g h0 (Array.getElem?_eq_some_iff.1 hg).1).trans hg, rest⟩
theorem isB_kept {T e : TypeId} {B b : Nat} {bs : List Value} {w w' : World} (h : Lib.IsBuilderF T e B b bs w) (hb : ∀ k, B ≤ k → k < w.heap.size → w'.heap[k]? = w.heap[k]?) : Lib.IsBuilderF T e B b bs w' :=
  h.imp (fun h => bAt_kept h hb) (fun h => bAt_kept h hb)
theorem isB_blk {T e : TypeId} {B b : Nat} {bs : List Value} {w : World} (h : Lib.IsBuilderF T e B b bs w) : ∃ cs, Blk w b T cs := by
  rcases h with ⟨_, v, hk, _⟩ | ⟨_, v, hk, _⟩
  · exact ⟨_, hk⟩
  · exact ⟨_, hk⟩

/-! ### A journal in memory -/
def jrCells (g : Nat) (J : Jr) : Array Value := #[.pointer (some ⟨g, 0, none⟩), .int .i64 J.file, .int .i64 (J.gen : Int), .bool J.broken]
structure JrAt (w : World) (jb g : Nat) (J : Jr) : Prop where
  blk : Blk w jb 83 (jrCells g J)
  file : J.file = 0 ∨ J.file = 1
  gen : J.gen < 4294967296
theorem JrAt.cells {w : World} {jb g : Nat} {J : Jr} (h : JrAt w jb g J) : w.cell? ⟨jb, 0, none⟩ = some (.pointer (some ⟨g, 0, none⟩)) ∧ w.cell? ⟨jb, 1, none⟩ = some (.int .i64 J.file) ∧ w.cell? ⟨jb, 2, none⟩ = some (.int .i64 (J.gen : Int)) ∧ w.cell? ⟨jb, 3, none⟩ = some (.bool J.broken) :=
  ⟨h.blk.cell 0, h.blk.cell 1, h.blk.cell 2, h.blk.cell 3⟩
theorem JrAt.grown {w w' : World} {jb g : Nat} {J : Jr} {row : Option Nat} (h : JrAt w jb g J) (hb : w.grownBy w' row) (hr : some jb ≠ row) : JrAt w' jb g J := ⟨h.blk.grown hb hr, h.file, h.gen⟩
theorem JrAt.lk {a b : World} {jb g pb : Nat} {J : Jr} {row : Option Nat} (h : JrAt a jb g J) (hk : Lk row pb a b) (hr : some jb ≠ row) (hp : jb ≠ pb) : JrAt b jb g J := ⟨hk.blk h.blk hr hp (by decide), h.file, h.gen⟩
theorem JrAt.ne {w : World} {jb g : Nat} {J : Jr} {D : Dk} (h : JrAt w jb g J) (hd : DiskAt w g D) : jb ≠ g := by
  obtain ⟨⟨kv, hb, _⟩, _⟩ := hd
  exact Blk.ne_ h.blk hb (by decide)
end Go.Proofs.YtklcpckjmncdkaaGreatDoor
