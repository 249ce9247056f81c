/- A DISK IN MEMORY: which cells the program's disk, and the document's, lie in; that they stay where other blocks are written. -/
import Derived.Test.YtklcpckjmncdkaaGreatDoorChecked
import Derived.Test.YtklcpckjmncdkaaGreatDoorDk
import Derived.WalkKit
import Derived.WalkSpells
import Derived.Outline
import Derived.Lib.Hide
import Derived.Handy
import Derived.Deep.Draws
namespace Go.Proofs.YtklcpckjmncdkaaGreatDoor
set_option maxRecDepth 100000
open Go.RowKit

/-- Block g is just these cells. -/
def Blk (w : World) (g : Nat) (t : TypeId) (cs : Array Value) : Prop := w.heap[g]? = some (.cells cs t (0, 0))
section
variable {w w' : World} {g : Nat} {t : TypeId} {cs : Array Value}
theorem Blk.lt (h : Blk w g t cs) : g < w.heap.size := (Array.getElem?_eq_some_iff.1 h).1
theorem Blk.cell (h : Blk w g t cs) (i : Nat) : w.cell? ⟨g, i, none⟩ = cs[i]? := cell_of_row w g i cs t (0, 0) h
theorem Blk.frozen (h : Blk w g t cs) (i : Nat) : w.frozen? ⟨g, i, none⟩ = false := by
  unfold Blk at h
  simp [World.frozen?, h]
theorem Blk.new (w : World) (t : TypeId) (cs : Array Value) : Blk (w.alloc (.cells cs t)) w.heap.size t cs := heap_alloc_new w _
theorem Blk.drew (h : Blk w g t cs) : Blk w.drew g t cs := h
theorem Blk.drewN (h : Blk w g t cs) (n : Nat) : Blk (w.drewN n) g t cs := h
theorem Blk.alloc (h : Blk w g t cs) (o : Obj) : Blk (w.alloc o) g t cs := (Below.heap_alloc w o g h.lt).trans h
theorem Blk.put (h : Blk w g t cs) (i : Nat) (u : Value) : Blk (w.setCell ⟨g, i, none⟩ u) g t (cs.setIfInBounds i u) := by
  unfold Blk at h ⊢
  simp [World.setCell, Array.getElem?_modify, h]
theorem Blk.far (h : Blk w g t cs) {p : Addr} (hp : g ≠ p.block) (u : Value) : Blk (w.setCell p u) g t cs := (Below.heap_setCell w p u g hp).trans h
theorem Blk.below {B : Nat} (h : Blk w g t cs) (hb : Below B w w') (hg : g < B) : Blk w' g t cs := (hb.block g hg).trans h
theorem Blk.grown {row : Option Nat} (h : Blk w g t cs) (hb : w.grownBy w' row) (hg : some g ≠ row) : Blk w' g t cs := (hb.block g h.lt hg).trans h
theorem Blk.ne_ {g' : Nat} {t' : TypeId} {cs' : Array Value} (h : Blk w g t cs) (h' : Blk w g' t' cs') (hne : t ≠ t') : g ≠ g' := by
  rintro rfl
  unfold Blk at h h'
  rw [h] at h'
  injection h' with h'
  injection h' with _ ht
  exact hne ht
end

/-! ### Only one block, and what is new, has turned -/
section
variable {a w : World} {g : Nat}
theorem only_refl (a : World) (row : Option Nat) : a.grownBy a row := World.grownBy.refl a row
theorem only_trans {a b c : World} {row : Option Nat} (h : a.grownBy b row) (k : b.grownBy c row) : a.grownBy c row :=
  ⟨k.os.trans h.os, k.tape.trans h.tape, k.output.trans h.output, Nat.le_trans h.size k.size, fun i hi hne => (k.block i (Nat.lt_of_lt_of_le hi h.size) hne).trans (h.block i hi hne)⟩
theorem only_drew {row : Option Nat} (h : a.grownBy w row) : a.grownBy w.drew row := ⟨h.os, h.tape, h.output, h.size, h.block⟩
theorem only_drewN {row : Option Nat} (h : a.grownBy w row) (n : Nat) : a.grownBy (w.drewN n) row := ⟨h.os, h.tape, h.output, h.size, h.block⟩
theorem only_alloc {row : Option Nat} (h : a.grownBy w row) (o : Obj) : a.grownBy (w.alloc o) row :=
  ⟨h.os, h.tape, h.output, Nat.le_trans h.size (by simp), fun i hi hne => (Below.heap_alloc w o i (Nat.lt_of_lt_of_le hi h.size)).trans (h.block i hi hne)⟩
theorem only_put (h : a.grownBy w (some g)) (i : Nat) (u : Value) : a.grownBy (w.setCell ⟨g, i, none⟩ u) (some g) :=
  ⟨h.os, h.tape, h.output, by simpa [World.setCell] using h.size, fun j hj hne => (Below.heap_setCell w ⟨g, i, none⟩ u j (fun e => hne (by rw [e]))).trans (h.block j hj hne)⟩
theorem only_new {row : Option Nat} (h : a.grownBy w row) {p : Addr} (hp : a.heap.size ≤ p.block) (u : Value) : a.grownBy (w.setCell p u) row :=
  ⟨h.os, h.tape, h.output, by simpa [World.setCell] using h.size, fun j hj hne => (Below.heap_setCell w p u j (by omega)).trans (h.block j hj hne)⟩
theorem only_below (h : Below a.heap.size a w) (row : Option Nat) : a.grownBy w row := ⟨h.os, h.tape, h.output, h.size, fun i hi _ => h.block i hi⟩
theorem only_own {a b c : World} {g : Nat} {row : Option Nat} (h : a.grownBy b (some g)) (k : b.grownBy c row) (hr : ∀ k, row = some k → k = g ∨ a.heap.size ≤ k) : a.grownBy c (some g) :=
  ⟨k.os.trans h.os, k.tape.trans h.tape, k.output.trans h.output, Nat.le_trans h.size k.size, fun i hi hne => (k.block i (Nat.lt_of_lt_of_le hi h.size) (fun e => by
    rcases hr i e.symm with rfl | hh
    · exact hne rfl
    · omega)).trans (h.block i hi hne)⟩
theorem below_of_only {B : Nat} (h : a.grownBy w (some g)) (hB : B ≤ a.heap.size) (hg : B ≤ g) : Below B a w := ⟨h.os, h.tape, h.output, h.size, fun i hi => h.block i (by omega) (fun e => by injection e; omega)⟩
end

/-- A slice of ints, in a block of its own (or none). -/
def IntRow (w : World) (v : Value) (l : List Int) : Prop := w.ownsRow 0 3 1 v l.length (l.map (Value.int .i64))
theorem IntRow.nil (w : World) : IntRow w (.slice none 0 0) [] := World.ownsRow_nil _ _ _ _
theorem IntRow.far {w w' : World} {v : Value} {l : List Int} (h : IntRow w v l) {g : Nat} {t : TypeId} {cs : Array Value} (hg : Blk w g t cs) (ht : t ≠ 3) (hb : w.grownBy w' (some g)) : IntRow w' v l := by
  refine World.ownsRow.kept h hb ?_
  rcases h.2 with ⟨rfl, _⟩ | ⟨g', cap, cur, rfl, _, hh, _⟩
  · exact .inl rfl
  · refine .inr fun e => ?_
    have : g' = g := by simpa [Value.ownBlock] using e
    subst this
    exact Blk.ne_ (t := 3) hh hg (Ne.symm ht) rfl
theorem IntRow.grown {w w' : World} {v : Value} {l : List Int} (h : IntRow w v l) (hb : w.grownBy w' none) : IntRow w' v l :=
  World.ownsRow.kept h hb (by cases hv : v.ownBlock <;> simp)

/-- A slice that reads as these ints, none of them in block g. -/
def Ints (w : World) (g : Nat) (v : Value) (l : List Int) : Prop :=
  ∃ A c, v = .slice A l.length c ∧ ∀ j (h : j < l.length), ∃ b off, A = some ⟨b, off, none⟩ ∧ b ≠ g ∧ w.cell? ⟨b, off + j, none⟩ = some (.int .i64 l[j])
theorem Ints.kept {w w' : World} {g : Nat} {v : Value} {l : List Int} (h : Ints w g v l) (hb : w.grownBy w' (some g)) : Ints w' g v l := by
  obtain ⟨A, c, rfl, hc⟩ := h
  refine ⟨A, c, rfl, fun j hj => ?_⟩
  obtain ⟨b, off, hA, hne, hcell⟩ := hc j hj
  exact ⟨b, off, hA, hne, hb.cell hcell (by simpa using hne)⟩
theorem IntRow.ints {w : World} {v : Value} {l : List Int} (h : IntRow w v l) {g : Nat} {t : TypeId} {cs : Array Value} (hg : Blk w g t cs) (ht : t ≠ 3) : Ints w g v l := by
  have h' := h
  rcases h.2 with ⟨rfl, h0⟩ | ⟨g', cap, cur, rfl, _, hh, _⟩
  · exact ⟨none, 0, by rw [h0], fun j hj => by omega⟩
  · refine ⟨some ⟨g', 0, none⟩, cap, rfl, fun j hj => ⟨g', 0, rfl, Blk.ne_ (t := 3) hh hg (Ne.symm ht), ?_⟩⟩
    have := World.ownsRow.cells h' (g := g') rfl j (.int .i64 l[j]) (by rw [List.getElem?_map, List.getElem?_eq_getElem hj]; rfl)
    have e : (⟨g', 0, none⟩ : Addr).add j = ⟨g', 0 + j, none⟩ := by unfold Addr.add; split <;> simp_all
    rwa [e] at this

/-- The program's disk. -/
def dkCells (D : Dk) (kv : Value) : Array Value :=
  #[.string D.b0, .int .i64 (D.l0 : Int), .string D.b1, .int .i64 (D.l1 : Int), .int .i64 (D.lim : Int), .bool D.off, .int .i64 (D.cut : Int), kv, .int .i64 (D.brk : Int), .bool D.full]
structure DiskAt (w : World) (g : Nat) (D : Dk) : Prop where
  at_ : ∃ kv, Blk w g 79 (dkCells D kv) ∧ IntRow w kv D.keep
  ok : D.Ok
theorem DiskAt.lt {w : World} {g : Nat} {D : Dk} (h : DiskAt w g D) : g < w.heap.size := by obtain ⟨⟨_, hb, _⟩, _⟩ := h; exact hb.lt
theorem DiskAt.far {w w' : World} {g : Nat} {D : Dk} (h : DiskAt w g D) {g' : Nat} {t : TypeId} {cs : Array Value} (hg : Blk w g' t cs) (ht : t ≠ 3) (hne : g ≠ g') (hb : w.grownBy w' (some g')) : DiskAt w' g D := by
  obtain ⟨⟨kv, hk, hr⟩, ho⟩ := h
  exact ⟨⟨kv, hk.grown hb (by simpa using hne), hr.far hg ht hb⟩, ho⟩
theorem DiskAt.grown {w w' : World} {g : Nat} {D : Dk} (h : DiskAt w g D) (hb : w.grownBy w' none) : DiskAt w' g D := by
  obtain ⟨⟨kv, hk, hr⟩, ho⟩ := h
  exact ⟨⟨kv, hk.grown hb (by simp), hr.grown hb⟩, ho⟩
end Go.Proofs.YtklcpckjmncdkaaGreatDoor
