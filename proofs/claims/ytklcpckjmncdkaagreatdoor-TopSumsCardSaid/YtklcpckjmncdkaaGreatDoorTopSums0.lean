/- THE WALK of the statement TopSums: what is in hand. -/
import Derived.Test.YtklcpckjmncdkaaGreatDoorKeeps
import Derived.Test.YtklcpckjmncdkaaGreatDoorSumS
import Derived.Test.YtklcpckjmncdkaaGreatDoorHas
import Derived.Test.YtklcpckjmncdkaaGreatDoorMapB
import Derived.Deep.DeepCutAuto
import Derived.StillTailTactics
namespace Go.Proofs.YtklcpckjmncdkaaGreatDoor
set_option maxRecDepth 100000
open Go.RowKit

def lenOf : Value → Nat
  | .slice _ n _ => n
  | _ => 0
section
variable {w : World}
theorem ints_two (w : World) (x : Int) (g : Nat) (hg : g < w.heap.size) : Ints ((w.alloc (.cells #[.int .i64 x, .int .i64 x] 3)).drew) g (.slice (some ⟨w.heap.size, 0, none⟩) 2 2) [x, x] := by
  have hb := (Blk.new w 3 #[.int .i64 x, .int .i64 x]).grown (only_drew (only_refl _ none)) (by simp)
  refine ⟨some ⟨w.heap.size, 0, none⟩, 2, rfl, fun j hj => ⟨w.heap.size, 0, rfl, by omega, ?_⟩⟩
  rw [Nat.zero_add]
  have : j = 0 ∨ j = 1 := by simp at hj; omega
  rcases this with rfl | rfl
  · exact hb.cell 0
  · exact hb.cell 1
theorem Adds.take {A : Option Addr} {n c : Nat} {l : List AddW} (h : Adds w (.slice A n c) l) {m : Nat} (hm : m ≤ l.length) : Adds w (.slice A m c) (l.take m) := by
  obtain ⟨A', c', hv, h1, h2, h3⟩ := h
  injection hv with e1 e2 e3
  subst e1; subst e3
  have hl : (l.take m).length = m := by rw [List.length_take]; omega
  refine ⟨A, c, by rw [hl], by omega, h2, fun j hj => ?_⟩
  obtain ⟨b, off, hA, q1, q2, q3⟩ := h3 j (by omega)
  refine ⟨b, off, hA, ?_, ?_, ?_⟩
  · rw [q1]; simp
  · rw [q2]; simp
  · rw [q3]; simp
theorem Adds.uncons {A : Option Addr} {n c : Nat} {x : AddW} {l : List AddW} (h : Adds w (.slice A n c) (x :: l)) : ∃ b off, A = some ⟨b, off, none⟩ ∧ n = l.length + 1 ∧ l.length + 1 ≤ c ∧ c ≤ maxLen ∧ w.cell? ⟨b, off, none⟩ = some (.int .u8 (x.add.toNat : Int)) ∧ w.cell? ⟨b, off + 1, none⟩ = some (.bool x.sync) ∧ w.cell? ⟨b, off + 2, none⟩ = some (.bool x.comp) ∧ Adds w (.slice (some ⟨b, off + 3, none⟩) l.length (c - 1)) l := by
  obtain ⟨A', c', hv, h1, h2, h3⟩ := h
  injection hv with e1 e2 e3
  subst e1; subst e3
  obtain ⟨b, off, hA, q1, q2, q3⟩ := h3 0 (by simp)
  rw [List.length_cons] at h1
  refine ⟨b, off, hA, e2, h1, h2, by simpa using q1, by simpa using q2, by simpa using q3, some ⟨b, off + 3, none⟩, c - 1, rfl, by omega, by omega, fun j hj => ?_⟩
  obtain ⟨b2, off2, hA2, p1, p2, p3⟩ := h3 (j + 1) (by rw [List.length_cons]; omega)
  rw [hA] at hA2
  injection hA2 with e
  injection e with e1 e2
  subst e1; subst e2
  have e0 : off + (j + 1) * 3 = off + 3 + j * 3 := by omega
  rw [e0] at p1 p2 p3
  exact ⟨b, off + 3, rfl, by simpa using p1, by simpa using p2, by simpa using p3⟩
theorem MSet.block {w' : World} {b n : Nat} {M : List Int} (h : MSet w b n M) (hb : w'.heap[b]? = w.heap[b]?) : MSet w' b n M := by
  obtain ⟨D, h1, ⟨es, clock, h2, h3⟩, h4⟩ := h
  exact ⟨D, h1, ⟨es, clock, hb.trans h2, h3⟩, h4⟩
theorem MSet.duo {w' : World} {b n g jb : Nat} {M : List Int} (h : MSet w b n M) (hd : Duo w w' g jb) (hg : b ≠ g) (hj : b ≠ jb) : MSet w' b n M := h.block (hd.block b h.lt hg hj)
theorem Duo.keep {w' : World} {g r k : Nat} {t : TypeId} {cs : Array Value} (hd : Duo w w' g r) (hb : Blk w k t cs) (hg : k ≠ g) (hr : k ≠ r) : Blk w' k t cs := (hd.block k hb.lt hg hr).trans hb
theorem MSet.far {b n k : Nat} {M : List Int} {t : TypeId} {cs : Array Value} (h : MSet w b n M) (hk : Blk w k t cs) : k ≠ b := by
  rintro rfl
  obtain ⟨D, h1, ⟨es, clock, h2, h3⟩, h4⟩ := h
  have hk' : w.heap[k]? = _ := hk
  rw [h2] at hk'
  cases hk'
theorem DiskAt.mapped {w' : World} {b n g : Nat} {M : List Int} {D : Dk} (h : DiskAt w g D) (hm : MSet w b n M) (hk : w.grownBy w' (some b)) : DiskAt w' g D := by
  obtain ⟨⟨kv, hb, hr⟩, ho⟩ := h
  have hgb := hm.far hb
  refine ⟨⟨kv, hb.grown hk (by simpa using hgb), World.ownsRow.kept hr hk ?_⟩, ho⟩
  rcases hr.2 with ⟨rfl, _⟩ | ⟨g', cap, cur, rfl, _, hh, _⟩
  · exact .inl rfl
  · refine .inr fun e => ?_
    have : g' = b := by simpa [Value.ownBlock] using e
    subst this
    exact hm.far (t := 3) (cs := cur) hh rfl
theorem valN_add (st : ByteArray) (l : List ByteArray) (b : UInt8) : valN st (l ++ [⟨#[b]⟩]) = valN st l + b.toNat := by
  unfold valN
  rw [recN_append]
  have : recN [(⟨#[b]⟩ : ByteArray)] = b.toNat := rfl
  omega
end
end Go.Proofs.YtklcpckjmncdkaaGreatDoor
