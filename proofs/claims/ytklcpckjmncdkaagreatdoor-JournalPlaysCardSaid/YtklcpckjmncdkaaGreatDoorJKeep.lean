/- WHAT STAYS, where one of the two disks and its journal turn. -/
import Derived.Test.YtklcpckjmncdkaaGreatDoorSteps
import Derived.Test.YtklcpckjmncdkaaGreatDoorNilW
import Derived.Test.YtklcpckjmncdkaaGreatDoorWk
namespace Go.Proofs.YtklcpckjmncdkaaGreatDoor
set_option maxRecDepth 100000
open Go.RowKit

theorem Duo.keepBlk {w w' : World} {a b k : Nat} {t : TypeId} {cs : Array Value} (h : Duo w w' a b) (hk : Blk w k t cs) (h1 : k ≠ a) (h2 : k ≠ b) : Blk w' k t cs := (h.block k hk.lt h1 h2).trans hk
theorem IntRow.duo {w w' : World} {a b : Nat} {v : Value} {l : List Int} (h : IntRow w v l) (hd : Duo w w' a b) {t1 t2 : TypeId} {c1 c2 : Array Value} (h1 : Blk w a t1 c1) (h2 : Blk w b t2 c2) (n1 : t1 ≠ 3) (n2 : t2 ≠ 3) : IntRow w' v l := by
  refine ⟨h.1, h.2.imp id ?_⟩
  rintro ⟨g', cap, cur, rfl, h0, hh, rest⟩
  exact ⟨g', cap, cur, rfl, h0, hd.keepBlk (t := 3) hh (Blk.ne_ (t := 3) hh h1 (Ne.symm n1)) (Blk.ne_ (t := 3) hh h2 (Ne.symm n2)), rest⟩
section
variable {w w1 w2 : World} {g r jb kb : Nat} {D D' E : Dk} {J J' : Jr}
/-- The document's disk and journal have turned: the program's stand. -/
theorem stand_prog (hd : DiskAt w g D) (hr : RDiskAt w r E) (hk : RJrAt w kb r J) (u : Duo w w1 r kb) : DiskAt w1 g D := by
  obtain ⟨⟨kv, hb, hi⟩, ok⟩ := hd
  obtain ⟨cr, hrb⟩ := hr.blk
  exact ⟨⟨kv, u.keepBlk hb (Blk.ne_ hb hrb (by decide)) (Blk.ne_ hb hk.blk (by decide)), hi.duo u hrb hk.blk (by decide) (by decide)⟩, ok⟩
theorem stand_jr (hj : JrAt w jb g J') (hr : RDiskAt w r E) (hk : RJrAt w kb r J) (u : Duo w w1 r kb) : JrAt w1 jb g J' := by
  obtain ⟨cr, hrb⟩ := hr.blk
  exact ⟨u.keepBlk hj.blk (Blk.ne_ hj.blk hrb (by decide)) (Blk.ne_ hj.blk hk.blk (by decide)), hj.file, hj.gen⟩
/-- The program's have turned: the document's stand. -/
theorem stand_ref (hr : RDiskAt w r E) (hd : DiskAt w g D) (hj : JrAt w jb g J) (u : Duo w w1 g jb) : RDiskAt w1 r E := by
  obtain ⟨⟨kv, hb, hi⟩, ok⟩ := hr
  obtain ⟨cd, hdb⟩ := hd.blk
  exact ⟨⟨kv, u.keepBlk hb (Blk.ne_ hb hdb (by decide)) (Blk.ne_ hb hj.blk (by decide)), hi.duo u hdb hj.blk (by decide) (by decide)⟩, ok⟩
theorem stand_rjr (hk : RJrAt w kb r J') (hd : DiskAt w g D) (hj : JrAt w jb g J) (u : Duo w w1 g jb) : RJrAt w1 kb r J' := by
  obtain ⟨cd, hdb⟩ := hd.blk
  exact ⟨u.keepBlk hk.blk (Blk.ne_ hk.blk hdb (by decide)) (Blk.ne_ hk.blk hj.blk (by decide)), hk.file, hk.gen⟩

/-- Both journals, or neither. -/
def JK (w0 w : World) (g r : Nat) (jv kv : Value) : Prop :=
  (jv = .pointer none ∧ kv = .pointer none) ∨ ∃ jb kb J, jv = .pointer (some ⟨jb, 0, none⟩) ∧ kv = .pointer (some ⟨kb, 0, none⟩) ∧ w0.heap.size ≤ jb ∧ w0.heap.size ≤ kb ∧ JrAt w jb g J ∧ RJrAt w kb r J
theorem JK.grown {w0 w w' : World} {g r : Nat} {jv kv : Value} (h : JK w0 w g r jv kv) (hg : w.grownBy w' none) : JK w0 w' g r jv kv := by
  rcases h with h | ⟨jb, kb, J, h1, h2, h3, h4, h5, h6⟩
  · exact .inl h
  · exact .inr ⟨jb, kb, J, h1, h2, h3, h4, h5.grown hg (by simp), h6.grown hg (by simp)⟩
theorem JK.two {w0 w w' : World} {g r : Nat} {D E : Dk} {jv kv : Value} (h : JK w0 w g r jv kv) (hd : DiskAt w g D) (hr : RDiskAt w r E) (u : Two w w' g r) : JK w0 w' g r jv kv := by
  obtain ⟨cd, hdb⟩ := hd.blk
  obtain ⟨cr, hrb⟩ := hr.blk
  have keep : ∀ {k : Nat} {t : TypeId} {cs : Array Value}, Blk w k t cs → t ≠ 79 → t ≠ 95 → Blk w' k t cs := fun hk n1 n2 => (u.block _ hk.lt (Blk.ne_ hk hdb n1) (Blk.ne_ hk hrb n2)).trans hk
  rcases h with h | ⟨jb, kb, J, h1, h2, h3, h4, h5, h6⟩
  · exact .inl h
  · exact .inr ⟨jb, kb, J, h1, h2, h3, h4, ⟨keep h5.blk (by decide) (by decide), h5.file, h5.gen⟩, ⟨keep h6.blk (by decide) (by decide), h6.file, h6.gen⟩⟩
theorem grown_two {w0 : World} (h : w0.grownBy w none) (u : Two w w1 g r) (hg : w0.heap.size ≤ g) (hr : w0.heap.size ≤ r) : w0.grownBy w1 none :=
  ⟨u.os.trans h.os, u.tape.trans h.tape, u.output.trans h.output, Nat.le_trans h.size u.size, fun i hi _ => (u.block i (Nat.lt_of_lt_of_le hi h.size) (by omega) (by omega)).trans (h.block i hi (by simp))⟩
end
end Go.Proofs.YtklcpckjmncdkaaGreatDoor
