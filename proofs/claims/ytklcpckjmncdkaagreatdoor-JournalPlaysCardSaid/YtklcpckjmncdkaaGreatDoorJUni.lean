/- Open, both of them, in one form. -/
import Derived.Test.YtklcpckjmncdkaaGreatDoorJKeep
namespace Go.Proofs.YtklcpckjmncdkaaGreatDoor
set_option maxRecDepth 100000
open Go.RowKit

def oSt (R : Nat × Dk × Jr × Img) : ByteArray := if R.1 = 0 then R.2.2.2.state else ⟨#[]⟩
def oRec (R : Nat × Dk × Jr × Img) : List ByteArray := if R.1 = 0 then R.2.2.2.recs else []
theorem jstep_fit {D : Dk} (h : D.Ok) (i : Int) {p : Img × Jr} (hp : p.1.Fit 16777216) : (jstep D i p).1.Fit 16777216 := by
  unfold jstep
  split
  · exact (jread_fit _).mono (Dk.bytes_size h i)
  · exact hp
theorem jopen_fit {D : Dk} (h : D.Ok) : (jopen D).2.2.2.Fit 16777216 := by
  unfold jopen
  split
  · exact Img.none_fit _
  · exact jstep_fit h 1 (jstep_fit h 0 (Img.none_fit _))
theorem oRec_len {D : Dk} (h : D.Ok) : (oRec (jopen D)).length ≤ 100000000 := by
  unfold oRec
  split
  · have := (jopen_fit h).len; omega
  · exact Nat.zero_le _
section
variable {w : World} {g r : Nat} {D : Dk}
/-- Which journal an opening hands back. -/
def OJ (R : Nat × Dk × Jr × Img) (w w' : World) (g : Nat) (jv : Value) : Prop :=
  (jv = .pointer none ∧ R.1 ≠ 0) ∨ ∃ jb, jv = .pointer (some ⟨jb, 0, none⟩) ∧ R.1 = 0 ∧ w.heap.size ≤ jb ∧ JrAt w' jb g R.2.2.1
def OK_ (R : Nat × Dk × Jr × Img) (w w' : World) (r : Nat) (kv : Value) : Prop :=
  (kv = .pointer none ∧ R.1 ≠ 0) ∨ ∃ kb, kv = .pointer (some ⟨kb, 0, none⟩) ∧ R.1 = 0 ∧ w.heap.size ≤ kb ∧ RJrAt w' kb r R.2.2.1
theorem open_uni (hH : Hand w) (hg0 : 0 < g) (h : DiskAt w g D) : Calls Tryz.prog 9 #[.pointer (some ⟨g, 0, none⟩)] w fun e w' =>
    ∃ jv lv ev, e = .returned (.tuple #[jv, .string (oSt (jopen D)), lv, ev]) ∧ IsErr w' ev (jopen D).1 ∧ StrsAt w' 0 lv (oRec (jopen D)) ∧ DiskAt w' g (jopen D).2.1 ∧ w.grownBy w' (some g) ∧ OJ (jopen D) w w' g jv := by
  refine (open_any hH hg0 h).mono fun e w' => ?_
  generalize jopen D = R
  rintro ⟨hd, hg, ⟨h0, jb, v, rfl, hjb, hj, hs⟩ | ⟨h0, v, rfl, he⟩⟩
  · refine ⟨_, v, .nilIface, by rw [show oSt R = R.2.2.2.state from if_pos h0], .inl ⟨h0, rfl⟩, ?_, hd, hg, .inr ⟨jb, rfl, h0, hjb, hj⟩⟩
    rw [show oRec R = R.2.2.2.recs from if_pos h0]
    exact hs.mono (Nat.zero_le _)
  · refine ⟨_, .slice none 0 0, v, by rw [show oSt R = ⟨#[]⟩ from if_neg h0], he, ?_, hd, hg, .inl ⟨rfl, h0⟩⟩
    rw [show oRec R = [] from if_neg h0]
    exact StrsAt.nil _ _
theorem ropen_uni (h : RDiskAt w r D) : Calls Tryz.prog 21 #[.pointer (some ⟨r, 0, none⟩)] w fun e w' =>
    ∃ kv lv, e = .returned (.tuple #[kv, .string (oSt (jopen D)), lv, .int .i64 ((jopen D).1 : Int)]) ∧ StrsAt w' 0 lv (oRec (jopen D)) ∧ RDiskAt w' r (jopen D).2.1 ∧ w.grownBy w' (some r) ∧ OK_ (jopen D) w w' r kv := by
  refine (ropen_any h).mono fun e w' => ?_
  generalize jopen D = R
  rintro ⟨hd, hg, ⟨h0, jb, v, rfl, hjb, hj, hs⟩ | ⟨h0, rfl⟩⟩
  · refine ⟨_, v, by rw [show oSt R = R.2.2.2.state from if_pos h0, h0]; rfl, ?_, hd, hg, .inr ⟨jb, rfl, h0, hjb, hj⟩⟩
    rw [show oRec R = R.2.2.2.recs from if_pos h0]
    exact hs.mono (Nat.zero_le _)
  · refine ⟨_, .slice none 0 0, by rw [show oSt R = ⟨#[]⟩ from if_neg h0], ?_, hd, hg, .inl ⟨rfl, h0⟩⟩
    rw [show oRec R = [] from if_neg h0]
    exact StrsAt.nil _ _
end
/-- A slice of texts stands where another kind of block turns. -/
theorem StrsAt.row {w w' : World} {B k : Nat} {v : Value} {l : List ByteArray} {t : TypeId} {cs : Array Value} (h : StrsAt w B v l) (hk : Blk w k t cs) (ht : t ≠ 9) (hg : w.grownBy w' (some k)) : StrsAt w' B v l :=
  h.kept fun _ _ _ hb => hb.grown hg (by simpa using Blk.ne_ hb hk (Ne.symm ht))
theorem IsErr.row {w w' : World} {k c : Nat} {v : Value} {t : TypeId} {cs : Array Value} (h : IsErr w v c) (hk : Blk w k t cs) (ht : t ≠ 155) (hg : w.grownBy w' (some k)) : IsErr w' v c := by
  rcases h with h | ⟨h0, p, hv, hf⟩
  · exact .inl h
  · obtain ⟨wh, ca, hb⟩ := hf
    exact .inr ⟨h0, p, hv, ⟨wh, ca, hb.grown hg (by simpa using Blk.ne_ hb hk (Ne.symm ht))⟩⟩
theorem IsErr.duo {w w' : World} {a b c : Nat} {v : Value} {t1 t2 : TypeId} {c1 c2 : Array Value} (h : IsErr w v c) (hd : Duo w w' a b) (h1 : Blk w a t1 c1) (h2 : Blk w b t2 c2) (n1 : t1 ≠ 155) (n2 : t2 ≠ 155) : IsErr w' v c := by
  rcases h with h | ⟨h0, p, hv, hf⟩
  · exact .inl h
  · obtain ⟨wh, ca, hb⟩ := hf
    exact .inr ⟨h0, p, hv, ⟨wh, ca, hd.keepBlk hb (Blk.ne_ hb h1 (Ne.symm n1)) (Blk.ne_ hb h2 (Ne.symm n2))⟩⟩
theorem JK.of_open {w0 wa wb wc : World} {g r : Nat} {D : Dk} {R : Nat × Dk × Jr × Img} {jv kv : Value} (hj : OJ R wa wb g jv) (hk : OK_ R wb wc r kv) (hg : wb.grownBy wc (some r)) (ha : w0.heap.size ≤ wa.heap.size) (hb : w0.heap.size ≤ wb.heap.size) (hr : RDiskAt wb r D) : JK w0 wc g r jv kv := by
  obtain ⟨cr, hrb⟩ := hr.blk
  rcases hj with ⟨rfl, h0⟩ | ⟨jb, rfl, h0, hjb, hj⟩
  · rcases hk with ⟨rfl, _⟩ | ⟨kb, rfl, h0', _⟩
    · exact .inl ⟨rfl, rfl⟩
    · exact absurd h0' h0
  · rcases hk with ⟨rfl, h0'⟩ | ⟨kb, rfl, _, hkb, hk⟩
    · exact absurd h0 h0'
    · exact .inr ⟨jb, kb, _, rfl, rfl, by omega, by omega, hj.grown hg (by simpa using Blk.ne_ hj.blk hrb (by decide)), hk⟩
end Go.Proofs.YtklcpckjmncdkaaGreatDoor
