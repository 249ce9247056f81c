/- THE WALK of the journal's Open. -/
import Derived.Test.YtklcpckjmncdkaaGreatDoorOps2
namespace Go.Proofs.YtklcpckjmncdkaaGreatDoor
set_option maxRecDepth 100000
open Go.RowKit

theorem cutPre_size (s p : ByteArray) : (cutPre s p).1.size ≤ s.size := by
  unfold cutPre
  split
  · simp only [ByteArray.size_extract]; omega
  · exact Nat.le_refl _
theorem scan_len (s : ByteArray) : ∀ (k p : Nat) (l : List ByteArray), (scan s k p l).length ≤ l.length + k := by
  intro k
  induction k with
  | zero => intro p l; exact Nat.le_refl _
  | succ k ih =>
    intro p l
    unfold scan
    simp only
    generalize (if l.length = 0 then markS else markR) = mk
    split
    · have := ih (unframe s p).2.1 (l ++ [(cutPre (unframe s p).1 mk).1])
      simp only [List.length_append, List.length_cons, List.length_nil] at this
      omega
    · omega
theorem scan_mem (s : ByteArray) : ∀ (k p : Nat) (l : List ByteArray), (∀ r ∈ l, r.size ≤ s.size) → ∀ r ∈ scan s k p l, r.size ≤ s.size := by
  intro k
  induction k with
  | zero => intro p l h; exact h
  | succ k ih =>
    intro p l h
    unfold scan
    simp only
    generalize (if l.length = 0 then markS else markR) = mk
    split
    · refine ih _ _ ?_
      intro r hr
      rw [List.mem_append] at hr
      rcases hr with hr | hr
      · exact h r hr
      · simp only [List.mem_singleton] at hr
        subst hr
        exact Nat.le_trans (cutPre_size _ _) (un_size s p)
    · exact h
/-- What holds of what a file holds. -/
structure Img.Fit (I : Img) (n : Nat) : Prop where
  gen : I.gen < 4294967296
  state : I.state.size ≤ n
  len : I.recs.length ≤ n
  recs : ∀ r ∈ I.recs, r.size ≤ n
theorem Img.none_fit (n : Nat) : Img.none_.Fit n := ⟨by decide, Nat.zero_le _, Nat.zero_le _, fun r h => by simp [Img.none_] at h⟩
theorem jread_fit (s : ByteArray) : (jread s).Fit s.size := by
  unfold jread
  simp only
  split
  · split
    · exact Img.none_fit _
    · have h1 := scan_len s (s.size + 1) (unframe s 0).2.1 []
      have h2 := scan_mem s (s.size + 1) (unframe s 0).2.1 [] (by simp)
      generalize scan s (s.size + 1) (unframe s 0).2.1 [] = l at *
      refine ⟨numAt_lt4 _ _ 4 (by decide), ?_, ?_, fun r hr => h2 r (List.mem_of_mem_tail hr)⟩
      · cases l with
        | nil => exact Nat.zero_le _
        | cons a l => exact h2 a (by simp)
      · simp only [List.length_nil] at h1
        simp only [List.length_tail]
        omega
  · exact Img.none_fit _

def jstep (D : Dk) (i : Int) (p : Img × Jr) : Img × Jr := if p.1.gen < (jread (D.bytes i)).gen then (jread (D.bytes i), { file := i, gen := (jread (D.bytes i)).gen, broken := false }) else p
def jfirst : Img × Jr := (Img.none_, ⟨1, 0, false⟩)
def jfound (D : Dk) : Img × Jr := jstep D 1 (jstep D 0 jfirst)
def jopen (D : Dk) : Nat × Dk × Jr × Img :=
  if D.off = true then (240, D, ⟨1, 0, false⟩, Img.none_)
  else ((jlay D (jfound D).2 (jfound D).1.state (jfound D).1.recs).1, (jlay D (jfound D).2 (jfound D).1.state (jfound D).1.recs).2.1, (jlay D (jfound D).2 (jfound D).1.state (jfound D).1.recs).2.2, (jfound D).1)

def IsOpen (r : Nat × Dk × Jr × Img) (g : Nat) (w : World) (e : Ending) (w' : World) : Prop :=
  DiskAt w' g r.2.1 ∧ w.grownBy w' (some g) ∧
  ((r.1 = 0 ∧ ∃ jb v, e = .returned (.tuple #[.pointer (some ⟨jb, 0, none⟩), .string r.2.2.2.state, v, .nilIface]) ∧ w.heap.size ≤ jb ∧ JrAt w' jb g r.2.2.1 ∧ StrsAt w' w.heap.size v r.2.2.2.recs) ∨
   (r.1 ≠ 0 ∧ ∃ v, e = .returned (.tuple #[.pointer none, .string ⟨#[]⟩, .slice none 0 0, v]) ∧ IsErr w' v r.1))

theorem StrsAt.mono {w : World} {B B' : Nat} {v : Value} {l : List ByteArray} (h : StrsAt w B v l) (hB : B' ≤ B) : StrsAt w B' v l := by
  obtain ⟨A, c, hv, h1, h2, h3⟩ := h
  refine ⟨A, c, hv, h1, h2, fun hc => ?_⟩
  obtain ⟨b, off, cs, hA, hb, rest⟩ := h3 hc
  exact ⟨b, off, cs, hA, Nat.le_trans hB hb, rest⟩
theorem StrsAt.duo {w w' : World} {B g jb : Nat} {v : Value} {l : List ByteArray} (h : StrsAt w B v l) (hd : Duo w w' g jb) {t1 t2 : TypeId} {c1 c2 : Array Value} (h1 : Blk w g t1 c1) (h2 : Blk w jb t2 c2) (n1 : t1 ≠ 9) (n2 : t2 ≠ 9) : StrsAt w' B v l :=
  h.kept fun b _ _ hb => (hd.block b hb.lt (Blk.ne_ hb h1 (Ne.symm n1)) (Blk.ne_ hb h2 (Ne.symm n2))).trans hb
theorem StrsAt.put {w : World} {B b : Nat} {t : TypeId} {cs : Array Value} {v : Value} {l : List ByteArray} (h : StrsAt w B v l) (hb : Blk w b t cs) (ht : t ≠ 9) (i : Nat) (u : Value) : StrsAt (w.setCell ⟨b, i, none⟩ u) B v l :=
  h.kept fun _ _ _ hk => hk.far (Blk.ne_ hk hb (Ne.symm ht)) u

section
variable {w : World} {g : Nat} {D : Dk}
set_option maxHeartbeats 800000 in
theorem open_nil (hH : Hand w) : Calls Tryz.prog 9 #[.pointer none] w fun e w' => ∃ v, e = .returned (.tuple #[.pointer none, .string ⟨#[]⟩, .slice none 0 0, v]) ∧ IsErr w' v 128 ∧ w.grownBy w' none := by
  have hF : ∀ W, Hand W → Calls Tryz.prog 35 #[.string ⟨#[111, 112, 101, 110]⟩, .int .u8 128] W fun e w' => ∃ v, e = .returned v ∧ IsErr w' v 128 ∧ W.grownBy w' none := fun W hW => failed_any (c := 128) ⟨#[111, 112, 101, 110]⟩ hW
  have HF := Lib.hid hF
  clear hF
  go_enter Tryz.func9, Tryz.ntmps9
  go_wp2_with fail
  refine (HF.out _ hH).mono ?_
  rintro e w1 ⟨v1, rfl, he, hg1⟩
  go_wp2_with fail
  refine bodyPost_ret (by simp [results, Tryz.results9, go_sem]; try rfl) rfl ?_
  exact ⟨v1, rfl, he, hg1⟩
end
end Go.Proofs.YtklcpckjmncdkaaGreatDoor
