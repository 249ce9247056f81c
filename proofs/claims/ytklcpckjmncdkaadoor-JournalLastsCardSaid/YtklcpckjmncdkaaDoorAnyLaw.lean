/- PLAIN LAW of the statement JournalAny: whatever lies in the files, what a journal is opened with is opened again the same. No program in sight. -/
import Derived.Test.YtklcpckjmncdkaaDoorLaw3
import Derived.Test.YtklcpckjmncdkaaDoorCompLaw
namespace Go.Proofs.YtklcpckjmncdkaaDoor
set_option maxRecDepth 100000
open Go.RowKit

/-- How much the records take in a file. -/
def tot : List ByteArray → Nat
  | [] => 0
  | r :: l => 7 + r.size + tot l
theorem tot_append (a b : List ByteArray) : tot (a ++ b) = tot a + tot b := by
  induction a with
  | nil => simp [tot]
  | cons x a ih => simp only [List.cons_append, tot, ih]; omega
theorem tot_frs (l : List ByteArray) : (frs (l.map recB)).length = tot l := by
  induction l with
  | nil => rfl
  | cons r l ih =>
    have h1 := frame_length (recB r).data.toList
    have h2 := size_list (recB r)
    have h3 := recB_size r
    simp only [List.map_cons, frs, List.length_append, tot, ih]
    omega
theorem un_len_ok {s : ByteArray} {p : Nat} (h : (unframe s p).2.2 = 0) : (unframe s p).2.1 = p + 6 + (unframe s p).1.size ∧ (unframe s p).2.1 ≤ s.size := by
  revert h
  unfold unframe
  split
  · intro h; exact absurd h (by decide)
  split
  · intro h; exact absurd h (by decide)
  split
  · intro h; exact absurd h (by decide)
  split
  · intro h; exact absurd h (by decide)
  split
  · intro h; exact absurd h (by decide)
  · intro _
    simp only [Int.toNat_natCast, ByteArray.size_extract] at *
    omega
theorem cutPre_less {s p : ByteArray} (h : (cutPre s p).2 = true) : p.size + (cutPre s p).1.size = s.size := by
  revert h
  unfold cutPre
  split
  · rename_i hh
    intro _
    simp only [ByteArray.size_extract]
    have := hh.1
    omega
  · intro h; cases h
theorem scan_tot (s : ByteArray) : ∀ (k p : Nat) (l : List ByteArray), p ≤ s.size → tot (scan s k p l) ≤ tot l + (s.size - p) := by
  intro k
  induction k with
  | zero => intro p l _; exact Nat.le_add_right _ _
  | succ k ih =>
    intro p l hp
    unfold scan
    simp only
    have hmk : (if l.length = 0 then markS else markR).size = 1 := by split <;> rfl
    generalize (if l.length = 0 then markS else markR) = mk at *
    split
    · rename_i hh
      obtain ⟨h1, h2⟩ := un_len_ok hh.1
      have h3 := cutPre_less hh.2
      have := ih (unframe s p).2.1 (l ++ [(cutPre (unframe s p).1 mk).1]) h2
      rw [tot_append] at this
      simp only [tot] at this
      omega
    · exact Nat.le_add_right _ _
theorem fileX_tot (gen n : Nat) (s : ByteArray) (recs : List ByteArray) : (fileX gen n s recs).size = 29 + s.size + tot recs := by
  have e := headL_length gen n
  have es : (markS ++ s).data.toList.length = 1 + s.size := by rw [← size_list, markS, append1_size]
  rw [size_list, fileX_list]
  simp only [bodies, frs, List.length_append, frame_length, tot_frs]
  omega
/-- What a file holds takes no more than the file. -/
theorem jread_tot (s : ByteArray) : (jread s).gen = 0 ∧ jread s = Img.none_ ∨ 29 + (jread s).state.size + tot (jread s).recs ≤ s.size := by
  unfold jread
  simp only
  split
  · rename_i hh
    obtain ⟨h1, h2⟩ := un_len_ok (s := s) (p := 0) hh.1
    rw [show ((0 : Nat) : Int) = 0 from rfl] at h1 h2
    have hl := scan_tot s (s.size + 1) (unframe s 0).2.1 [] h2
    generalize scan s (s.size + 1) (unframe s 0).2.1 [] = l at *
    split
    · exact .inl ⟨rfl, rfl⟩
    · rename_i hc
      right
      have h16 := hh.2.1
      cases l with
      | nil => exact absurd (.inr (.inr (by simp only [List.length_nil]; omega))) hc
      | cons a l =>
        simp only [List.headD_cons, List.tail_cons, tot] at *
        omega
  · exact .inl ⟨rfl, rfl⟩

/-- A disk that is on: x is what the journal's file o holds, y the other. -/
def gd (o : Int) (x y : ByteArray) (lx ly : Nat) : Dk := if o = 0 then ⟨x, y, lx, ly, 4194304, false, 0, [], 0, false⟩ else ⟨y, x, ly, lx, 4194304, false, 0, [], 0, false⟩
theorem gd_quiet (o : Int) (x y : ByteArray) (lx ly : Nat) : Quiet (gd o x y lx ly) := by unfold gd; split <;> exact ⟨rfl, rfl, rfl, rfl⟩
theorem gd_put {o : Int} (ho : o = 0 ∨ o = 1) (x y s : ByteArray) (lx ly : Nat) : Dk.put s o (gd o x y lx ly) = gd o (x ++ s) y lx ly := by rcases ho with rfl | rfl <;> rfl
theorem gd_sync {o : Int} (ho : o = 0 ∨ o = 1) (x y : ByteArray) (lx ly : Nat) : Dk.sync o (gd o x y lx ly) = gd o x y x.size ly := by rcases ho with rfl | rfl <;> rfl
theorem gd_bytes {o : Int} (ho : o = 0 ∨ o = 1) (x y : ByteArray) (lx ly : Nat) : (gd o x y lx ly).bytes o = x ∧ (gd o x y lx ly).bytes (1 - o) = y := by rcases ho with rfl | rfl <;> exact ⟨rfl, rfl⟩
theorem gd_laid {o : Int} (ho : o = 0 ∨ o = 1) (x y F : ByteArray) (lx ly : Nat) : laid (1 - o) F (gd o x y lx ly) = gd (1 - o) F x F.size lx := by
  rcases ho with rfl | rfl
  · unfold laid gd Dk.wipe Dk.put Dk.sync
    simp only [Int.sub_zero, if_pos, if_neg (show ¬ (1 : Int) = 0 by decide), empty_append']
  · unfold laid gd Dk.wipe Dk.put Dk.sync
    simp only [Int.sub_self, if_pos, if_neg (show ¬ (1 : Int) = 0 by decide), empty_append']
theorem gd_wipe {o : Int} (ho : o = 0 ∨ o = 1) (x y : ByteArray) (lx ly : Nat) : (Dk.wipe (1 - o) (gd o x y lx ly)).b0.size + (Dk.wipe (1 - o) (gd o x y lx ly)).b1.size = x.size ∧ (gd o x y lx ly).lim = 4194304 ∧ (gd o x y lx ly).b0.size + (gd o x y lx ly).b1.size = x.size + y.size := by
  rcases ho with rfl | rfl
  · exact ⟨Nat.add_zero _, rfl, rfl⟩
  · exact ⟨Nat.zero_add _, rfl, Nat.add_comm _ _⟩
theorem gd_crash {o : Int} (ho : o = 0 ∨ o = 1) (x y : ByteArray) : (gd o x y x.size y.size).crash [] = gd o x y x.size y.size := by
  have key : ∀ a b : ByteArray, Dk.crash ⟨a, b, a.size, b.size, 4194304, false, 0, [], 0, false⟩ [] = ⟨a, b, a.size, b.size, 4194304, false, 0, [], 0, false⟩ := by
    intro a b
    unfold Dk.crash
    rw [if_neg (show ¬ false = true by decide)]
    unfold Dk.lose Dk.on Dk.cleared
    simp only [List.getD_nil, cutTo_all]
  rcases ho with rfl | rfl
  · exact key x y
  · exact key y x

/-- What is found, whatever lies there. -/
theorem jfound_any (D : Dk) : ∃ f, (f = 0 ∨ f = 1) ∧ jfound D = ((jfound D).1, ⟨f, (jfound D).1.gen, false⟩) ∧ (jread (D.bytes f)).gen ≤ (jfound D).1.gen ∧ ((jfound D).1 = Img.none_ ∨ (jfound D).1 = jread (D.bytes 0) ∨ (jfound D).1 = jread (D.bytes 1)) := by
  unfold jfound
  by_cases h0 : 0 < (jread (D.bytes 0)).gen
  · have e1 : jstep D 0 jfirst = (jread (D.bytes 0), ⟨0, (jread (D.bytes 0)).gen, false⟩) := if_pos h0
    rw [e1]
    unfold jstep
    by_cases h1 : (jread (D.bytes 0)).gen < (jread (D.bytes 1)).gen
    · rw [if_pos h1]
      exact ⟨1, .inr rfl, rfl, Nat.le_refl _, .inr (.inr rfl)⟩
    · rw [if_neg h1]
      exact ⟨0, .inl rfl, rfl, Nat.le_refl _, .inr (.inl rfl)⟩
  · have e1 : jstep D 0 jfirst = jfirst := if_neg h0
    rw [e1]
    unfold jstep jfirst
    by_cases h1 : Img.none_.gen < (jread (D.bytes 1)).gen
    · rw [if_pos h1]
      exact ⟨1, .inr rfl, rfl, Nat.le_refl _, .inr (.inr rfl)⟩
    · rw [if_neg h1]
      exact ⟨1, .inr rfl, rfl, by show _ ≤ Img.none_.gen; omega, .inl rfl⟩

/-- A file that was laid, added to or not, beside an older one. -/
structure Stands (D : Dk) (o : Int) (gen : Nat) (s : ByteArray) (recs : List ByteArray) : Prop where
  file : o = 0 ∨ o = 1
  disk : ∃ n y, D = gd o (fileX gen n s recs) y (fileX gen n s recs).size y.size ∧ 0 < n ∧ n ≤ 1 + recs.length ∧ (jread y).gen < gen ∧ y.size ≤ 200000
  pos : 0 < gen
  size : 29 + s.size + tot recs ≤ 200000
theorem tot_mem : ∀ {l : List ByteArray} {r : ByteArray}, r ∈ l → r.size ≤ tot l ∧ 0 < tot l
  | x :: l, r, h => by
    rcases List.mem_cons.1 h with rfl | h
    · simp only [tot]; omega
    · have := tot_mem h
      simp only [tot]; omega
theorem tot_len : ∀ (l : List ByteArray), l.length ≤ tot l
  | [] => Nat.zero_le _
  | x :: l => by have := tot_len l; simp only [tot, List.length_cons]; omega
/-- It is opened again the same. -/
theorem stands_open {D : Dk} {o : Int} {gen : Nat} {s : ByteArray} {recs : List ByteArray} (h : Stands D o gen s recs) (hg : gen < 2147483640) (hs : s.size ≤ 100000) (hr : ∀ r ∈ recs, r.size ≤ 100000) :
    ∃ D', jopen (D.crash []) = (0, D', ⟨1 - o, gen + 1, false⟩, ⟨gen, s, recs⟩) ∧ Stands D' (1 - o) (gen + 1) s recs := by
  obtain ⟨ho, ⟨n, y, rfl, hn0, hn, hy, hys⟩, hp, hsz⟩ := h
  have hlen := tot_len recs
  rw [gd_crash ho]
  have hX : jread (fileX gen n s recs) = ⟨gen, s, recs⟩ := jread_fileX (by omega) hp (by omega) hn0 hn (okS hs) (fun r h => okR (hr r h))
  obtain ⟨b1, b2⟩ := gd_bytes ho (fileX gen n s recs) y (fileX gen n s recs).size y.size
  have hF : Found (gd o (fileX gen n s recs) y (fileX gen n s recs).size y.size) o gen s recs := ⟨ho, by rw [b1]; exact hX, hp, by rw [b2]; exact hy⟩
  obtain ⟨w1, w2, _⟩ := gd_wipe ho (fileX gen n s recs) y (fileX gen n s recs).size y.size
  have hXs := fileX_tot gen n s recs
  have hNs : (fileB (gen + 1) s recs).size = 29 + s.size + tot recs := fileX_tot (gen + 1) recs.length.succ s recs
  have l := lay_quiet (J := ⟨o, gen, false⟩) (s := s) (recs := recs) (gd_quiet o (fileX gen n s recs) y (fileX gen n s recs).size y.size) ho (by simp only; omega) (okS hs) (fun r h => okR (hr r h)) (by
    simp only
    rw [w1, w2, hNs, hXs]; omega)
  simp only at l
  rw [gd_laid ho] at l
  have eoff : ¬ (gd o (fileX gen n s recs) y (fileX gen n s recs).size y.size).off = true := by rw [(gd_quiet _ _ _ _ _).off]; decide
  refine ⟨_, ?_, ⟨by omega, ⟨recs.length.succ, fileX gen n s recs, rfl, Nat.succ_pos _, by omega, by rw [hX]; exact Nat.lt_succ_self _, by omega⟩, Nat.succ_pos _, hsz⟩⟩
  unfold jopen
  rw [if_neg eoff, jfound_of hF]
  simp only
  rw [l]
  rfl
end Go.Proofs.YtklcpckjmncdkaaDoor
