/- PLAIN LAWS: of a file that was cut short nothing is read; which file is found; a disk that was lost. No program in sight. -/
import Derived.Test.YtklcpckjmncdkaaGreatDoorLaw2
namespace Go.Proofs.YtklcpckjmncdkaaGreatDoor
set_option maxRecDepth 100000
open Go.RowKit

/-- A disk whose file f holds what is to be found. -/
structure Found (D : Dk) (f : Int) (gen : Nat) (s : ByteArray) (recs : List ByteArray) : Prop where
  file : f = 0 ∨ f = 1
  read : jread (D.bytes f) = ⟨gen, s, recs⟩
  pos : 0 < gen
  other : (jread (D.bytes (1 - f))).gen < gen
theorem jfound_of {D : Dk} {f : Int} {gen : Nat} {s : ByteArray} {recs : List ByteArray} (h : Found D f gen s recs) : jfound D = (⟨gen, s, recs⟩, ⟨f, gen, false⟩) := by
  obtain ⟨hf, hr, hp, ho⟩ := h
  unfold jfound
  rcases hf with rfl | rfl
  · have e1 : jstep D 0 jfirst = (⟨gen, s, recs⟩, ⟨0, gen, false⟩) := by
      unfold jstep jfirst
      rw [hr]
      exact if_pos hp
    rw [e1]
    unfold jstep
    rw [show (1 : Int) - 0 = 1 from rfl] at ho
    exact if_neg (by simp only; omega)
  · rw [show (1 : Int) - 1 = 0 from rfl] at ho
    have e1 : (jstep D 0 jfirst).1.gen < gen := by
      unfold jstep jfirst
      split
      · exact ho
      · exact hp
    generalize jstep D 0 jfirst = p at *
    unfold jstep
    rw [hr]
    exact if_pos e1

theorem split_frs : ∀ (l : List ByteArray) (t u : List UInt8), frs l = t ++ u → u ≠ [] → ∃ l1 b l2 t' u', l = l1 ++ b :: l2 ∧ t = frs l1 ++ t' ∧ frame b.data.toList = t' ++ u' ∧ u' ≠ [] := by
  intro l
  induction l with
  | nil =>
    intro t u h hu
    simp only [frs] at h
    exact absurd (List.append_eq_nil_iff.1 h.symm).2 hu
  | cons b l ih =>
    intro t u h hu
    simp only [frs] at h
    rcases List.append_eq_append_iff.1 h with ⟨x, hx, hy⟩ | ⟨x, hx, hy⟩
    · obtain ⟨l1, b', l2, t', u', e1, e2, e3, e4⟩ := ih x u hy hu
      exact ⟨b :: l1, b', l2, t', u', by rw [e1]; rfl, by rw [hx, e2]; simp [frs], e3, e4⟩
    · by_cases h0 : x = []
      · subst h0
        simp only [List.append_nil, List.nil_append] at hx hy
        obtain ⟨l1, b', l2, t', u', e1, e2, e3, e4⟩ := ih [] u (by rw [hy]; rfl) hu
        exact ⟨b :: l1, b', l2, t', u', by rw [e1]; rfl, by simp only [frs, List.append_assoc, ← e2, List.append_nil]; exact hx.symm, e3, e4⟩
      · exact ⟨[], b, l, t, x, rfl, rfl, hx, h0⟩
/-- Of a file that was cut short nothing is read. -/
theorem jread_torn {f : ByteArray} {gen n : Nat} {s : ByteArray} {recs : List ByteArray} {u : List UInt8} (h : frs (bodies gen n s recs) = f.data.toList ++ u) (hu : u ≠ []) (hg : gen < 4294967296) (hn : n < 4294967296) (hnr : 1 + recs.length ≤ n)
    (hs : OkB (markS ++ s)) (hr : ∀ r ∈ recs, OkB (recB r)) : jread f = Img.none_ := by
  obtain ⟨l1, b, l2, t', u', e1, e2, e3, e4⟩ := split_frs _ _ _ h hu
  have hok : ∀ x ∈ bodies gen n s recs, OkB x := by
    intro x hx
    simp only [bodies, List.mem_cons, List.mem_map] at hx
    rcases hx with rfl | rfl | ⟨r, hr', rfl⟩
    · exact headB_ok _ _
    · exact hs
    · exact hr r hr'
  have hb : OkB b := hok b (by rw [e1]; simp)
  have htorn := fun (p : Nat) (hp : p = (frs l1).length) => un_torn (s := f) e2 e3 e4 hb hp
  match l1, e1, e2, htorn with
  | [], _, _, htorn =>
    have h0 := htorn 0 rfl
    unfold jread
    simp only
    rw [if_neg]
    intro hh
    have : (unframe f 0).2.2 = 242 := h0
    omega
  | [x], e1, e2, htorn =>
    obtain rfl : x = ⟨(headL gen n).toArray⟩ := by
      simp only [bodies, List.cons_append, List.nil_append, List.cons.injEq] at e1
      exact e1.1.symm
    generalize hhb : (⟨(headL gen n).toArray⟩ : ByteArray) = hd at *
    have hdok : OkB hd := hhb ▸ headB_ok gen n
    have hdd : hd.data.toList = headL gen n := by rw [← hhb]
    have hds : hd.size = 16 := by rw [size_list, hdd, headL_length]
    have hfl := frame_length hd.data.toList
    have hds2 := size_list hd
    have u0 := un_at (s := f) (b := hd) (pre := []) (post := t') (by rw [e2]; simp [frs]) hdok (p := 0) rfl
    have u0' : unframe f 0 = (hd, 22, 0) := by
      have := u0
      rw [hds] at this
      exact this
    have u1 := htorn 22 (by simp only [frs, List.append_nil]; omega)
    have n4 : numAt hd 12 4 = n := by
      rw [numAt_at (s := hd) (pre := magicL ++ be 4 gen) (x := be 4 n) (post := []) (by rw [hdd, headL]; simp) (by rw [List.length_append, be_length]; rfl) (be_length _ _), ub_be 4 n (by omega)]
    have hsc : scan f (f.size + 1) 22 [] = [] := scan_stop (by rw [u1]; omega) _ _
    unfold jread
    simp only [u0']
    split
    · rw [hsc, n4, if_pos (by simp only [List.length_nil]; omega)]
    · rfl
  | x :: y :: rest, e1, e2, htorn =>
    simp only [bodies, List.cons_append, List.cons.injEq] at e1
    obtain ⟨rfl, rfl, e1⟩ := e1
    obtain ⟨r1, r2, hrr, hr1, _⟩ := List.map_eq_append_iff.1 e1
    subst hr1
    have hlen : r1.length < recs.length := by
      have := congrArg List.length e1
      simp only [List.length_map, List.length_append, List.length_cons] at this
      omega
    have hb1 : (⟨(headL gen n).toArray⟩ : ByteArray) :: (markS ++ s) :: r1.map recB = bodies gen n s r1 := rfl
    rw [hb1] at e2 htorn
    rw [jread_bodies e2 hg hn hs (fun r hr' => hr r (by rw [hrr]; simp [hr'])) (by rw [htorn _ rfl]; omega), if_pos (by omega)]

/-- What a loss of power leaves of a file: all that lasted, and a beginning of what stood behind it. -/
theorem cutTo_all {b : ByteArray} (k : Int) : cutTo b b.size k = b := by
  unfold cutTo
  rw [Nat.sub_self, show kept 0 k = 0 from Nat.le_zero.1 (kept_le 0 k), extract_at (s := b) (a := 0) (b := b.size + 0) (pre := []) (x := b.data.toList) (post := []) (by simp) rfl (by rw [Nat.add_zero, size_list b]; simp)]
theorem cutTo_zero (b : ByteArray) (k : Int) : ∃ n, n ≤ b.size ∧ cutTo b 0 k = b.extract 0 n := ⟨kept (b.size - 0) k, by have := kept_le (b.size - 0) k; omega, by unfold cutTo; rw [Nat.zero_add]⟩
theorem extract_split (b : ByteArray) (n : Nat) (h : n ≤ b.size) : b.data.toList = (b.extract 0 n).data.toList ++ b.data.toList.drop n ∧ (b.extract 0 n).size = n := by
  have e : b.extract 0 n = ⟨(b.data.toList.take n).toArray⟩ := extract_at (s := b) (pre := []) (x := b.data.toList.take n) (post := b.data.toList.drop n) (by simp [List.take_append_drop]) rfl (by rw [List.length_take, ← size_list]; simp; omega)
  rw [e]
  refine ⟨by simp [List.take_append_drop], ?_⟩
  rw [size_list]
  show (b.data.toList.take n).length = n
  rw [List.length_take, ← size_list]; omega
/-- A new file, or a beginning of it. -/
theorem jread_fileB {gen : Nat} {s : ByteArray} {recs : List ByteArray} (hg : gen < 4294967296) (hp : 0 < gen) (hn : recs.length < 4294967290) (hs : OkB (markS ++ s)) (hr : ∀ r ∈ recs, OkB (recB r)) : jread (fileB gen s recs) = ⟨gen, s, recs⟩ := by
  rw [jread_bodies (n := recs.length.succ) (post := []) (by rw [fileB_list, List.append_nil]) hg (by omega) hs hr (by rw [un_end (by rw [size_list, fileB_list])]; omega), if_neg (by omega)]
theorem jread_part {gen : Nat} {s : ByteArray} {recs : List ByteArray} (hg : gen < 4294967296) (hp : 0 < gen) (hn : recs.length < 4294967290) (hs : OkB (markS ++ s)) (hr : ∀ r ∈ recs, OkB (recB r)) (n : Nat) (h : n ≤ (fileB gen s recs).size) :
    jread ((fileB gen s recs).extract 0 n) = Img.none_ ∨ (n = (fileB gen s recs).size ∧ jread ((fileB gen s recs).extract 0 n) = ⟨gen, s, recs⟩) := by
  obtain ⟨h1, h2⟩ := extract_split _ n h
  by_cases he : n = (fileB gen s recs).size
  · right
    refine ⟨he, ?_⟩
    have e : (fileB gen s recs).extract 0 n = fileB gen s recs := by
      apply ByteArray.ext
      apply Array.toList_inj.1
      rw [he, size_list, List.drop_length, List.append_nil] at h1
      rw [he, size_list]; exact h1.symm
    rw [e, jread_fileB hg hp hn hs hr]
  · left
    refine jread_torn (n := recs.length.succ) (u := (fileB gen s recs).data.toList.drop n) (by rw [← fileB_list]; exact h1) ?_ hg (by omega) (by omega) hs hr
    intro e
    have := congrArg List.length e
    rw [List.length_drop, ← size_list, List.length_nil] at this
    omega
end Go.Proofs.YtklcpckjmncdkaaGreatDoor
