/- PLAIN LAWS of frames: what was framed stands where it was laid; a frame cut short is none; a file that was laid reads as what it was laid from. No program in sight. -/
import Derived.Test.YtklcpckjmncdkaaGreatDoorOpen
namespace Go.Proofs.YtklcpckjmncdkaaGreatDoor
set_option maxRecDepth 100000
open Go.RowKit

theorem ub_be : ∀ (k n : Nat), n < 256 ^ k → ub (be k n) = n
  | 0, n, h => by
    have : n = 0 := by simpa using h
    subst this; rfl
  | k + 1, n, h => by
    have h1 : n / 256 < 256 ^ k := by rw [Nat.pow_succ] at h; exact Nat.div_lt_of_lt_mul (by rw [Nat.mul_comm]; exact h)
    rw [be, ub_snoc, ub_be k (n / 256) h1]
    have : (UInt8.ofNat (n % 256)).toNat = n % 256 := by simp
    rw [this]; omega
theorem numAt_at {s : ByteArray} {pre x post : List UInt8} (h : s.data.toList = pre ++ x ++ post) {a q : Nat} (ha : a = pre.length) (hq : x.length = q) : numAt s a q = ub x := by
  subst ha; subst hq
  unfold numAt
  rw [h, List.append_assoc, List.drop_left, List.take_left]
theorem extract_at {s : ByteArray} {pre x post : List UInt8} (h : s.data.toList = pre ++ x ++ post) {a b : Nat} (ha : a = pre.length) (hb : b = pre.length + x.length) : s.extract a b = ⟨x.toArray⟩ := by
  subst ha; subst hb
  apply ByteArray.ext
  apply Array.toList_inj.1
  rw [ByteArray.data_extract, Array.toList_extract]
  unfold List.extract
  rw [h, List.append_assoc, List.drop_left, Nat.add_sub_cancel_left, List.take_left]
theorem size_list (s : ByteArray) : s.size = s.data.toList.length := by simp

/-- A body that has a frame. -/
def OkB (b : ByteArray) : Prop := 1 ≤ b.size ∧ b.size ≤ 131072
theorem frame_length (l : List UInt8) : (frame l).length = 6 + l.length := by simp [frame, be_length]; omega
theorem frameR_ok {b : ByteArray} (h : OkB b) : frameR b = (⟨(frame b.data.toList).toArray⟩, 0) := by
  unfold frameR
  rw [if_neg (by have := h.1; omega), if_neg (by have := h.2; omega)]
theorem frameR_iff {b : ByteArray} : (frameR b).2 = 0 ↔ OkB b := by
  unfold frameR OkB
  by_cases h1 : b.size = 0
  · rw [if_pos h1]; simp; omega
  · rw [if_neg h1]
    by_cases h2 : 131072 < b.size
    · rw [if_pos h2]; simp; omega
    · rw [if_neg h2]; simp; omega
theorem un_at {s : ByteArray} {b : ByteArray} {pre post : List UInt8} (h : s.data.toList = pre ++ frame b.data.toList ++ post) (hb : OkB b) {p : Nat} (hp : p = pre.length) : unframe s (p : Int) = (b, p + 6 + b.size, 0) := by
  subst hp
  obtain ⟨h1, h2⟩ := hb
  have hl := size_list b
  have e4 : s.data.toList = pre ++ be 4 b.data.toList.length ++ (be 2 (Jr.sum b.data.toList) ++ b.data.toList ++ post) := by rw [h]; simp [frame]
  have n4 : numAt s pre.length 4 = b.size := by
    rw [numAt_at e4 rfl (be_length _ _), ub_be 4 _ (by rw [← hl]; omega), hl]
  have e2 : s.data.toList = (pre ++ be 4 b.data.toList.length) ++ be 2 (Jr.sum b.data.toList) ++ (b.data.toList ++ post) := by rw [h]; simp [frame]
  have n2 : numAt s (pre.length + 4) 2 = Jr.sum b.data.toList := by
    rw [numAt_at e2 (by rw [List.length_append, be_length]) (be_length _ _), ub_be 2 _ (by have := Jr.sum_lt b.data.toList; omega)]
  have e0 : s.data.toList = (pre ++ be 4 b.data.toList.length ++ be 2 (Jr.sum b.data.toList)) ++ b.data.toList ++ post := by rw [h]; simp [frame]
  have hsz : s.size = pre.length + 6 + b.size + post.length := by rw [size_list s, e0]; simp only [List.length_append, be_length]; omega
  have hx : s.extract (pre.length + 6) (pre.length + 6 + b.size) = b := by
    rw [extract_at e0 (by simp only [List.length_append, be_length]) (by simp only [List.length_append, be_length]; omega)]
  have := un_ok s pre.length (by rw [n4]; omega) (by rw [n4]; omega) (by rw [n4]; omega) (by rw [n4, hx, n2])
  rw [n4, hx] at this
  exact this
theorem un_end {s : ByteArray} {p : Nat} (hp : p = s.size) : (unframe s (p : Int)).2.2 = 242 := by
  rw [un_short s p (by omega) (by omega)]
/-- A frame that is cut short is none. -/
theorem un_torn {s : ByteArray} {b : ByteArray} {pre t u : List UInt8} (h : s.data.toList = pre ++ t) (hf : frame b.data.toList = t ++ u) (hu : u ≠ []) (hb : OkB b) {p : Nat} (hp : p = pre.length) : (unframe s (p : Int)).2.2 = 242 := by
  subst hp
  have hsz : s.size = pre.length + t.length := by rw [size_list s, h]; simp
  have hul : 0 < u.length := List.length_pos_iff.2 hu
  have hfl := frame_length b.data.toList
  rw [hf, List.length_append] at hfl
  have hl := size_list b
  by_cases h4 : t.length < 4
  · rw [un_short s pre.length (by omega) (by omega)]
  · have n4 : numAt s pre.length 4 = b.size := by
      have e : t = be 4 b.data.toList.length ++ t.drop 4 := by
        have e1 : (t ++ u).take 4 = be 4 b.data.toList.length := by rw [← hf, frame, List.append_assoc, List.take_left' (be_length _ _)]
        rw [List.take_append_of_le_length (by omega)] at e1
        rw [← e1]; exact (List.take_append_drop 4 t).symm
      have e4 : s.data.toList = pre ++ be 4 b.data.toList.length ++ t.drop 4 := by rw [h, List.append_assoc, ← e]
      rw [numAt_at e4 rfl (be_length _ _), ub_be 4 _ (by have := hb.2; rw [← hl]; omega), hl]
    have := hb.1
    have := hb.2
    rw [un_none s pre.length (by omega) (by rw [n4]; omega) (by rw [n4]; omega) (by rw [n4]; omega)]

/-- Frames, one behind the other. -/
def frs : List ByteArray → List UInt8
  | [] => []
  | b :: l => frame b.data.toList ++ frs l
theorem frs_append (a b : List ByteArray) : frs (a ++ b) = frs a ++ frs b := by
  induction a with
  | nil => rfl
  | cons x a ih => simp only [List.cons_append, frs, ih, List.append_assoc]
def recB (r : ByteArray) : ByteArray := markR ++ r
theorem recB_size (r : ByteArray) : (recB r).size = 1 + r.size := by unfold recB markR; rw [append1_size]
theorem cutPre_at (p r : ByteArray) : cutPre (p ++ r) p = (r, true) := by
  unfold cutPre
  have h1 : (p ++ r).extract 0 p.size = p := by
    rw [extract_at (a := 0) (b := p.size) (s := p ++ r) (pre := []) (x := p.data.toList) (post := r.data.toList) (by rw [ByteArray.data_append]; simp) rfl (by simp)]
  have h2 : (p ++ r).extract p.size (p ++ r).size = r := by
    rw [extract_at (s := p ++ r) (pre := p.data.toList) (x := r.data.toList) (post := []) (by rw [ByteArray.data_append]; simp) (size_list p) (by rw [size_list (p ++ r), ByteArray.data_append]; simp)]
  rw [if_pos ⟨by rw [ByteArray.size_append]; omega, by rw [h1]⟩, h2]
theorem scan_stop {s : ByteArray} {p : Nat} (h : (unframe s (p : Int)).2.2 ≠ 0) (k : Nat) (l : List ByteArray) : scan s (k + 1) p l = l := by
  unfold scan
  simp only
  rw [if_neg (fun hh => h hh.1)]
theorem scan_recs {s : ByteArray} {post : List UInt8} : ∀ (recs : List ByteArray) (pre : List UInt8) (k p : Nat) (l : List ByteArray), s.data.toList = pre ++ frs (recs.map recB) ++ post → p = pre.length → l ≠ [] → (∀ r ∈ recs, OkB (recB r)) → recs.length < k →
    (unframe s ((p + (frs (recs.map recB)).length : Nat) : Int)).2.2 ≠ 0 → scan s k p l = l ++ recs := by
  intro recs
  induction recs with
  | nil =>
    intro pre k p l _ _ _ _ hk hst
    obtain ⟨k, rfl⟩ : ∃ k', k = k' + 1 := ⟨k - 1, by simp at hk; omega⟩
    rw [scan_stop (by simpa [frs] using hst)]
    simp
  | cons r recs ih =>
    intro pre k p l h hp hl hok hk hst
    obtain ⟨k, rfl⟩ : ∃ k', k = k' + 1 := ⟨k - 1, by simp at hk; omega⟩
    have hu := un_at (b := recB r) (pre := pre) (post := frs (recs.map recB) ++ post) (by rw [h]; simp [frs]) (hok r (by simp)) hp
    unfold scan
    simp only [hu]
    rw [if_neg (show ¬ l.length = 0 from fun e => hl (List.eq_nil_of_length_eq_zero e)), show cutPre (recB r) markR = (r, true) from cutPre_at markR r]
    rw [if_pos ⟨trivial, rfl⟩]
    simp only
    have hfl := frame_length (recB r).data.toList
    have hsl := size_list (recB r)
    rw [ih (pre ++ frame (recB r).data.toList) k (p + 6 + (recB r).size) (l ++ [r]) (by rw [h]; simp [frs]) (by rw [List.length_append]; omega) (by simp) (fun x hx => hok x (by simp [hx])) (by simp at hk; omega) ?_]
    · simp
    · have e : p + 6 + (recB r).size + (frs (recs.map recB)).length = p + (frs ((r :: recs).map recB)).length := by simp only [List.map_cons, frs, List.length_append]; omega
      rw [e]; exact hst

/-- The bodies of a file. -/
def bodies (gen n : Nat) (s : ByteArray) (recs : List ByteArray) : List ByteArray := ⟨(headL gen n).toArray⟩ :: (markS ++ s) :: recs.map recB
theorem headB_ok (gen n : Nat) : OkB ⟨(headL gen n).toArray⟩ := by
  have : (⟨(headL gen n).toArray⟩ : ByteArray).size = 16 := by show (headL gen n).toArray.size = 16; simp [headL_length]
  unfold OkB; omega
/-- What a file reads as, whatever stands behind its whole frames. -/
theorem jread_bodies {f : ByteArray} {gen n : Nat} {s : ByteArray} {recs : List ByteArray} {post : List UInt8} (h : f.data.toList = frs (bodies gen n s recs) ++ post) (hg : gen < 4294967296) (hn : n < 4294967296) (hs : OkB (markS ++ s)) (hr : ∀ r ∈ recs, OkB (recB r))
    (hst : (unframe f ((frs (bodies gen n s recs)).length : Int)).2.2 ≠ 0) : jread f = if gen = 0 ∨ n = 0 ∨ 1 + recs.length < n then Img.none_ else ⟨gen, s, recs⟩ := by
  have hb : bodies gen n s recs = ⟨(headL gen n).toArray⟩ :: (markS ++ s) :: recs.map recB := rfl
  generalize hhb : (⟨(headL gen n).toArray⟩ : ByteArray) = hd at hb
  have hdok : OkB hd := hhb ▸ headB_ok gen n
  have hdd : hd.data.toList = headL gen n := by rw [← hhb]
  have hds : hd.size = 16 := by rw [size_list, hdd, headL_length]
  have hfl := frame_length hd.data.toList
  have hfs := frame_length (markS ++ s).data.toList
  have hss := size_list (markS ++ s)
  have hds2 := size_list hd
  have u0 := un_at (s := f) (b := hd) (pre := []) (post := frs ((markS ++ s) :: recs.map recB) ++ post) (by rw [h, hb]; simp [frs]) hdok (p := 0) rfl
  have u1 := un_at (s := f) (b := markS ++ s) (pre := frame hd.data.toList) (post := frs (recs.map recB) ++ post) (by rw [h, hb]; simp [frs]) hs (p := 22) (by omega)
  have hx8 : (hd.extract 0 8).toList = magicL := by
    rw [extract_at (a := 0) (b := 8) (s := hd) (pre := []) (x := magicL) (post := be 4 gen ++ be 4 n) (by rw [hdd, headL]; simp) rfl (by decide), ByteArray.toList_eq]
  have g4 : numAt hd 8 4 = gen := by
    rw [numAt_at (s := hd) (pre := magicL) (x := be 4 gen) (post := be 4 n) (by rw [hdd, headL]) (by decide) (be_length _ _), ub_be 4 gen (by omega)]
  have n4 : numAt hd 12 4 = n := by
    rw [numAt_at (s := hd) (pre := magicL ++ be 4 gen) (x := be 4 n) (post := []) (by rw [hdd, headL]; simp) (by rw [List.length_append, be_length]; rfl) (be_length _ _), ub_be 4 n (by omega)]
  have hlen : f.size = 22 + (6 + (markS ++ s).size) + (frs (recs.map recB)).length + post.length := by
    rw [size_list f, h, hb]; simp only [frs, List.length_append]; omega
  have hcount : recs.length ≤ (frs (recs.map recB)).length := by
    clear hlen u0 u1 hst h hb hr
    induction recs with
    | nil => exact Nat.zero_le _
    | cons r recs ih =>
      have := frame_length (recB r).data.toList
      simp only [List.map_cons, frs, List.length_append, List.length_cons]
      omega
  have hsc : scan f (f.size + 1) 22 [] = s :: recs := by
    unfold scan
    have u1' : unframe f ((22 : Nat) : Int) = (markS ++ s, 22 + 6 + (markS ++ s).size, 0) := u1
    simp only [u1']
    rw [if_pos (show ([] : List ByteArray).length = 0 from rfl), cutPre_at markS s, if_pos ⟨trivial, rfl⟩]
    simp only
    rw [scan_recs recs (frame hd.data.toList ++ frame (markS ++ s).data.toList) f.size (22 + 6 + (markS ++ s).size) ([] ++ [s]) (post := post) (by rw [h, hb]; simp [frs]) (by rw [List.length_append]; omega) (by simp) hr (by omega) ?_]
    · rfl
    · have e : 22 + 6 + (markS ++ s).size + (frs (recs.map recB)).length = (frs (bodies gen n s recs)).length := by rw [hb]; simp only [frs, List.length_append]; omega
      rw [e]; exact hst
  unfold jread
  have u0' : unframe f 0 = (hd, 22, 0) := by
    have := u0
    rw [hds] at this
    exact this
  simp only [u0']
  rw [if_pos ⟨trivial, hds, hx8⟩, hsc, g4, n4]
  by_cases hc : gen = 0 ∨ n = 0 ∨ 1 + recs.length < n
  · rw [if_pos hc, if_pos (by simp only [List.length_cons]; omega)]
  · rw [if_neg hc, if_neg (by simp only [List.length_cons]; omega)]
    rfl
theorem jread_empty {f : ByteArray} (h : f.size = 0) : jread f = Img.none_ := by
  unfold jread
  simp only
  rw [if_neg]
  intro hh
  have := un_end (s := f) (p := 0) h.symm
  rw [show ((0 : Nat) : Int) = 0 from rfl] at this
  omega
end Go.Proofs.YtklcpckjmncdkaaGreatDoor
