/- PLAIN LAW of the statement JournalCompacts: what the calls come to, wherever the power fails. No program in sight. -/
import Derived.Test.YtklcpckjmncdkaaGreatDoorLaw3
namespace Go.Proofs.YtklcpckjmncdkaaGreatDoor
set_option maxRecDepth 100000
open Go.RowKit

def strE : ByteArray := ⟨#[]⟩
def strOld : ByteArray := ⟨#[111, 108, 100]⟩
/-- A disk that is on, of which nothing was asked. -/
def qd (b0 b1 : ByteArray) (l0 l1 : Nat) : Dk := ⟨b0, b1, l0, l1, 1048576, false, 0, [], 0, false⟩
theorem qd_quiet (b0 b1 : ByteArray) (l0 l1 : Nat) : Quiet (qd b0 b1 l0 l1) := ⟨rfl, rfl, rfl, rfl⟩
theorem frs_size : ∀ (l : List ByteArray) (M : Nat), (∀ b ∈ l, b.size ≤ M) → (frs l).length ≤ l.length * (6 + M)
  | [], _, _ => Nat.zero_le _
  | b :: l, M, h => by
    have h1 := frs_size l M (fun x hx => h x (by simp [hx]))
    have h2 := h b (by simp)
    have h3 := frame_length b.data.toList
    have h4 := size_list b
    have h5 : (l.length + 1) * (6 + M) = l.length * (6 + M) + (6 + M) := by rw [Nat.add_mul, Nat.one_mul]
    simp only [frs, List.length_append, List.length_cons]
    omega
/-- The bytes of a file with its records. -/
def fileX (gen n : Nat) (s : ByteArray) (recs : List ByteArray) : ByteArray := ⟨(frs (bodies gen n s recs)).toArray⟩
theorem fileX_list (gen n : Nat) (s : ByteArray) (recs : List ByteArray) : (fileX gen n s recs).data.toList = frs (bodies gen n s recs) := rfl
theorem fileX_size (gen n : Nat) (s : ByteArray) (recs : List ByteArray) (M : Nat) (h : ∀ r ∈ recs, r.size ≤ M) : (fileX gen n s recs).size ≤ 29 + s.size + recs.length * (7 + M) := by
  have h1 := frs_size (recs.map recB) (1 + M) (by
    intro b hb
    obtain ⟨r, hr, rfl⟩ := List.mem_map.1 hb
    rw [recB_size]
    have := h r hr; omega)
  rw [List.length_map, show 6 + (1 + M) = 7 + M by omega] at h1
  have e := headL_length gen n
  have es : (markS ++ s).data.toList.length = 1 + s.size := by rw [← size_list, markS, append1_size]
  rw [size_list, fileX_list]
  simp only [bodies, frs, List.length_append, frame_length]
  omega
theorem fileX_add (gen n : Nat) (s : ByteArray) (recs : List ByteArray) (b : ByteArray) : fileX gen n s recs ++ ⟨(frame (recB b).data.toList).toArray⟩ = fileX gen n s (recs ++ [b]) := by
  apply ByteArray.ext
  apply Array.toList_inj.1
  rw [ByteArray.data_append, Array.toList_append, fileX_list, fileX_list]
  simp only [bodies, List.map_append, List.map_cons, List.map_nil]
  rw [show ((⟨(headL gen n).toArray⟩ : ByteArray) :: (markS ++ s) :: (recs.map recB ++ [recB b])) = ((⟨(headL gen n).toArray⟩ : ByteArray) :: (markS ++ s) :: recs.map recB) ++ [recB b] from rfl, frs_append]
  simp [frs]
theorem jread_fileX {gen n : Nat} {s : ByteArray} {recs : List ByteArray} (hg : gen < 4294967296) (hp : 0 < gen) (hn : n < 4294967296) (hn0 : 0 < n) (hnr : n ≤ 1 + recs.length) (hs : OkB (markS ++ s)) (hr : ∀ r ∈ recs, OkB (recB r)) : jread (fileX gen n s recs) = ⟨gen, s, recs⟩ := by
  rw [jread_bodies (post := []) (by rw [fileX_list, List.append_nil]) hg hn hs hr (by rw [un_end (by rw [size_list, fileX_list])]; omega), if_neg (by omega)]
theorem okS {s : ByteArray} (h : s.size ≤ 100000) : OkB (markS ++ s) := by unfold OkB; rw [markS, append1_size]; omega
theorem okR {r : ByteArray} (h : r.size ≤ 100000) : OkB (recB r) := by unfold OkB; rw [recB_size]; omega

theorem change_cut1 {D : Dk} (h : D.cut = 1) (A C : Dk → Dk) : D.change A C = (240, (C D.ticked).lose D.keep) := by unfold Dk.change; rw [if_pos h]
theorem change_go {D : Dk} (h : D.cut ≠ 1) (hb : D.brk = 0) (hf : D.full = false) (A C : Dk → Dk) : D.change A C = (0, A D.ticked) := by
  have e : D.ticked.broken = D.ticked := by unfold Dk.broken; rw [if_neg (show ¬ 0 < D.ticked.brk from by show ¬ 0 < D.brk; omega)]
  unfold Dk.change
  rw [if_neg h, e, if_neg (show ¬ D.ticked.full = true from by show ¬ D.full = true; rw [hf]; decide)]

/-- A disk that is on, with what was asked of it. -/
def ad (b0 b1 : ByteArray) (l0 l1 c : Nat) (ks : List Int) : Dk := ⟨b0, b1, l0, l1, 1048576, false, c, ks, 0, false⟩
theorem ad_find (b0 b1 : ByteArray) (l0 l1 c : Nat) (ks : List Int) : (ad b0 b1 l0 l1 c ks).find 0 = 0 := rfl
theorem ad_crash (b0 b1 : ByteArray) (l0 l1 c : Nat) (ks kk : List Int) : (ad b0 b1 l0 l1 c ks).crash kk = qd (cutTo b0 l0 (kk.getD 0 0)) (cutTo b1 l1 (kk.getD 1 0)) (cutTo b0 l0 (kk.getD 0 0)).size (cutTo b1 l1 (kk.getD 1 0)).size := by
  unfold Dk.crash
  rw [if_neg (show ¬ (ad b0 b1 l0 l1 c ks).off = true from by show ¬ false = true; decide)]
  rfl
theorem ad_lost (b0 b1 : ByteArray) (l0 l1 c : Nat) (ks kk mm : List Int) : ((ad b0 b1 l0 l1 c ks).lose kk).crash mm = qd (cutTo b0 l0 (kk.getD 0 0)) (cutTo b1 l1 (kk.getD 1 0)) (cutTo b0 l0 (kk.getD 0 0)).size (cutTo b1 l1 (kk.getD 1 0)).size := by
  unfold Dk.crash
  rw [if_pos (show ((ad b0 b1 l0 l1 c ks).lose kk).off = true from rfl)]
  rfl
/-- The three changes of a new file 0: all of them, or the power fails at one. -/
theorem three_ad {b0 b1 F : ByteArray} {l0 l1 c : Nat} {ks : List Int} (hF : F.size ≠ 0) (hsp : b1.size + F.size ≤ 1048576) :
    (∃ c', three (ad b0 b1 l0 l1 c ks) 0 F = (0, ad F b1 F.size l1 c' ks)) ∨ three (ad b0 b1 l0 l1 c ks) 0 F = (240, (ad b0 b1 l0 l1 (c - 1) ks).lose ks) ∨ (∃ c', three (ad b0 b1 l0 l1 c ks) 0 F = (240, (ad F b1 0 l1 c' ks).lose ks)) := by
  have hclear : ∀ c, (ad b0 b1 l0 l1 c ks).doClear 0 = if c = 1 then (240, (ad b0 b1 l0 l1 (c - 1) ks).lose ks) else (0, ad ⟨#[]⟩ b1 0 l1 (c - 1) ks) := by
    intro c
    unfold Dk.doClear
    rw [if_neg (by rw [ad_find]; decide)]
    by_cases h : c = 1
    · rw [if_pos h, change_cut1 h]; rfl
    · rw [if_neg h, change_go h rfl rfl]; rfl
  have happ : ∀ c, (ad ⟨#[]⟩ b1 0 l1 c ks).append 0 F = if c = 1 then (240, (ad F b1 0 l1 (c - 1) ks).lose ks) else (0, ad F b1 0 l1 (c - 1) ks) := by
    intro c
    have hput : ∀ D : Dk, D = ad ⟨#[]⟩ b1 0 l1 (c - 1) ks → Dk.put F 0 D = ad F b1 0 l1 (c - 1) ks := by
      rintro D rfl
      unfold Dk.put ad
      rw [if_pos rfl]
      simp only [empty_append']
    unfold Dk.append
    rw [if_neg (by rw [ad_find]; decide), if_neg (show ¬ (ad ⟨#[]⟩ b1 0 l1 c ks).lim < (ad ⟨#[]⟩ b1 0 l1 c ks).b0.size + (ad ⟨#[]⟩ b1 0 l1 c ks).b1.size + F.size from by show ¬ (1048576 : Nat) < 0 + b1.size + F.size; omega), if_neg hF]
    by_cases h : c = 1
    · rw [if_pos h, change_cut1 h, hput (ad ⟨#[]⟩ b1 0 l1 c ks).ticked rfl]; rfl
    · rw [if_neg h, change_go h rfl rfl, hput (ad ⟨#[]⟩ b1 0 l1 c ks).ticked rfl]
  have hsync : ∀ c, (ad F b1 0 l1 c ks).doSync 0 = if c = 1 then (240, (ad F b1 0 l1 (c - 1) ks).lose ks) else (0, ad F b1 F.size l1 (c - 1) ks) := by
    intro c
    unfold Dk.doSync
    rw [if_neg (by rw [ad_find]; decide)]
    by_cases h : c = 1
    · rw [if_pos h, change_cut1 h]; rfl
    · rw [if_neg h, change_go h rfl rfl]; rfl
  unfold three
  rw [hclear c]
  by_cases h1 : c = 1
  · right; left
    rw [if_pos h1, if_pos (show ((240 : Nat), (ad b0 b1 l0 l1 (c - 1) ks).lose ks).1 ≠ 0 from by show (240 : Nat) ≠ 0; decide)]
  · rw [if_neg h1, if_neg (show ¬ ((0 : Nat), ad ⟨#[]⟩ b1 0 l1 (c - 1) ks).1 ≠ 0 from by simp)]
    simp only
    rw [happ (c - 1)]
    by_cases h2 : c - 1 = 1
    · right; right
      rw [if_pos h2, if_pos (show ((240 : Nat), (ad F b1 0 l1 (c - 1 - 1) ks).lose ks).1 ≠ 0 from by show (240 : Nat) ≠ 0; decide)]
      exact ⟨_, rfl⟩
    · rw [if_neg h2, if_neg (show ¬ ((0 : Nat), ad F b1 0 l1 (c - 1 - 1) ks).1 ≠ 0 from by simp)]
      simp only
      rw [hsync (c - 1 - 1)]
      by_cases h3 : c - 1 - 1 = 1
      · right; right
        rw [if_pos h3]
        exact ⟨_, rfl⟩
      · left
        rw [if_neg h3]
        exact ⟨_, rfl⟩

/-! ### The statement's calls -/
theorem new_qd : Dk.new 1048576 = qd strE strE 0 0 := rfl
def file1 : ByteArray := fileX 1 1 strE []
def fileOld (all : List ByteArray) : ByteArray := fileX 2 1 strOld all
theorem fileB_X (gen : Nat) (s : ByteArray) : fileB gen s [] = fileX gen 1 s [] := rfl
theorem file1_size : file1.size = 29 := by rw [file1, size_list, fileX_list]; rfl
theorem fileOld_size (all : List ByteArray) (h : ∀ r ∈ all, r.size ≤ 100) : (fileOld all).size ≤ 32 + all.length * 107 := fileX_size 2 1 strOld all 100 h
theorem fileOld_nil : (fileOld []).size = 32 := by rw [fileOld, size_list, fileX_list]; rfl
theorem comp_open : jopen (qd strE strE 0 0) = (0, qd file1 strE 29 0, ⟨0, 1, false⟩, Img.none_) := by
  have je : jread strE = Img.none_ := jread_empty rfl
  have hf0 : jfound (qd strE strE 0 0) = (Img.none_, ⟨1, 0, false⟩) := by
    unfold jfound jstep jfirst
    simp only [qd, Dk.bytes]
    simp only [je, if_pos, ite_self]
    rfl
  have l1 := lay_quiet (J := ⟨1, 0, false⟩) (s := strE) (recs := []) (qd_quiet strE strE 0 0) (.inr rfl) (by decide) (okS (by decide)) (by simp) (by
    rw [show (0 : Nat) + 1 = 1 from rfl, fileB_X, ← file1, file1_size]; decide)
  have d1 : laid (1 - 1) (fileB (0 + 1) strE []) (qd strE strE 0 0) = qd file1 strE 29 0 := by
    rw [show (0 : Nat) + 1 = 1 from rfl, fileB_X, ← file1]
    unfold qd laid Dk.wipe Dk.put Dk.sync
    simp only [Int.sub_self, if_pos, empty_append', file1_size]
  unfold jopen
  rw [if_neg (show ¬ (qd strE strE 0 0).off = true from by show ¬ false = true; decide), hf0]
  unfold Img.none_ at *
  have l1' : jlay (qd strE strE 0 0) ⟨1, 0, false⟩ ⟨#[]⟩ [] = _ := l1
  simp only
  rw [l1', d1]
  rfl
theorem comp_old : jcompact (qd file1 strE 29 0) ⟨0, 1, false⟩ strOld = (0, qd file1 (fileOld []) 29 32, ⟨1, 2, false⟩) := by
  have l1 := lay_quiet (J := ⟨0, 1, false⟩) (s := strOld) (recs := []) (qd_quiet file1 strE 29 0) (.inl rfl) (by decide) (okS (by decide)) (by simp) (by
    rw [show (1 : Nat) + 1 = 2 from rfl, fileB_X, ← fileOld, fileOld_nil]
    have e : Dk.wipe (1 - (0 : Int)) (qd file1 strE 29 0) = qd file1 strE 29 0 := rfl
    rw [e]
    unfold qd
    simp only [file1_size]
    decide)
  have d1 : laid (1 - 0) (fileB (1 + 1) strOld []) (qd file1 strE 29 0) = qd file1 (fileOld []) 29 32 := by
    rw [show (1 : Nat) + 1 = 2 from rfl, fileB_X, ← fileOld]
    unfold qd laid Dk.wipe Dk.put Dk.sync
    simp only [Int.sub_zero, if_neg (show ¬ (1 : Int) = 0 by decide), empty_append', fileOld_nil]
  unfold jcompact
  rw [if_neg (show ¬ false = true by decide), l1, d1]
  rfl
theorem comp_add {all : List ByteArray} {b : ByteArray} (hn : all.length ≤ 20) (ha : ∀ r ∈ all, r.size ≤ 100) (hb : b.size ≤ 100) : jadd (qd file1 (fileOld all) 29 32) ⟨1, 2, false⟩ b = (0, qd file1 (fileOld (all ++ [b])) 29 32, ⟨1, 2, false⟩) := by
  have h1 := fileOld_size all ha
  have h2 := add_quiet (J := ⟨1, 2, false⟩) (b := b) (qd_quiet file1 (fileOld all) 29 32) (.inr rfl) rfl (okR (by omega)) (by
    unfold qd
    simp only [file1_size, recB_size]
    omega)
  rw [h2]
  unfold Dk.put qd
  rw [if_neg (show ¬ (1 : Int) = 0 by decide)]
  simp only [fileOld, fileX_add]
theorem comp_sync (all : List ByteArray) : jsync (qd file1 (fileOld all) 29 32) ⟨1, 2, false⟩ = (0, qd file1 (fileOld all) 29 (fileOld all).size, ⟨1, 2, false⟩) := by
  rw [jsync_quiet (qd_quiet _ _ _ _) (.inr rfl) rfl]
  unfold Dk.sync qd
  rw [if_neg (show ¬ (1 : Int) = 0 by decide)]
/-- What is found, and opened, behind the loss. -/
theorem comp_found {c0 b1 : ByteArray} {f : Int} {gen : Nat} {s : ByteArray} {recs : List ByteArray} (h : Found (qd c0 b1 c0.size b1.size) f gen s recs) (hg : gen ≤ 10) (hs : s.size ≤ 2000) (hn : recs.length ≤ 20) (hr : ∀ r ∈ recs, r.size ≤ 100) (h0 : c0.size ≤ 10000) (h1 : b1.size ≤ 10000) :
    ∃ D7 J7, jopen (qd c0 b1 c0.size b1.size) = (0, D7, J7, ⟨gen, s, recs⟩) := by
  have hsz := fileX_size (gen + 1) recs.length.succ s recs 100 hr
  have hw : (Dk.wipe (1 - f) (qd c0 b1 c0.size b1.size)).b0.size + (Dk.wipe (1 - f) (qd c0 b1 c0.size b1.size)).b1.size ≤ 20000 := by
    unfold Dk.wipe qd
    split
    · show 0 + b1.size ≤ 20000; omega
    · show c0.size + 0 ≤ 20000; omega
  have l := lay_quiet (J := ⟨f, gen, false⟩) (s := s) (recs := recs) (qd_quiet c0 b1 c0.size b1.size) h.file (by simp only; omega) (okS (by omega)) (fun r hr' => okR (by have := hr r hr'; omega)) (by
    have e : fileB (gen + 1) s recs = fileX (gen + 1) recs.length.succ s recs := rfl
    simp only
    rw [e]
    show _ ≤ 1048576
    omega)
  unfold jopen
  rw [if_neg (show ¬ (qd c0 b1 c0.size b1.size).off = true from by show ¬ false = true; decide), jfound_of h]
  simp only
  rw [l]
  exact ⟨_, _, rfl⟩
theorem comp_end {all : List ByteArray} (hn : all.length ≤ 20) (ha : ∀ r ∈ all, r.size ≤ 100) {st : ByteArray} (hst : st.size ≤ 1003) (N : Int) (ks : List Int) :
    ∃ rc D5 J5 D7 J7 I, jcompact (Dk.doCut (qd file1 (fileOld all) 29 (fileOld all).size) N ks) ⟨1, 2, false⟩ st = (rc, D5, J5) ∧ jopen (D5.crash ks) = (0, D7, J7, I) ∧
      (rc = 0 ∧ I.state = st ∧ I.recs = [] ∨ rc = 240 ∧ (I.state = st ∧ I.recs = [] ∨ I.state = strOld ∧ I.recs = all)) := by
  have hF := fileX_size 3 1 st [] 0 (by simp)
  have hB := fileOld_size all ha
  have hFp : (fileX 3 1 st []).size ≠ 0 := fileB_pos 3 st []
  have e4 : Dk.doCut (qd file1 (fileOld all) 29 (fileOld all).size) N ks = ad file1 (fileOld all) 29 (fileOld all).size N.toNat ks := rfl
  have hrold : jread (fileOld all) = ⟨2, strOld, all⟩ := jread_fileX (by decide) (by decide) (by decide) (by decide) (by omega) (okS (by decide)) (fun r hr => okR (by have := ha r hr; omega))
  have hr3 : jread (fileX 3 1 st []) = ⟨3, st, []⟩ := jread_fileX (by decide) (by decide) (by decide) (by decide) (by decide) (okS (by omega)) (by simp)
  have hr1 : jread file1 = ⟨1, strE, []⟩ := jread_fileX (by decide) (by decide) (by decide) (by decide) (by decide) (okS (by decide)) (by simp)
  have hsz3 : (fileX 3 1 st []).size ≤ 2000 := by simp only [List.length_nil] at hF; omega
  -- what is opened
  have newW : ∀ c0 : ByteArray, c0 = fileX 3 1 st [] → ∃ D7 J7, jopen (qd c0 (fileOld all) c0.size (fileOld all).size) = (0, D7, J7, ⟨3, st, []⟩) := by
    rintro c0 rfl
    refine comp_found (f := 0) ⟨.inl rfl, hr3, by decide, ?_⟩ (by decide) (by omega) (by decide) (by simp) (by omega) (by omega)
    show (jread (fileOld all)).gen < 3
    rw [hrold]; exact (by decide : 2 < 3)
  have oldW : ∀ c0 : ByteArray, (jread c0).gen < 2 → c0.size ≤ 2000 → ∃ D7 J7, jopen (qd c0 (fileOld all) c0.size (fileOld all).size) = (0, D7, J7, ⟨2, strOld, all⟩) := by
    intro c0 hc hcs
    refine comp_found (f := 1) ⟨.inr rfl, hrold, by decide, hc⟩ (by decide) (by decide) hn ha (by omega) (by omega)
  have partW : ∀ c0 : ByteArray, (∃ n, n ≤ (fileX 3 1 st []).size ∧ c0 = (fileX 3 1 st []).extract 0 n) → ∃ D7 J7 I, jopen (qd c0 (fileOld all) c0.size (fileOld all).size) = (0, D7, J7, I) ∧ (I.state = st ∧ I.recs = [] ∨ I.state = strOld ∧ I.recs = all) := by
    rintro c0 ⟨n, hn2, rfl⟩
    rcases jread_part (gen := 3) (s := st) (recs := []) (by decide) (by decide) (by decide) (okS (by omega)) (by simp) n hn2 with h | ⟨he, h⟩
    · obtain ⟨D7, J7, h7⟩ := oldW ((fileX 3 1 st []).extract 0 n) (by
        have e : (fileX 3 1 st []).extract 0 n = (fileB 3 st []).extract 0 n := rfl
        rw [e, h]; decide) (by rw [(extract_split _ n hn2).2]; omega)
      exact ⟨D7, J7, _, h7, .inr ⟨rfl, rfl⟩⟩
    · have e : (fileX 3 1 st []).extract 0 n = fileX 3 1 st [] := by
        subst he
        apply ByteArray.ext
        apply Array.toList_inj.1
        have := (extract_split (fileX 3 1 st []) (fileX 3 1 st []).size (Nat.le_refl _)).1
        rw [show (fileX 3 1 st []).data.toList.drop (fileX 3 1 st []).size = [] from by rw [size_list, List.drop_length], List.append_nil] at this
        exact this.symm
      obtain ⟨D7, J7, h7⟩ := newW _ e
      exact ⟨D7, J7, _, h7, .inl ⟨rfl, rfl⟩⟩
  have hlf : lfr (bodies 3 1 st []) [] = (0, (fileX 3 1 st []).data.toList) := by
    rw [lfr_ok _ _ (by
      intro b hb
      simp only [bodies, List.map_nil, List.mem_cons, List.not_mem_nil, or_false] at hb
      rcases hb with rfl | rfl
      · exact headB_ok _ _
      · exact okS (by omega))]
    rfl
  rw [e4]
  unfold jcompact jlay
  rw [if_neg (show ¬ false = true by decide), if_neg (show ¬ 2147483647 ≤ 2 by decide)]
  simp only [lframes_texts, List.length_nil, Nat.reduceAdd, hlf]
  rw [if_neg (by simp)]
  have eF : (⟨(fileX 3 1 st []).data.toList.toArray⟩ : ByteArray) = fileX 3 1 st [] := rfl
  rw [eF, show (1 : Int) - 1 = 0 from rfl]
  rcases three_ad (b0 := file1) (b1 := fileOld all) (F := fileX 3 1 st []) (l0 := 29) (l1 := (fileOld all).size) (c := N.toNat) (ks := ks) hFp (by omega) with ⟨c', h⟩ | h | ⟨c', h⟩
  · simp only [h]
    rw [if_neg (by simp)]
    obtain ⟨D7, J7, h7⟩ := newW _ (cutTo_all (b := fileX 3 1 st []) (ks.getD 0 0))
    refine ⟨_, _, _, D7, J7, ⟨3, st, []⟩, rfl, ?_, .inl ⟨rfl, rfl, rfl⟩⟩
    rw [ad_crash, cutTo_all (b := fileOld all)]
    exact h7
  · simp only [h]
    rw [if_pos (by simp)]
    have hz : cutTo file1 29 (ks.getD 0 0) = file1 := by rw [← file1_size]; exact cutTo_all _
    obtain ⟨D7, J7, h7⟩ := oldW file1 (by rw [hr1]; exact (by decide : 1 < 2)) (by rw [file1_size]; decide)
    refine ⟨_, _, _, D7, J7, ⟨2, strOld, all⟩, rfl, ?_, .inr ⟨rfl, .inr ⟨rfl, rfl⟩⟩⟩
    rw [ad_lost, cutTo_all (b := fileOld all), hz]
    exact h7
  · simp only [h]
    rw [if_pos (by simp)]
    obtain ⟨D7, J7, I, h7, hI⟩ := partW _ (cutTo_zero (fileX 3 1 st []) (ks.getD 0 0))
    refine ⟨_, _, _, D7, J7, I, rfl, ?_, .inr ⟨rfl, hI⟩⟩
    rw [ad_lost, cutTo_all (b := fileOld all)]
    exact h7
end Go.Proofs.YtklcpckjmncdkaaGreatDoor
