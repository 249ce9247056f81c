/- PLAIN LAWS of the journal's calls on a disk that nothing ails; what the document fixes. No program in sight. -/
import Derived.Test.YtklcpckjmncdkaaGreatDoorLaw
namespace Go.Proofs.YtklcpckjmncdkaaGreatDoor
set_option maxRecDepth 100000
open Go.RowKit

def lfr : List ByteArray → List UInt8 → Nat × List UInt8
  | [], acc => (0, acc)
  | b :: l, acc => if (frameR b).2 = 0 then lfr l (acc ++ (frameR b).1.data.toList) else ((frameR b).2, acc)
theorem lframes_two : ∀ (l : List ByteArray) (i : Nat) (acc : List UInt8), 2 ≤ i → lframes i l acc = lfr (l.map recB) acc
  | [], _, _, _ => rfl
  | b :: l, i, acc, hi => by
    have e : lbody i b = recB b := by unfold lbody; rw [if_pos (by omega)]; rfl
    simp only [List.map_cons, lframes, lfr, e]
    rw [lframes_two l (i + 1) _ (by omega)]
theorem lframes_texts (gen : Nat) (s : ByteArray) (recs : List ByteArray) : lframes 0 (texts gen s recs) [] = lfr (bodies (gen + 1) (1 + recs.length) s recs) [] := by
  simp only [texts, bodies, lframes, lfr, lframes_two _ 2 _ (Nat.le_refl _), Nat.zero_add]
  have e0 : ∀ b, lbody 0 b = b := fun b => by unfold lbody; rw [if_neg (by omega)]
  have e1 : ∀ b, lbody 1 b = b := fun b => by unfold lbody; rw [if_neg (by omega)]
  simp only [e0, e1]
theorem lfr_ok : ∀ (l : List ByteArray) (acc : List UInt8), (∀ b ∈ l, OkB b) → lfr l acc = (0, acc ++ frs l)
  | [], acc, _ => by simp [lfr, frs]
  | b :: l, acc, h => by
    have hb := frameR_ok (h b (by simp))
    simp only [lfr, hb, frs]
    rw [if_pos trivial, lfr_ok l _ (fun x hx => h x (by simp [hx]))]
    simp
theorem lfr_code : ∀ (l : List ByteArray) (acc : List UInt8), (lfr l acc).1 = 0 → ∀ b ∈ l, OkB b
  | [], _, _ => fun b hb => by simp at hb
  | b :: l, acc, h => by
    unfold lfr at h
    by_cases hc : (frameR b).2 = 0
    · rw [if_pos hc] at h
      intro x hx
      rcases List.mem_cons.1 hx with rfl | hx
      · exact frameR_iff.1 hc
      · exact lfr_code l _ h x hx
    · rw [if_neg hc] at h
      exact absurd h hc

/-- A disk that is on, of which nothing was asked. -/
structure Quiet (D : Dk) : Prop where
  off : D.off = false
  cut : D.cut = 0
  brk : D.brk = 0
  full : D.full = false
theorem change_quiet {D : Dk} (h : Quiet D) (A C : Dk → Dk) : D.change A C = (0, A D) := by
  have ht : D.ticked = D := by unfold Dk.ticked; rw [h.cut]; cases D; simp only at *; have := h.cut; simp only at this; subst this; rfl
  have hb : D.broken = D := by unfold Dk.broken; rw [if_neg (by rw [h.brk]; omega)]
  unfold Dk.change
  rw [if_neg (by rw [h.cut]; omega), ht, hb, if_neg (by rw [h.full]; decide)]
theorem find_quiet {D : Dk} (h : Quiet D) {n : Int} (hn : n = 0 ∨ n = 1) : D.find n = 0 := by unfold Dk.find; rw [if_neg (by rw [h.off]; decide), if_pos hn]
theorem clear_quiet {D : Dk} (h : Quiet D) {n : Int} (hn : n = 0 ∨ n = 1) : D.doClear n = (0, Dk.wipe n D) := by
  unfold Dk.doClear; rw [if_neg (by rw [find_quiet h hn]; decide), change_quiet h]
theorem sync_quiet {D : Dk} (h : Quiet D) {n : Int} (hn : n = 0 ∨ n = 1) : D.doSync n = (0, Dk.sync n D) := by
  unfold Dk.doSync; rw [if_neg (by rw [find_quiet h hn]; decide), change_quiet h]
theorem append_quiet {D : Dk} (h : Quiet D) {n : Int} (hn : n = 0 ∨ n = 1) {s : ByteArray} (hs : D.b0.size + D.b1.size + s.size ≤ D.lim) (h0 : s.size ≠ 0) : D.append n s = (0, Dk.put s n D) := by
  unfold Dk.append; rw [if_neg (by rw [find_quiet h hn]; decide), if_neg (by omega), if_neg h0, change_quiet h]
theorem Quiet.put {D : Dk} (h : Quiet D) (s : ByteArray) (n : Int) : Quiet (Dk.put s n D) := by unfold Dk.put; split <;> exact ⟨h.off, h.cut, h.brk, h.full⟩
theorem Quiet.wipe {D : Dk} (h : Quiet D) (n : Int) : Quiet (Dk.wipe n D) := by unfold Dk.wipe; split <;> exact ⟨h.off, h.cut, h.brk, h.full⟩
theorem Quiet.sync {D : Dk} (h : Quiet D) (n : Int) : Quiet (Dk.sync n D) := by unfold Dk.sync; split <;> exact ⟨h.off, h.cut, h.brk, h.full⟩

/-- The bytes of a new file. -/
def fileB (gen : Nat) (s : ByteArray) (recs : List ByteArray) : ByteArray := ⟨(frs (bodies gen recs.length.succ s recs)).toArray⟩
theorem fileB_list (gen : Nat) (s : ByteArray) (recs : List ByteArray) : (fileB gen s recs).data.toList = frs (bodies gen recs.length.succ s recs) := rfl
theorem fileB_pos (gen : Nat) (s : ByteArray) (recs : List ByteArray) : (fileB gen s recs).size ≠ 0 := by
  rw [size_list, fileB_list]
  simp only [bodies, frs, List.length_append, frame_length]
  omega
def laid (n : Int) (F : ByteArray) (D : Dk) : Dk := Dk.sync n (Dk.put F n (Dk.wipe n D))
theorem lay_quiet {D : Dk} {J : Jr} {s : ByteArray} {recs : List ByteArray} (h : Quiet D) (hj : J.file = 0 ∨ J.file = 1) (hg : J.gen < 2147483647) (hs : OkB (markS ++ s)) (hr : ∀ r ∈ recs, OkB (recB r))
    (hsp : (Dk.wipe (1 - J.file) D).b0.size + (Dk.wipe (1 - J.file) D).b1.size + (fileB (J.gen + 1) s recs).size ≤ D.lim) :
    jlay D J s recs = (0, laid (1 - J.file) (fileB (J.gen + 1) s recs) D, { J with file := 1 - J.file, gen := J.gen + 1 }) := by
  have hn : 1 - J.file = 0 ∨ 1 - J.file = 1 := by omega
  have hb : ∀ b ∈ bodies (J.gen + 1) (1 + recs.length) s recs, OkB b := by
    intro b hb
    simp only [bodies, List.mem_cons, List.mem_map] at hb
    rcases hb with rfl | rfl | ⟨r, hr', rfl⟩
    · exact headB_ok _ _
    · exact hs
    · exact hr r hr'
  have hF : (⟨(frs (bodies (J.gen + 1) (1 + recs.length) s recs)).toArray⟩ : ByteArray) = fileB (J.gen + 1) s recs := by unfold fileB; rw [Nat.add_comm 1 recs.length]
  have hl : (Dk.wipe (1 - J.file) D).lim = D.lim := by unfold Dk.wipe; split <;> rfl
  have ht : three D (1 - J.file) (fileB (J.gen + 1) s recs) = (0, laid (1 - J.file) (fileB (J.gen + 1) s recs) D) := by
    unfold three
    have e1 := clear_quiet h hn
    have e2 := append_quiet (h.wipe (1 - J.file)) hn (s := fileB (J.gen + 1) s recs) (by rw [hl]; exact hsp) (fileB_pos _ _ _)
    have e3 := sync_quiet ((h.wipe (1 - J.file)).put (fileB (J.gen + 1) s recs) (1 - J.file)) hn
    simp only [e1, e2, e3]
    rfl
  unfold jlay
  rw [if_neg (by omega)]
  simp only [lframes_texts, lfr_ok _ _ hb, List.nil_append, hF, ht]
  rfl
theorem add_quiet {D : Dk} {J : Jr} {b : ByteArray} (h : Quiet D) (hj : J.file = 0 ∨ J.file = 1) (hb : J.broken = false) (ho : OkB (recB b)) (hsp : D.b0.size + D.b1.size + (6 + (recB b).size) ≤ D.lim) :
    jadd D J b = (0, Dk.put ⟨(frame (recB b).data.toList).toArray⟩ J.file D, J) := by
  have hf : frameR (markR ++ b) = _ := frameR_ok ho
  have hsz : (⟨(frame (recB b).data.toList).toArray⟩ : ByteArray).size = 6 + (recB b).size := by rw [size_list, size_list (recB b)]; exact frame_length _
  have e := append_quiet h hj (s := ⟨(frame (recB b).data.toList).toArray⟩) (by rw [hsz]; exact hsp) (by rw [hsz]; omega)
  unfold jadd
  rw [if_neg (by rw [hb]; decide)]
  have hm : markR ++ b = recB b := rfl
  rw [hm] at hf ⊢
  simp only [hf, e]
  cases J
  simp only at hb
  subst hb
  rfl
theorem jsync_quiet {D : Dk} {J : Jr} (h : Quiet D) (hj : J.file = 0 ∨ J.file = 1) (hb : J.broken = false) : jsync D J = (0, Dk.sync J.file D, J) := by
  unfold jsync
  rw [if_neg (by rw [hb]; decide)]
  simp only [sync_quiet h hj]
  cases J
  simp only at hb
  subst hb
  rfl

/-! ### What the document fixes -/
def strA : ByteArray := ⟨#[97]⟩
def strBC : ByteArray := ⟨#[98, 99]⟩
theorem empty_append' (s : ByteArray) : (⟨#[]⟩ : ByteArray) ++ s = s := by
  apply ByteArray.ext; rw [ByteArray.data_append]; simp
theorem wakes_plain : ∃ D1 J1 D2 J2 D3 J3 D4 J4 D6 J6 I6, jopen (Dk.new 1000) = (0, D1, J1, Img.none_) ∧ J1.gen = 1 ∧ jadd D1 J1 strA = (0, D2, J2) ∧ jsync D2 J2 = (0, D3, J3) ∧ jadd D3 J3 strBC = (0, D4, J4) ∧ jopen (D4.crash []) = (0, D6, J6, I6) ∧ I6.state = ⟨#[]⟩ ∧ I6.recs = [strA] := by
  have hnew : Dk.new 1000 = ⟨⟨#[]⟩, ⟨#[]⟩, 0, 0, 1000, false, 0, [], 0, false⟩ := rfl
  have q0 : Quiet (Dk.new 1000) := ⟨rfl, rfl, rfl, rfl⟩
  have hsE : OkB (markS ++ ⟨#[]⟩) := by unfold OkB; decide
  have hA : OkB (recB strA) := by unfold OkB; decide
  have hBC : OkB (recB strBC) := by unfold OkB; decide
  have je : jread ⟨#[]⟩ = Img.none_ := jread_empty rfl
  have hf0 : jfound (Dk.new 1000) = (Img.none_, ⟨1, 0, false⟩) := by
    unfold jfound jstep jfirst
    simp only [hnew, Dk.bytes]
    simp only [je, if_pos]
    rfl
  have hFs : (fileB 1 ⟨#[]⟩ []).size = 29 := by rw [size_list, fileB_list]; rfl
  have l1 := lay_quiet (D := Dk.new 1000) (J := ⟨1, 0, false⟩) (s := ⟨#[]⟩) (recs := []) q0 (.inr rfl) (by decide) hsE (by simp) (by rw [show (0 : Nat) + 1 = 1 from rfl, hFs]; decide)
  have o1 : jopen (Dk.new 1000) = (0, laid 0 (fileB 1 ⟨#[]⟩ []) (Dk.new 1000), ⟨0, 1, false⟩, Img.none_) := by
    unfold jopen
    rw [if_neg (by decide), hf0]
    simp only [Img.none_]
    rw [l1]
    rfl
  have d1 : laid 0 (fileB 1 ⟨#[]⟩ []) (Dk.new 1000) = ⟨fileB 1 ⟨#[]⟩ [], ⟨#[]⟩, 29, 0, 1000, false, 0, [], 0, false⟩ := by
    rw [hnew]
    simp only [laid, Dk.wipe, Dk.put, Dk.sync, if_pos, empty_append', hFs]
  rw [d1] at o1
  have q1 : Quiet ⟨fileB 1 ⟨#[]⟩ [], ⟨#[]⟩, 29, 0, 1000, false, 0, [], 0, false⟩ := ⟨rfl, rfl, rfl, rfl⟩
  have a1 := add_quiet (J := ⟨0, 1, false⟩) (b := strA) q1 (.inl rfl) rfl hA (by simp only [hFs]; decide)
  have q2 := q1.put ⟨(frame (recB strA).data.toList).toArray⟩ 0
  have s2 := jsync_quiet (J := ⟨0, 1, false⟩) q2 (.inl rfl) rfl
  have q3 := q2.sync 0
  generalize hFA : (⟨(frame (recB strA).data.toList).toArray⟩ : ByteArray) = FA at *
  have hFAs : FA.size = 8 := by rw [← hFA]; rfl
  have hz : (fileB 1 ⟨#[]⟩ [] ++ FA).size = 37 := by rw [ByteArray.size_append, hFs, hFAs]
  have a3 := add_quiet (J := ⟨0, 1, false⟩) (b := strBC) q3 (.inl rfl) rfl hBC (by simp only [Dk.put, Dk.sync, if_pos, hz]; decide)
  generalize hFB : (⟨(frame (recB strBC).data.toList).toArray⟩ : ByteArray) = FB at *
  have hD4 : Dk.put FB (Jr.file ⟨0, 1, false⟩) (Dk.sync 0 (Dk.put FA 0 ⟨fileB 1 ⟨#[]⟩ [], ⟨#[]⟩, 29, 0, 1000, false, 0, [], 0, false⟩)) = ⟨fileB 1 ⟨#[]⟩ [] ++ FA ++ FB, ⟨#[]⟩, 37, 0, 1000, false, 0, [], 0, false⟩ := by
    simp only [Dk.put, Dk.sync, if_pos, hz]
  have hcut : cutTo (fileB 1 ⟨#[]⟩ [] ++ FA ++ FB) 37 0 = fileB 1 ⟨#[]⟩ [] ++ FA := by
    unfold cutTo
    rw [kept_zero, extract_at (s := fileB 1 ⟨#[]⟩ [] ++ FA ++ FB) (a := 0) (b := 37 + 0) (pre := []) (x := (fileB 1 ⟨#[]⟩ [] ++ FA).data.toList) (post := FB.data.toList) (by rw [ByteArray.data_append]; simp) rfl (by rw [← size_list, hz]; rfl)]
  have hcr : Dk.crash ⟨fileB 1 ⟨#[]⟩ [] ++ FA ++ FB, ⟨#[]⟩, 37, 0, 1000, false, 0, [], 0, false⟩ [] = ⟨fileB 1 ⟨#[]⟩ [] ++ FA, ⟨#[]⟩, 37, 0, 1000, false, 0, [], 0, false⟩ := by
    unfold Dk.crash
    rw [if_neg (show ¬ (false = true) by decide)]
    unfold Dk.lose Dk.on Dk.cleared
    simp only [List.getD_nil, hcut, hz]
    rfl
  have hj5 : jread (fileB 1 ⟨#[]⟩ [] ++ FA) = ⟨1, ⟨#[]⟩, [strA]⟩ := by
    have hl : (fileB 1 ⟨#[]⟩ [] ++ FA).data.toList = frs (bodies 1 1 ⟨#[]⟩ [strA]) ++ [] := by
      rw [ByteArray.data_append, Array.toList_append, fileB_list, ← hFA]
      simp [bodies, frs]
    rw [jread_bodies hl (by decide) (by decide) hsE (by intro r hr; simp only [List.mem_singleton] at hr; subst hr; exact hA) ?_]
    · rfl
    · rw [un_end (by rw [size_list, hl, List.append_nil])]
      decide
  have hf5 : jfound ⟨fileB 1 ⟨#[]⟩ [] ++ FA, ⟨#[]⟩, 37, 0, 1000, false, 0, [], 0, false⟩ = (⟨1, ⟨#[]⟩, [strA]⟩, ⟨0, 1, false⟩) := by
    unfold jfound jstep jfirst
    simp only [Dk.bytes, if_pos]
    rw [hj5, if_neg (show ¬ (1 : Int) = 0 by decide), je]
    rfl
  have hs6 : (fileB 2 ⟨#[]⟩ [strA]).size = 37 := by rw [size_list, fileB_list]; rfl
  have q5 : Quiet ⟨fileB 1 ⟨#[]⟩ [] ++ FA, ⟨#[]⟩, 37, 0, 1000, false, 0, [], 0, false⟩ := ⟨rfl, rfl, rfl, rfl⟩
  have l6 := lay_quiet (J := ⟨0, 1, false⟩) (s := ⟨#[]⟩) (recs := [strA]) q5 (.inl rfl) (by decide) hsE (by intro r hr; simp only [List.mem_singleton] at hr; subst hr; exact hA) (by
    rw [show (1 : Nat) + 1 = 2 from rfl, hs6]
    have e : Dk.wipe (1 - (0 : Int)) ⟨fileB 1 ⟨#[]⟩ [] ++ FA, ⟨#[]⟩, 37, 0, 1000, false, 0, [], 0, false⟩ = ⟨fileB 1 ⟨#[]⟩ [] ++ FA, ⟨#[]⟩, 37, 0, 1000, false, 0, [], 0, false⟩ := rfl
    rw [e]
    simp only [hz]
    decide)
  have o6 : ∃ D6 J6, jopen ⟨fileB 1 ⟨#[]⟩ [] ++ FA, ⟨#[]⟩, 37, 0, 1000, false, 0, [], 0, false⟩ = (0, D6, J6, ⟨1, ⟨#[]⟩, [strA]⟩) := by
    unfold jopen
    rw [if_neg (show ¬ (false = true) by decide), hf5]
    simp only
    rw [l6]
    exact ⟨_, _, rfl⟩
  obtain ⟨D6, J6, o6⟩ := o6
  exact ⟨_, _, _, _, _, _, _, _, D6, J6, ⟨1, ⟨#[]⟩, [strA]⟩, o1, rfl, a1, s2, a3, by rw [hD4, hcr]; exact o6, rfl, rfl⟩
end Go.Proofs.YtklcpckjmncdkaaGreatDoor
