/- A MOVE OF THE PAIR is a move of the plain state. -/
import Derived.Test.YtcepfhnlbnlnhaaGreatDoorJoin
namespace Go.Proofs.YtcepfhnlbnlnhaaGreatDoor
set_option maxRecDepth 100000
open Go.RowKit

theorem nodup_le {α : Type} [BEq α] [LawfulBEq α] : ∀ (l L : List α), l.Nodup → (∀ x ∈ l, x ∈ L) → l.length ≤ L.length
  | [], _, _, _ => Nat.zero_le _
  | x :: l, L, h, hs => by
    rw [List.nodup_cons] at h
    have h1 := nodup_le l (L.erase x) h.2 fun y hy => by
      have hyx : y ≠ x := fun e => h.1 (e ▸ hy)
      exact (List.mem_erase_of_ne hyx).2 (hs y (List.mem_cons_of_mem _ hy))
    have h2 := List.length_erase_of_mem (hs x (by simp))
    have h3 := List.length_pos_of_mem (hs x (by simp))
    rw [List.length_cons]
    omega
section
variable {w : World}
theorem opn_low {q : Nat → Nat} {n most i : Nat} {s : St} (hI : Inv q n most s) (h : (s.ph i).opn (q i) = true) : i < n := by
  rcases Nat.lt_or_ge i s.a with h1 | h1
  · have := hI.an; have := hI.nn; omega
  · rw [hI.high i h1] at h; simp [Ph.opn] at h
theorem got_low {q : Nat → Nat} {n most i : Nat} {s : St} (hI : Inv q n most s) (h : 1 ≤ s.got i) : i < n := by
  rcases Nat.lt_or_ge i s.a with h1 | h1
  · have := hI.an; have := hI.nn; omega
  · have := hI.ok i
    rw [hI.high i h1] at this
    simp only [PhOk] at this
    omega
theorem PairA.lens {q : Nat → Nat} {n most pr : Nat} {s : St} {p : PairS} {P : List Nat} (hP : PairA w pr P p) (hs : Sim q most s p) (hI : Inv q n most s) : p.U.length ≤ n ∧ p.K.length ≤ n ∧ p.B.length ≤ most ∧ p.T.length ≤ most := by
  obtain ⟨fb, ib, ipb, imb, gb, F, vt, vb, h, rfl⟩ := hP
  refine ⟨?_, ?_, ?_, ?_⟩
  · have := nodup_le p.U ((List.range n).map fun i : Nat => (i : Int) + 1) h.inn.pool.set.nodup fun x hx => by
      obtain ⟨i, rfl, hi⟩ := (hs.U x).1 hx
      exact List.mem_map.2 ⟨i, List.mem_range.2 (opn_low hI hi), rfl⟩
    simpa using this
  · have := nodup_le p.K (List.range n) h.got.nodup fun x hx => List.mem_range.2 (got_low hI ((hs.K x).1 hx))
    simpa using this
  · obtain ⟨cd, hd⟩ := hs.B
    rw [hd, List.length_map]
    have := hI.perm.length_eq
    rw [List.length_append] at this
    have := hI.few
    omega
  · obtain ⟨dup, hd⟩ := hs.T
    rw [hd, List.length_map]
    have := hI.perm.length_eq
    rw [List.length_append] at this
    have := hI.few
    omega
/-- The receiver takes the packet that comes. -/
theorem take_tok {q : Nat → Nat} {n most i : Nat} {t : List Nat} {s : St} {p : PairS} (hs : Sim q most s p) (hI : Inv q n most s) (hq : ∀ i, q i = 1 ∨ q i = 2) (hn : n ≤ 40) (hlen : p.U.length ≤ n) (hnd : p.U.Nodup) (ht : s.there = i :: t) (dup : Nat → Bool) :
    ((s.ph i).counts (q i) = true → (tokT q s dup i).k = 3 ∧ (tokT q s dup i).b = keyB i) ∧ ∃ U' : List Int, (∀ x : Int, x ∈ U' ↔ (x ≠ (i : Int) + 1 ∧ x ∈ p.U) ∨ (x = (i : Int) + 1 ∧ ((s.ph i).taken (q i)).opn (q i) = true)) ∧
      ∀ (W : World) (ib ipb imb : Nat), InAt W ib ipb imb 64 0 p.U → Calls Tryz.prog 18 #[.pointer (some ⟨ib, 0, none⟩), .agg (tokT q s dup i).enc, .int .u8 0] W fun e w' => ∃ c, Took W ib ipb imb 64 0 U' ((s.ph i).counts (q i)) (tokB (s.moved q i t) (fun _ => c) i) e w' := by
  have hmem : i ∈ s.fl := hI.perm.mem_iff.1 (by rw [ht]; simp)
  have hlow := hI.low i hmem
  have han := hI.an
  have hnn := hI.nn
  have hth := hI.there i (by rw [ht]; simp)
  have hUi : ((i : Int) + 1 ∈ p.U) ↔ (s.ph i).opn (q i) = true := by
    rw [hs.U]
    constructor
    · rintro ⟨j, hj, ho⟩
      obtain rfl : i = j := by omega
      exact ho
    · exact fun ho => ⟨i, rfl, ho⟩
  have htok : ∀ c, tokB (s.moved q i t) (fun _ => c) i = match (s.ph i).taken (q i) with
      | .a => ⟨4, false, 0, (i : Int) + 1, ⟨#[]⟩, ⟨#[]⟩, c⟩
      | .r => ⟨5, false, 0, (i : Int) + 1, ⟨#[]⟩, ⟨#[]⟩, 0⟩
      | _ => ⟨7, false, 0, (i : Int) + 1, ⟨#[]⟩, ⟨#[]⟩, c⟩ := fun c => by
    unfold tokB
    simp only [St.moved, upd_same]
    generalize (s.ph i).taken (q i) = y
    cases y <;> rfl
  have htt : tokT q s dup i = if (s.ph i).rel then relOf ((i : Int) + 1) else pubOf (msgOf q i) ((i : Int) + 1) (dup i) := rfl
  simp only [htok]
  rw [htt]
  generalize s.ph i = x at *
  have hid1 : (1 : Int) ≤ (i : Int) + 1 := by omega
  have hid2 : (i : Int) + 1 ≤ 65535 := by omega
  have hrelc : x.rel = true → x.there → x.counts (q i) = false ∧ x.taken (q i) = .c := fun hr hx => by
    revert hr hx
    cases x <;> simp [Ph.rel, Ph.there, Ph.counts, Ph.taken]
  by_cases hr : x.rel = true
  · obtain ⟨hc, htk⟩ := hrelc hr hth
    rw [hr, if_pos rfl, hc, htk]
    refine ⟨fun h => (by cases h), p.U.erase ((i : Int) + 1), fun y => ?_, fun W ib ipb imb hW => ?_⟩
    · rw [hnd.mem_erase_iff]
      simp [Ph.opn]
    · exact (take_rel hW hid1 hid2).mono fun e w' h => h
  · have hr0 : x.rel = false := by simpa using hr
    rw [hr0, if_neg Bool.false_ne_true]
    refine ⟨fun _ => ⟨rfl, rfl⟩, ?_⟩
    rcases hq i with e | e
    · have e1 : pubOf (msgOf q i) ((i : Int) + 1) (dup i) = ⟨3, dup i, 1, (i : Int) + 1, ⟨#[116]⟩, keyB i, 0⟩ := by
        unfold pubOf msgOf
        rw [e]
        rfl
      have hx : x.counts (q i) = true ∧ x.taken (q i) = .a ∧ x.opn (q i) = false := by
        rw [e]
        revert hth hr0
        cases x <;> simp [Ph.rel, Ph.there, Ph.counts, Ph.taken, Ph.opn]
      obtain ⟨hc, htk, ho⟩ := hx
      have hni : (i : Int) + 1 ∉ p.U := fun hm => by
        have := hUi.1 hm
        rw [ho] at this
        cases this
      rw [hc, htk, e1]
      refine ⟨p.U, fun y => ?_, fun W ib ipb imb hW => ?_⟩
      · constructor
        · intro hy
          have hne : y ≠ (i : Int) + 1 := fun e2 => hni (e2 ▸ hy)
          exact .inl ⟨hne, hy⟩
        · rintro (⟨-, hy⟩ | ⟨-, hy⟩)
          · exact hy
          · simp [Ph.opn] at hy
      · exact (take_one hW (dup i) hid1 hid2 ⟨#[116]⟩ (keyB i)).mono fun e w' h => ⟨0, h⟩
    · have e1 : pubOf (msgOf q i) ((i : Int) + 1) (dup i) = ⟨3, dup i, 2, (i : Int) + 1, ⟨#[116]⟩, keyB i, 0⟩ := by
        unfold pubOf msgOf
        rw [e]
        rfl
      have hx : x.counts (q i) = !x.opn (q i) ∧ x.taken (q i) = .r := by
        rw [e]
        revert hth hr0
        cases x <;> simp [Ph.rel, Ph.there, Ph.counts, Ph.taken, Ph.opn]
      obtain ⟨hc, htk⟩ := hx
      have hbool : x.opn (q i) = decide ((i : Int) + 1 ∈ p.U) := by
        rw [Bool.eq_iff_iff, decide_eq_true_iff]
        exact hUi.symm
      rw [hc, htk, e1, hbool]
      refine ⟨if (i : Int) + 1 ∈ p.U then p.U else p.U ++ [(i : Int) + 1], fun y => ?_, fun W ib ipb imb hW => ?_⟩
      · by_cases hm : (i : Int) + 1 ∈ p.U
        · rw [if_pos hm]
          by_cases hy : y = (i : Int) + 1
          · subst hy
            simp [Ph.opn, hm]
          · simp [hy]
        · rw [if_neg hm]
          by_cases hy : y = (i : Int) + 1
          · subst hy
            simp [Ph.opn]
          · simp [hy]
      · exact (take_two hW (Nat.le_refl 64) (by omega) (dup i) hid1 hid2 ⟨#[116]⟩ (keyB i)).mono fun e w' h => ⟨0, h⟩
def St.move (s : St) (q : Nat → Nat) : St :=
  match s.there with
  | [] => s
  | i :: t => s.moved q i t
theorem move_sim {q : Nat → Nat} {n most pr G : Nat} {s : St} {p : PairS} {P : List Nat} (hP : PairA w pr P p) (hs : Sim q most s p) (hI : Inv q n most s) (hq : ∀ i, q i = 1 ∨ q i = 2) (hn : n ≤ 40) (hm : most ≤ 64) (hg : ∀ i, s.got i ≤ G) (hG : G < 900000) :
    Calls Tryz.prog 12 #[.pointer (some ⟨pr, 0, none⟩)] w fun e w' => e = .returned (.bool true) ∧ ∃ p', Stepped w pr P p' w' ∧ Sim q most (s.move q) p' := by
  obtain ⟨l1, l2, l3, l4⟩ := hP.lens hs hI
  obtain ⟨dup, hd⟩ := hs.T
  unfold St.move
  cases ht : s.there with
  | nil =>
    rw [ht] at hd
    exact (move_none hP hd).mono fun e w' h => ⟨h.1, p, h.2, hs⟩
  | cons i t =>
    rw [ht, List.map_cons] at hd
    have hnd : p.U.Nodup := by
      obtain ⟨fb, ib, ipb, imb, gb, F, vt, vb, h, -⟩ := hP
      exact h.inn.pool.set.nodup
    have hmem : i ∈ s.fl := hI.perm.mem_iff.1 (by rw [ht]; simp)
    have hlow := hI.low i hmem
    have han := hI.an
    have hnn := hI.nn
    obtain ⟨hb, U', hU, hTake⟩ := take_tok hs hI hq hn l1 hnd ht dup
    have hgi : p.g i < 1000000 := by
      rw [hs.g]
      have := hg i
      omega
    refine (move_step hP (tokT q s dup i) (t.map (tokT q s dup)) hd (by omega) U' ((s.ph i).counts (q i)) (fun c => tokB (s.moved q i t) (fun _ => c) i) i hTake hb (by omega) (by omega) hgi
      (fun r => if (s.ph i).counts (q i) then { r with K := if i ∈ p.K then p.K else p.K ++ [i], g := upd p.g i (p.g i + 1) } else r) (fun _ => rfl)).mono ?_
    rintro e w' ⟨he, c, hst⟩
    refine ⟨he, _, hst, ?_⟩
    have hsim := hs.moved hI ht dup (T := t.map (tokT q s dup)) rfl U' c hU
    have hge : (s.moved q i t).got = upd s.got i (s.got i + if (s.ph i).counts (q i) then 1 else 0) := rfl
    rw [hge] at hsim
    by_cases hc : (s.ph i).counts (q i) = true
    · simp only [hc, if_true] at hsim ⊢
      rw [hs.g]
      exact hsim
    · have hc0 : (s.ph i).counts (q i) = false := by simpa using hc
      simp only [hc0, Bool.false_eq_true, if_false, Nat.add_zero] at hsim ⊢
      have hgg : upd s.got i (s.got i) = p.g := by
        rw [hs.g]
        funext k
        by_cases hk : k = i
        · subst hk; exact upd_same _ _ _
        · exact upd_other _ _ hk
      rw [hgg] at hsim
      exact hsim
end
end Go.Proofs.YtcepfhnlbnlnhaaGreatDoor
