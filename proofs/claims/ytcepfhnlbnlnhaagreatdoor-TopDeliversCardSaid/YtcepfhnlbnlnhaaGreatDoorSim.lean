/- THE PLAIN STATE AND THE PAIR: what they have in common. No walk. -/
import Derived.Test.YtcepfhnlbnlnhaaGreatDoorSnd
namespace Go.Proofs.YtcepfhnlbnlnhaaGreatDoor
set_option maxRecDepth 100000
open Go.RowKit

def msgOf (q : Nat → Nat) (i : Nat) : Msg := ⟨⟨#[116]⟩, keyB i, (q i : Int)⟩
def flOf (q : Nat → Nat) (s : St) (i : Nat) : Fl := ⟨(i : Int) + 1, msgOf q i, (s.ph i).rel⟩
def outOf (q : Nat → Nat) (most : Nat) (s : St) : OutS := ⟨true, most, s.a, s.fl.map (flOf q s), (List.range' s.a (s.next - s.a)).map (msgOf q)⟩
def tokT (q : Nat → Nat) (s : St) (dup : Nat → Bool) (i : Nat) : Pkt := if (s.ph i).rel then relOf ((i : Int) + 1) else pubOf (msgOf q i) ((i : Int) + 1) (dup i)
def tokB (s : St) (cd : Nat → Int) (i : Nat) : Pkt :=
  match s.ph i with
  | .a => ⟨4, false, 0, (i : Int) + 1, ⟨#[]⟩, ⟨#[]⟩, cd i⟩
  | .r => ⟨5, false, 0, (i : Int) + 1, ⟨#[]⟩, ⟨#[]⟩, 0⟩
  | _ => ⟨7, false, 0, (i : Int) + 1, ⟨#[]⟩, ⟨#[]⟩, cd i⟩
structure Sim (q : Nat → Nat) (most : Nat) (s : St) (p : PairS) : Prop where
  o : p.o = outOf q most s
  U : ∀ x : Int, x ∈ p.U ↔ ∃ i : Nat, x = (i : Int) + 1 ∧ (s.ph i).opn (q i) = true
  T : ∃ dup, p.T = s.there.map (tokT q s dup)
  B : ∃ cd, p.B = s.back.map (tokB s cd)
  K : ∀ i, i ∈ p.K ↔ 1 ≤ s.got i
  g : p.g = s.got
theorem newFl_range (q : Nat → Nat) : ∀ k a, newFl a ((List.range' a k).map (msgOf q)) = (List.range' a k).map fun i : Nat => (⟨(i : Int) + 1, msgOf q i, false⟩ : Fl)
  | 0, _ => rfl
  | k + 1, a => by
    rw [List.range'_succ, List.map_cons, List.map_cons, newFl, newFl_range q k (a + 1)]
theorem newPub_range (q : Nat → Nat) : ∀ k a, newPub a ((List.range' a k).map (msgOf q)) = (List.range' a k).map fun i : Nat => pubOf (msgOf q i) ((i : Int) + 1) false
  | 0, _ => rfl
  | k + 1, a => by
    rw [List.range'_succ, List.map_cons, List.map_cons, newPub, newPub_range q k (a + 1)]
theorem take_range {a m k : Nat} (h : k ≤ m) : (List.range' a m).take k = List.range' a k := by
  rw [List.take_range'_of_length_ge]
  all_goals omega
theorem out_gone {q : Nat → Nat} {n most k : Nat} {s : St} (h : Inv q n most s) (hk : k ≤ s.next - s.a) : (outOf q most s).gone k = outOf q most (s.opened k) := by
  unfold OutS.gone outOf
  rw [← List.map_take, ← List.map_drop, take_range hk, newFl_range]
  have e1 : s.fl.map (flOf q s) = s.fl.map (flOf q (s.opened k)) := List.map_congr_left fun i hi => by
    have := h.low i hi
    unfold flOf
    simp only [St.opened]
    rw [if_neg (by omega)]
  have e2 : ((List.range' s.a k).map fun i : Nat => (⟨(i : Int) + 1, msgOf q i, false⟩ : Fl)) = (List.range' s.a k).map (flOf q (s.opened k)) := List.map_congr_left fun i hi => by
    rw [List.mem_range'_1] at hi
    unfold flOf
    simp only [St.opened]
    rw [if_pos (by omega)]
    rfl
  have e3 : (List.range' s.a (s.next - s.a)).drop k = List.range' (s.a + k) (s.next - (s.a + k)) := by
    rw [List.drop_range', Nat.mul_one, Nat.sub_sub]
  rw [e1, e2, e3, ← List.map_append]
  rfl
theorem opened_ph {s : St} {k i : Nat} (h : i < s.a) : (s.opened k).ph i = s.ph i := by
  simp only [St.opened]
  rw [if_neg (by omega)]
theorem Sim.opened {q : Nat → Nat} {n most k : Nat} {s : St} {p : PairS} (h : Sim q most s p) (hI : Inv q n most s) (hk : k ≤ s.next - s.a) : Sim q most (s.opened k) { p with o := (outOf q most s).gone k, T := p.T ++ newPub s.a ((outOf q most s).wait.take k) } where
  o := out_gone hI hk
  U := fun x => by
    rw [h.U x]
    refine exists_congr fun i => and_congr_right fun _ => ?_
    simp only [St.opened]
    split
    · next hi => rw [hI.high i hi.1]; simp [Ph.opn]
    · exact Iff.rfl
  T := by
    obtain ⟨dup, hd⟩ := h.T
    refine ⟨fun i => if s.a ≤ i then false else dup i, ?_⟩
    have e1 : s.there.map (tokT q s dup) = s.there.map (tokT q (s.opened k) fun i => if s.a ≤ i then false else dup i) := List.map_congr_left fun i hi => by
      have := hI.low i (hI.perm.mem_iff.1 (List.mem_append_left _ hi))
      unfold tokT
      rw [opened_ph this]
      simp only []
      rw [if_neg (c := s.a ≤ i) (by omega)]
    have e2 : newPub s.a ((outOf q most s).wait.take k) = (List.range' s.a k).map (tokT q (s.opened k) fun i => if s.a ≤ i then false else dup i) := by
      unfold outOf
      rw [← List.map_take, take_range hk, newPub_range]
      refine List.map_congr_left fun i hi => ?_
      rw [List.mem_range'_1] at hi
      have hp : (s.opened k).ph i = .p0 := by simp only [St.opened]; rw [if_pos (by omega)]
      unfold tokT
      simp only [hp, Ph.rel, if_pos hi.1]
      rfl
    show p.T ++ newPub s.a ((outOf q most s).wait.take k) = (s.there ++ List.range' s.a k).map _
    rw [hd, e1, e2, List.map_append]
  B := by
    obtain ⟨cd, hd⟩ := h.B
    refine ⟨cd, ?_⟩
    show p.B = s.back.map _
    rw [hd]
    refine List.map_congr_left fun i hi => ?_
    have := hI.low i (hI.perm.mem_iff.1 (List.mem_append_right _ hi))
    unfold tokB
    rw [opened_ph this]
  K := h.K
  g := h.g
theorem again_rel (x : Ph) : x.again.rel = x.rel := by cases x <;> rfl
theorem flOf_broken (q : Nat → Nat) (s : St) : flOf q s.broken = flOf q s := by
  funext i
  unfold flOf St.broken
  simp only [again_rel]
theorem outOf_broken (q : Nat → Nat) (most : Nat) (s : St) : outOf q most s.broken = outOf q most s := by
  unfold outOf
  rw [flOf_broken]
  rfl
theorem opn_again {q g : Nat} {x : Ph} (h : PhOk q g x) : x.again.opn q = x.opn q := by
  revert h
  cases x <;> simp [PhOk, Ph.again, Ph.opn] <;> omega
theorem Sim.broken {q : Nat → Nat} {n most : Nat} {s : St} {p : PairS} (h : Sim q most s p) (hI : Inv q n most s) : Sim q most s.broken { p with o := outOf q most s, T := (outOf q most s).fl.map againOf, B := [] } where
  o := (outOf_broken q most s).symm
  U := fun x => by
    rw [h.U x]
    refine exists_congr fun i => and_congr_right fun _ => ?_
    simp only [St.broken]
    rw [opn_again (hI.ok i)]
  T := by
    refine ⟨fun _ => true, ?_⟩
    show (s.fl.map (flOf q s)).map againOf = s.fl.map _
    rw [List.map_map]
    refine List.map_congr_left fun i _ => ?_
    show againOf (flOf q s i) = tokT q s.broken _ i
    unfold tokT againOf flOf St.broken
    simp only [again_rel]
  B := ⟨fun _ => 0, rfl⟩
  K := h.K
  g := h.g
theorem tokB_upd {s : St} {cd : Nat → Int} {i j : Nat} {x : Ph} {c : Int} {B G T : List Nat} {g : Nat → Nat} (h : j ≠ i) : tokB { s with ph := upd s.ph i x, there := T, back := B, got := g, fl := G } (upd cd i c) j = tokB s cd j := by
  unfold tokB
  simp only [upd_other _ _ h]
theorem taken_rel {q : Nat} {x : Ph} (h : x.there) : (x.taken q).rel = x.rel := by
  revert h
  by_cases hq : q = 1 <;> cases x <;> simp [Ph.there, Ph.taken, Ph.rel, hq]
theorem flOf_moved {q : Nat → Nat} {s : St} {i : Nat} {t : List Nat} (h : (s.ph i).there) : flOf q (s.moved q i t) = flOf q s := by
  funext k
  unfold flOf
  by_cases e : k = i
  · subst e
    simp only [St.moved, upd_same, taken_rel h]
  · simp only [St.moved, upd_other _ _ e]
theorem Sim.moved {q : Nat → Nat} {n most i : Nat} {t : List Nat} {s : St} {p : PairS} (h : Sim q most s p) (hI : Inv q n most s) (ht : s.there = i :: t) (dup : Nat → Bool) {T : List Pkt} (hT : T = t.map (tokT q s dup)) (U' : List Int) (c : Int)
    (hU : ∀ x : Int, x ∈ U' ↔ (x ≠ (i : Int) + 1 ∧ x ∈ p.U) ∨ (x = (i : Int) + 1 ∧ ((s.ph i).taken (q i)).opn (q i) = true)) :
    Sim q most (s.moved q i t) { p with U := U', T := T, B := p.B ++ [tokB (s.moved q i t) (fun _ => c) i], K := if (s.ph i).counts (q i) then (if i ∈ p.K then p.K else p.K ++ [i]) else p.K, g := (s.moved q i t).got } where
  o := by
    rw [h.o]
    unfold outOf
    rw [flOf_moved (hI.there i (by rw [ht]; simp))]
    rfl
  U := fun x => by
    rw [hU x, h.U x]
    constructor
    · rintro (⟨hne, j, rfl, hj⟩ | ⟨rfl, hj⟩)
      · refine ⟨j, rfl, ?_⟩
        simp only [St.moved]
        rw [upd_other _ _ (fun e => hne (by rw [e]))]
        exact hj
      · refine ⟨i, rfl, ?_⟩
        simp only [St.moved, upd_same]
        exact hj
    · rintro ⟨j, rfl, hj⟩
      by_cases e : j = i
      · subst e
        simp only [St.moved, upd_same] at hj
        exact .inr ⟨rfl, hj⟩
      · simp only [St.moved] at hj
        rw [upd_other _ _ e] at hj
        exact .inl ⟨by omega, j, rfl, hj⟩
  T := by
    refine ⟨dup, ?_⟩
    show T = t.map _
    rw [hT]
    refine List.map_congr_left fun k hk => ?_
    have hnd : (s.there ++ s.back).Nodup := hI.perm.nodup_iff.2 hI.nodup
    rw [ht, List.cons_append, List.nodup_cons] at hnd
    have hki : k ≠ i := fun e => hnd.1 (List.mem_append_left _ (e ▸ hk))
    unfold tokT
    simp only [St.moved, upd_other _ _ hki]
  B := by
    obtain ⟨cd, hd⟩ := h.B
    refine ⟨upd cd i c, ?_⟩
    show p.B ++ _ = (s.back ++ [i]).map _
    rw [List.map_append, hd, List.map_cons, List.map_nil]
    congr 1
    · refine List.map_congr_left fun k hk => ?_
      have hnd : (s.there ++ s.back).Nodup := hI.perm.nodup_iff.2 hI.nodup
      rw [ht, List.cons_append, List.nodup_cons] at hnd
      have hki : k ≠ i := fun e => hnd.1 (List.mem_append_right _ (e ▸ hk))
      unfold tokB
      simp only [St.moved, upd_other _ _ hki]
    · unfold tokB
      simp only [upd_same]
  K := fun k => by
    simp only [St.moved]
    by_cases hc : (s.ph i).counts (q i) = true
    · rw [if_pos hc, if_pos hc]
      by_cases e : k = i
      · subst e
        rw [upd_same]
        split
        · next hm => exact ⟨fun _ => by omega, fun _ => hm⟩
        · exact ⟨fun _ => by omega, fun _ => by simp⟩
      · rw [upd_other _ _ e, ← h.K k]
        split
        · exact Iff.rfl
        · simp [e]
    · rw [if_neg hc, if_neg hc, Nat.add_zero, h.K k]
      by_cases e : k = i
      · subst e; rw [upd_same]
      · rw [upd_other _ _ e]
  g := rfl
theorem erase_at {l : List Nat} {i : Nat} (h : i ∈ l) : ∃ k, ∃ hk : k < l.length, l[k] = i ∧ l.erase i = l.eraseIdx k := by
  obtain ⟨k, hk, e⟩ := List.mem_iff_getElem.1 h
  refine ⟨l.idxOf i, List.idxOf_lt_length_iff.2 h, List.getElem_idxOf _, ?_⟩
  rw [List.erase_eq_eraseIdx_of_idxOf]
  rfl
theorem flOf_upd {q : Nat → Nat} {s s' : St} {i : Nat} {x : Ph} (hp : s'.ph = upd s.ph i x) {l : List Nat} (h : i ∉ l) : l.map (flOf q s') = l.map (flOf q s) := List.map_congr_left fun k hk => by
  have hki : k ≠ i := fun e => h (e ▸ hk)
  unfold flOf
  rw [hp, upd_other _ _ hki]
theorem erase_idx : ∀ {l : List Nat} (_ : l.Nodup) {k : Nat} (hk : k < l.length), l.erase l[k] = l.eraseIdx k
  | a :: l, _, 0, _ => by simp
  | a :: l, hn, k + 1, hk => by
    rw [List.nodup_cons] at hn
    have hk' : k < l.length := by simpa using hk
    have hne : a ≠ l[k] := fun e => hn.1 (e ▸ List.getElem_mem hk')
    rw [List.getElem_cons_succ, List.erase_cons_tail (by simpa using hne), List.eraseIdx_cons_succ, erase_idx hn.2 hk']
theorem Sim.done {q : Nat → Nat} {n most i : Nat} {t : List Nat} {s : St} {p : PairS} (h : Sim q most s p) (hI : Inv q n most s) (ht : s.back = i :: t) (hr : (s.ph i).isR = false) {k : Nat} (hk : k < s.fl.length) (hki : s.fl[k] = i) (cd : Nat → Int) {B : List Pkt} (hB : B = t.map (tokB s cd)) :
    Sim q most (s.done i t) { p with o := { outOf q most s with fl := (outOf q most s).fl.eraseIdx k }, B := B } where
  o := by
    unfold outOf
    have e : s.fl.erase i = s.fl.eraseIdx k := by rw [← hki]; exact erase_idx hI.nodup hk
    have e2 : (s.fl.map (flOf q s)).eraseIdx k = (s.fl.erase i).map (flOf q (s.done i t)) := by
      rw [flOf_upd (q := q) (s := s) (s' := s.done i t) (i := i) (x := .d) (l := s.fl.erase i) rfl (by rw [hI.nodup.mem_erase_iff]; simp), e, List.eraseIdx_eq_take_drop_succ, List.eraseIdx_eq_take_drop_succ, List.map_append, List.map_take, List.map_drop]
    simp only [e2]
    rfl
  U := fun x => by
    rw [h.U x]
    refine exists_congr fun j => and_congr_right fun _ => ?_
    by_cases e : j = i
    · subst e
      have hb := hI.back j (by rw [ht]; simp)
      simp only [St.done, upd_same]
      revert hb hr
      cases s.ph j <;> simp [Ph.back, Ph.isR, Ph.opn]
    · simp only [St.done, upd_other _ _ e]
  T := by
    obtain ⟨dup, hd⟩ := h.T
    refine ⟨dup, ?_⟩
    show p.T = s.there.map _
    rw [hd]
    refine List.map_congr_left fun j hj => ?_
    have hnd : (s.there ++ s.back).Nodup := hI.perm.nodup_iff.2 hI.nodup
    rw [ht, List.nodup_append] at hnd
    have hji : j ≠ i := fun e => hnd.2.2 j hj i (by simp) e
    unfold tokT
    simp only [St.done, upd_other _ _ hji]
  B := by
    refine ⟨cd, ?_⟩
    show B = t.map _
    rw [hB]
    refine List.map_congr_left fun j hj => ?_
    have hnd : (s.there ++ s.back).Nodup := hI.perm.nodup_iff.2 hI.nodup
    rw [ht, List.nodup_append, List.nodup_cons] at hnd
    have hji : j ≠ i := fun e => hnd.2.1.1 (e ▸ hj)
    unfold tokB
    simp only [St.done, upd_other _ _ hji]
  K := h.K
  g := h.g
theorem Sim.released {q : Nat → Nat} {n most i : Nat} {t : List Nat} {s : St} {p : PairS} (h : Sim q most s p) (hI : Inv q n most s) (ht : s.back = i :: t) (hr : (s.ph i).isR = true) {k : Nat} (hk : k < s.fl.length) (hki : s.fl[k] = i) (cd : Nat → Int) {B : List Pkt} (hB : B = t.map (tokB s cd)) :
    Sim q most (s.released i t) { p with o := { outOf q most s with fl := (outOf q most s).fl.set k ⟨(i : Int) + 1, msgOf q i, true⟩ }, T := p.T ++ [relOf ((i : Int) + 1)], B := B } where
  o := by
    unfold outOf
    have e2 : (s.fl.map (flOf q s)).set k ⟨(i : Int) + 1, msgOf q i, true⟩ = s.fl.map (flOf q (s.released i t)) := by
      refine List.ext_getElem (by simp) fun j hj1 hj2 => ?_
      have hj : j < s.fl.length := by simpa using hj2
      rw [List.getElem_set, List.getElem_map, List.getElem_map]
      by_cases e : k = j
      · subst e
        rw [if_pos rfl, hki]
        unfold flOf
        simp only [St.released, upd_same]
        rfl
      · rw [if_neg e]
        have hne : s.fl[j] ≠ i := fun e2 => e (by
          rw [← hki] at e2
          rcases Nat.lt_trichotomy k j with h1 | h1 | h1
          · exact absurd e2.symm (List.pairwise_iff_getElem.1 hI.nodup k j hk hj h1)
          · exact h1
          · exact absurd e2 (List.pairwise_iff_getElem.1 hI.nodup j k hj hk h1))
        unfold flOf
        simp only [St.released, upd_other _ _ hne]
    simp only [e2]
    rfl
  U := fun x => by
    rw [h.U x]
    refine exists_congr fun j => and_congr_right fun _ => ?_
    by_cases e : j = i
    · subst e
      simp only [St.released, upd_same]
      revert hr
      cases s.ph j <;> simp [Ph.isR, Ph.opn]
    · simp only [St.released, upd_other _ _ e]
  T := by
    obtain ⟨dup, hd⟩ := h.T
    refine ⟨dup, ?_⟩
    show p.T ++ _ = (s.there ++ [i]).map _
    rw [hd, List.map_append]
    congr 1
    · refine List.map_congr_left fun j hj => ?_
      have hnd : (s.there ++ s.back).Nodup := hI.perm.nodup_iff.2 hI.nodup
      rw [ht, List.nodup_append] at hnd
      have hji : j ≠ i := fun e => hnd.2.2 j hj i (by simp) e
      unfold tokT
      simp only [St.released, upd_other _ _ hji]
    · simp [tokT, St.released, upd_same, Ph.rel]
  B := by
    refine ⟨cd, ?_⟩
    show B = t.map _
    rw [hB]
    refine List.map_congr_left fun j hj => ?_
    have hnd : (s.there ++ s.back).Nodup := hI.perm.nodup_iff.2 hI.nodup
    rw [ht, List.nodup_append, List.nodup_cons] at hnd
    have hji : j ≠ i := fun e => hnd.2.1.1 (e ▸ hj)
    unfold tokB
    simp only [St.released, upd_other _ _ hji]
  K := h.K
  g := h.g
end Go.Proofs.YtcepfhnlbnlnhaaGreatDoor
