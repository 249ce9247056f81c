/- PLAIN LAW of the statement TopDelivers: messages on their way, over connections that break. No program in sight. -/
import Derived.Test.YtcepfhnlbnlnhaaGreatDoorGet
namespace Go.Proofs.YtcepfhnlbnlnhaaGreatDoor

set_option maxRecDepth 100000
/-- Where a message is: it waits; published, not taken yet; published, taken already; its answer is on its way (QoS 1; QoS 2); to be released (open; not open); its last answer is on its way; done. -/
inductive Ph where
  | w | p0 | p1 | a | r | l1 | l0 | c | d
structure St where
  ph : Nat → Ph
  got : Nat → Nat
  there : List Nat
  back : List Nat
  fl : List Nat
  a : Nat
  next : Nat
def upd {α : Type} (f : Nat → α) (i : Nat) (x : α) : Nat → α := fun k => if k = i then x else f k
theorem upd_same {α : Type} (f : Nat → α) (i : Nat) (x : α) : upd f i x i = x := if_pos rfl
theorem upd_other {α : Type} (f : Nat → α) {i k : Nat} (x : α) (h : k ≠ i) : upd f i x k = f k := if_neg h
/-- What was counted fits where the message is. -/
def PhOk (q g : Nat) : Ph → Prop
  | .w => g = 0
  | .p0 => g = 0
  | .p1 => 1 ≤ g ∧ (q = 2 → g = 1)
  | .a => q = 1 ∧ 1 ≤ g
  | .r => q = 2 ∧ g = 1
  | .l1 => q = 2 ∧ g = 1
  | .l0 => q = 2 ∧ g = 1
  | .c => q = 2 ∧ g = 1
  | .d => 1 ≤ g ∧ (q = 2 → g = 1)
def Ph.there : Ph → Prop
  | .p0 | .p1 | .l1 | .l0 => True
  | _ => False
def Ph.back : Ph → Prop
  | .a | .r | .c => True
  | _ => False
def Ph.rel : Ph → Bool
  | .l1 | .l0 | .c => true
  | _ => false
/-- Is the identifier open at the receiver? -/
def Ph.opn (q : Nat) : Ph → Bool
  | .r | .l1 => true
  | .p1 => q == 2
  | _ => false
structure Inv (q : Nat → Nat) (n most : Nat) (s : St) : Prop where
  an : s.a ≤ s.next
  nn : s.next ≤ n
  few : s.fl.length ≤ most
  perm : (s.there ++ s.back).Perm s.fl
  nodup : s.fl.Nodup
  low : ∀ i ∈ s.fl, i < s.a
  high : ∀ i, s.a ≤ i → s.ph i = .w
  over : ∀ i, i < s.a → i ∉ s.fl → s.ph i = .d
  there : ∀ i ∈ s.there, (s.ph i).there
  back : ∀ i ∈ s.back, (s.ph i).back
  ok : ∀ i, PhOk (q i) (s.got i) (s.ph i)
def Full (most : Nat) (s : St) : Prop := s.a < s.next → s.fl.length = most
/-- So many of those that wait go on their way. -/
def St.opened (s : St) (k : Nat) : St :=
  { s with ph := fun i => if s.a ≤ i ∧ i < s.a + k then .p0 else s.ph i, there := s.there ++ List.range' s.a k, fl := s.fl ++ List.range' s.a k, a := s.a + k }
/-- How many may go. -/
def St.room (s : St) (most : Nat) : Nat := min (s.next - s.a) (most - s.fl.length)
def St.goOn (s : St) (most : Nat) : St := s.opened (s.room most)
theorem nodup_range' (a k : Nat) : (List.range' a k).Nodup := List.nodup_range'
theorem Inv.opened {q : Nat → Nat} {n most k : Nat} {s : St} (h : Inv q n most s) (h1 : s.a + k ≤ s.next) (h2 : s.fl.length + k ≤ most) : Inv q n most (s.opened k) where
  an := h1
  nn := h.nn
  few := by simp only [St.opened, List.length_append, List.length_range']; exact h2
  perm := by
    simp only [St.opened]
    have e : (s.there ++ List.range' s.a k ++ s.back).Perm (s.there ++ s.back ++ List.range' s.a k) := by
      rw [List.append_assoc, List.append_assoc]
      exact List.Perm.append_left _ List.perm_append_comm
    exact e.trans (h.perm.append_right _)
  nodup := by
    simp only [St.opened]
    rw [List.nodup_append]
    refine ⟨h.nodup, nodup_range' _ _, fun x hx y hy => ?_⟩
    have := h.low x hx
    rw [List.mem_range'_1] at hy
    omega
  low := by
    intro i hi
    simp only [St.opened] at hi ⊢
    rcases List.mem_append.1 hi with hi | hi
    · have := h.low i hi; omega
    · rw [List.mem_range'_1] at hi; omega
  high := by
    intro i hi
    simp only [St.opened] at hi ⊢
    rw [if_neg (by omega)]
    exact h.high i (by omega)
  over := by
    intro i hi hn
    simp only [St.opened] at hi hn ⊢
    rw [List.mem_append, List.mem_range'_1] at hn
    rw [if_neg (by omega)]
    exact h.over i (by omega) (fun hm => hn (.inl hm))
  there := by
    intro i hi
    simp only [St.opened] at hi ⊢
    rcases List.mem_append.1 hi with hi | hi
    · have := h.low i (h.perm.mem_iff.1 (List.mem_append_left _ hi))
      rw [if_neg (by omega)]
      exact h.there i hi
    · rw [List.mem_range'_1] at hi
      rw [if_pos (by omega)]
      trivial
  back := by
    intro i hi
    simp only [St.opened] at hi ⊢
    have := h.low i (h.perm.mem_iff.1 (List.mem_append_right _ hi))
    rw [if_neg (by omega)]
    exact h.back i hi
  ok := by
    intro i
    simp only [St.opened]
    by_cases hi : s.a ≤ i ∧ i < s.a + k
    · rw [if_pos hi]
      have := h.ok i
      rw [h.high i hi.1] at this
      exact this
    · rw [if_neg hi]
      exact h.ok i
theorem Inv.goOn {q : Nat → Nat} {n most : Nat} {s : St} (h : Inv q n most s) : Inv q n most (s.goOn most) ∧ Full most (s.goOn most) := by
  have han := h.an
  have hf := h.few
  refine ⟨h.opened (by unfold St.room; omega) (by unfold St.room; omega), ?_⟩
  unfold Full St.goOn St.opened St.room
  simp only [List.length_append, List.length_range']
  omega
/-- A message is to be sent. -/
def St.send (s : St) (most : Nat) : St := { s with next := s.next + 1 }.goOn most
theorem Inv.send {q : Nat → Nat} {n most : Nat} {s : St} (h : Inv q n most s) (hn : s.next < n) : Inv q n most (s.send most) ∧ Full most (s.send most) :=
  Inv.goOn { h with an := Nat.le_trans h.an (Nat.le_succ _), nn := hn }
/-- The connection breaks, and another is there. -/
def Ph.again : Ph → Ph
  | .a => .p1
  | .r => .p1
  | .c => .l0
  | x => x
def St.broken (s : St) : St := { s with there := s.fl, back := [], ph := fun i => (s.ph i).again }
def St.breaks (s : St) (most : Nat) : St := s.broken.goOn most
theorem Inv.broken {q : Nat → Nat} {n most : Nat} {s : St} (h : Inv q n most s) : Inv q n most s.broken where
  an := h.an
  nn := h.nn
  few := h.few
  perm := by simp only [St.broken, List.append_nil]; exact List.Perm.refl _
  nodup := h.nodup
  low := h.low
  high := fun i hi => by simp only [St.broken]; rw [h.high i hi]; rfl
  over := fun i hi hn => by simp only [St.broken]; rw [h.over i hi hn]; rfl
  there := fun i hi => by
    simp only [St.broken] at hi ⊢
    rcases List.mem_append.1 (h.perm.mem_iff.2 hi) with hm | hm
    · have := h.there i hm
      revert this
      cases s.ph i <;> simp [Ph.there, Ph.again]
    · have := h.back i hm
      revert this
      cases s.ph i <;> simp [Ph.there, Ph.back, Ph.again]
  back := fun i hi => by simp [St.broken] at hi
  ok := fun i => by
    simp only [St.broken]
    have := h.ok i
    revert this
    cases s.ph i <;> simp [PhOk, Ph.again] <;> omega
theorem Inv.breaks {q : Nat → Nat} {n most : Nat} {s : St} (h : Inv q n most s) : Inv q n most (s.breaks most) ∧ Full most (s.breaks most) := h.broken.goOn
/-- The receiver takes what comes. -/
def Ph.taken (q : Nat) : Ph → Ph
  | .p0 | .p1 => if q = 1 then .a else .r
  | _ => .c
/-- Is it counted? -/
def Ph.counts (q : Nat) : Ph → Bool
  | .p0 => true
  | .p1 => q == 1
  | _ => false
def St.moved (s : St) (q : Nat → Nat) (i : Nat) (t : List Nat) : St :=
  { s with there := t, back := s.back ++ [i], ph := upd s.ph i ((s.ph i).taken (q i)), got := upd s.got i (s.got i + if (s.ph i).counts (q i) then 1 else 0) }
theorem Inv.moved {q : Nat → Nat} {n most i : Nat} {t : List Nat} {s : St} (h : Inv q n most s) (hq : ∀ i, q i = 1 ∨ q i = 2) (ht : s.there = i :: t) : Inv q n most (s.moved q i t) := by
  have hmem : i ∈ s.fl := h.perm.mem_iff.1 (by rw [ht]; simp)
  have hlow := h.low i hmem
  have hth := h.there i (by rw [ht]; simp)
  have hnd : (s.there ++ s.back).Nodup := h.perm.nodup_iff.2 h.nodup
  rw [ht, List.cons_append, List.nodup_cons] at hnd
  exact {
    an := h.an
    nn := h.nn
    few := h.few
    nodup := h.nodup
    low := h.low
    perm := by
      simp only [St.moved]
      refine List.Perm.trans ?_ h.perm
      rw [ht, ← List.append_assoc]
      exact (List.perm_append_comm (l₁ := t ++ s.back) (l₂ := [i]))
    high := fun k hk => by
      simp only [St.moved] at hk ⊢
      rw [upd_other _ _ (by omega)]
      exact h.high k hk
    over := fun k hk hn => by
      simp only [St.moved] at hk hn ⊢
      rw [upd_other (i := i) (k := k) _ _ (fun e => hn (e ▸ hmem))]
      exact h.over k hk hn
    there := fun k hk => by
      simp only [St.moved] at hk ⊢
      rw [upd_other (i := i) (k := k) _ _ (fun e => hnd.1 (List.mem_append_left _ (e ▸ hk)))]
      exact h.there k (by rw [ht]; simp [hk])
    back := fun k hk => by
      simp only [St.moved] at hk ⊢
      rcases List.mem_append.1 hk with hk | hk
      · rw [upd_other (i := i) (k := k) _ _ (fun e => hnd.1 (List.mem_append_right _ (e ▸ hk)))]
        exact h.back k hk
      · obtain rfl : k = i := by simpa using hk
        rw [upd_same]
        revert hth
        rcases hq k with e | e <;> rw [e] <;> cases s.ph k <;> simp [Ph.there, Ph.taken, Ph.back]
    ok := fun k => by
      simp only [St.moved]
      by_cases hk : k = i
      · subst hk
        rw [upd_same, upd_same]
        have hok := h.ok k
        revert hth hok
        rcases hq k with e | e <;> rw [e] <;> cases s.ph k <;> simp [Ph.there, Ph.taken, PhOk, Ph.counts] <;> omega
      · rw [upd_other _ _ hk, upd_other _ _ hk]
        exact h.ok k }
/-- The sender takes an answer: the message is over. -/
def St.done (s : St) (i : Nat) (t : List Nat) : St := { s with back := t, fl := s.fl.erase i, ph := upd s.ph i .d }
/-- The sender takes an answer: the message is to be released. -/
def St.released (s : St) (i : Nat) (t : List Nat) : St := { s with back := t, there := s.there ++ [i], ph := upd s.ph i .l1 }
def Ph.isR : Ph → Bool
  | .r => true
  | _ => false
def St.answered (s : St) (most i : Nat) (t : List Nat) : St := (if (s.ph i).isR then s.released i t else s.done i t).goOn most
theorem Inv.done {q : Nat → Nat} {n most i : Nat} {t : List Nat} {s : St} (h : Inv q n most s) (ht : s.back = i :: t) (hr : (s.ph i).isR = false) : Inv q n most (s.done i t) := by
  have hmem : i ∈ s.fl := h.perm.mem_iff.1 (by rw [ht]; simp)
  have hlow := h.low i hmem
  have hbk := h.back i (by rw [ht]; simp)
  have hnd : (s.there ++ s.back).Nodup := h.perm.nodup_iff.2 h.nodup
  rw [ht, List.nodup_append, List.nodup_cons] at hnd
  exact {
    an := h.an
    nn := h.nn
    few := by
      simp only [St.done]
      have := List.length_erase_of_mem hmem
      have := h.few
      omega
    nodup := h.nodup.erase _
    low := fun k hk => h.low k (List.mem_of_mem_erase hk)
    perm := by
      simp only [St.done]
      have hp : (i :: (s.there ++ t)).Perm s.fl := by
        refine List.Perm.trans ?_ h.perm
        rw [ht]
        exact List.perm_middle.symm
      have := hp.erase i
      rwa [List.erase_cons_head] at this
    high := fun k hk => by
      simp only [St.done] at hk ⊢
      rw [upd_other _ _ (by omega)]
      exact h.high k hk
    over := fun k hk hn => by
      simp only [St.done] at hk hn ⊢
      by_cases e : k = i
      · subst e; exact upd_same _ _ _
      · rw [upd_other _ _ e]
        exact h.over k hk (fun hm => hn ((List.mem_erase_of_ne e).2 hm))
    there := fun k hk => by
      simp only [St.done] at hk ⊢
      rw [upd_other (i := i) (k := k) _ _ (fun e => hnd.2.2 k hk i (by simp) e)]
      exact h.there k hk
    back := fun k hk => by
      simp only [St.done] at hk ⊢
      rw [upd_other (i := i) (k := k) _ _ (fun e => hnd.2.1.1 (e ▸ hk))]
      exact h.back k (by rw [ht]; simp [hk])
    ok := fun k => by
      simp only [St.done]
      by_cases e : k = i
      · subst e
        rw [upd_same]
        have hok := h.ok k
        revert hbk hok hr
        cases s.ph k <;> simp [Ph.back, Ph.isR, PhOk] <;> omega
      · rw [upd_other _ _ e]
        exact h.ok k }
theorem Inv.released {q : Nat → Nat} {n most i : Nat} {t : List Nat} {s : St} (h : Inv q n most s) (ht : s.back = i :: t) (hr : (s.ph i).isR = true) : Inv q n most (s.released i t) := by
  have hmem : i ∈ s.fl := h.perm.mem_iff.1 (by rw [ht]; simp)
  have hlow := h.low i hmem
  have hnd : (s.there ++ s.back).Nodup := h.perm.nodup_iff.2 h.nodup
  rw [ht, List.nodup_append, List.nodup_cons] at hnd
  exact {
    an := h.an
    nn := h.nn
    few := h.few
    nodup := h.nodup
    low := h.low
    perm := by
      simp only [St.released]
      refine List.Perm.trans ?_ h.perm
      rw [ht, List.append_assoc]
      exact List.Perm.refl _
    high := fun k hk => by
      simp only [St.released] at hk ⊢
      rw [upd_other _ _ (by omega)]
      exact h.high k hk
    over := fun k hk hn => by
      simp only [St.released] at hk hn ⊢
      rw [upd_other (i := i) (k := k) _ _ (fun e => hn (e ▸ hmem))]
      exact h.over k hk hn
    there := fun k hk => by
      simp only [St.released] at hk ⊢
      rcases List.mem_append.1 hk with hk | hk
      · rw [upd_other (i := i) (k := k) _ _ (fun e => hnd.2.2 k hk i (by simp) e)]
        exact h.there k hk
      · obtain rfl : k = i := by simpa using hk
        rw [upd_same]
        trivial
    back := fun k hk => by
      simp only [St.released] at hk ⊢
      rw [upd_other (i := i) (k := k) _ _ (fun e => hnd.2.1.1 (e ▸ hk))]
      exact h.back k (by rw [ht]; simp [hk])
    ok := fun k => by
      simp only [St.released]
      by_cases e : k = i
      · subst e
        rw [upd_same]
        have hok := h.ok k
        revert hok hr
        cases s.ph k <;> simp [Ph.isR, PhOk]
      · rw [upd_other _ _ e]
        exact h.ok k }
theorem Inv.answered {q : Nat → Nat} {n most i : Nat} {t : List Nat} {s : St} (h : Inv q n most s) (ht : s.back = i :: t) : Inv q n most (s.answered most i t) ∧ Full most (s.answered most i t) := by
  unfold St.answered
  by_cases hr : (s.ph i).isR = true
  · rw [if_pos hr]; exact (h.released ht hr).goOn
  · rw [if_neg hr]; exact (h.done ht (by simpa using hr)).goOn
/-! ### How far it still is -/
def Ph.far : Ph → Nat
  | .w | .p0 | .p1 => 4
  | .r => 3
  | .l1 | .l0 => 2
  | .a | .c => 1
  | .d => 0
def sumTo (f : Nat → Nat) : Nat → Nat
  | 0 => 0
  | n + 1 => sumTo f n + f n
theorem sumTo_le {f g : Nat → Nat} : ∀ n, (∀ i, i < n → f i ≤ g i) → sumTo f n ≤ sumTo g n
  | 0, _ => Nat.le_refl _
  | n + 1, h => Nat.add_le_add (sumTo_le n fun i hi => h i (by omega)) (h n (by omega))
theorem sumTo_lt {f g : Nat → Nat} : ∀ (n i : Nat), i < n → (∀ k, k < n → f k ≤ g k) → f i < g i → sumTo f n < sumTo g n
  | n + 1, i, hi, h, hlt => by
    unfold sumTo
    by_cases e : i = n
    · subst e
      have := sumTo_le i fun k hk => h k (by omega)
      omega
    · have := sumTo_lt n i (by omega) (fun k hk => h k (by omega)) hlt
      have := h n (by omega)
      omega
theorem sumTo_most {f : Nat → Nat} (c : Nat) : ∀ n, (∀ i, i < n → f i ≤ c) → sumTo f n ≤ c * n
  | 0, _ => Nat.le_refl _
  | n + 1, h => by
    unfold sumTo
    have := sumTo_most c n fun i hi => h i (by omega)
    have := h n (by omega)
    rw [Nat.mul_succ]; omega
def St.far (s : St) (n : Nat) : Nat := sumTo (fun i => (s.ph i).far) n
theorem far_most (s : St) (n : Nat) : s.far n ≤ 4 * n := sumTo_most 4 n fun i _ => by cases s.ph i <;> simp [Ph.far]
theorem far_opened {q : Nat → Nat} {n most k : Nat} {s : St} (h : Inv q n most s) : (s.opened k).far n = s.far n := by
  refine Nat.le_antisymm (sumTo_le n fun i _ => ?_) (sumTo_le n fun i _ => ?_)
  · simp only [St.opened]
    split
    · next hi => rw [h.high i hi.1]; exact Nat.le_refl _
    · exact Nat.le_refl _
  · simp only [St.opened]
    split
    · next hi => rw [h.high i hi.1]; exact Nat.le_refl _
    · exact Nat.le_refl _
theorem far_moved {q : Nat → Nat} {n most i : Nat} {t : List Nat} {s : St} (h : Inv q n most s) (hq : ∀ i, q i = 1 ∨ q i = 2) (ht : s.there = i :: t) : (s.moved q i t).far n < s.far n := by
  have hmem : i ∈ s.fl := h.perm.mem_iff.1 (by rw [ht]; simp)
  have hlow := h.low i hmem
  have han := h.an
  have hnn := h.nn
  have hth := h.there i (by rw [ht]; simp)
  have key : ((s.ph i).taken (q i)).far < (s.ph i).far := by
    revert hth
    rcases hq i with e | e <;> rw [e] <;> cases s.ph i <;> simp [Ph.there, Ph.taken, Ph.far]
  refine sumTo_lt n i (by omega) (fun k _ => ?_) ?_
  · simp only [St.moved]
    by_cases e : k = i
    · subst e; rw [upd_same]; exact Nat.le_of_lt key
    · rw [upd_other _ _ e]; exact Nat.le_refl _
  · simp only [St.moved]
    rw [upd_same]; exact key
theorem far_answered {q : Nat → Nat} {n most i : Nat} {t : List Nat} {s : St} (h : Inv q n most s) (ht : s.back = i :: t) : (s.answered most i t).far n < s.far n := by
  have hmem : i ∈ s.fl := h.perm.mem_iff.1 (by rw [ht]; simp)
  have hlow := h.low i hmem
  have han := h.an
  have hnn := h.nn
  have hbk := h.back i (by rw [ht]; simp)
  unfold St.answered
  by_cases hr : (s.ph i).isR = true
  · rw [if_pos hr]
    unfold St.goOn
    rw [far_opened (h.released ht hr)]
    have key : Ph.l1.far < (s.ph i).far := by
      revert hr
      cases s.ph i <;> simp [Ph.isR, Ph.far]
    refine sumTo_lt n i (by omega) (fun k _ => ?_) ?_
    · simp only [St.released]
      by_cases e : k = i
      · subst e; rw [upd_same]; exact Nat.le_of_lt key
      · rw [upd_other _ _ e]; exact Nat.le_refl _
    · simp only [St.released]
      rw [upd_same]; exact key
  · rw [if_neg hr]
    unfold St.goOn
    rw [far_opened (h.done ht (by simpa using hr))]
    have key : Ph.d.far < (s.ph i).far := by
      revert hbk
      cases s.ph i <;> simp [Ph.back, Ph.far]
    refine sumTo_lt n i (by omega) (fun k _ => ?_) ?_
    · simp only [St.done]
      by_cases e : k = i
      · subst e; rw [upd_same]; exact Nat.le_of_lt key
      · rw [upd_other _ _ e]; exact Nat.le_refl _
    · simp only [St.done]
      rw [upd_same]; exact key
/-- Nothing is on its way: all is over. -/
theorem Inv.rest {q : Nat → Nat} {n most : Nat} {s : St} (h : Inv q n most s) (hf : Full most s) (hm : 1 ≤ most) (hn : s.next = n) (h1 : s.there = []) (h2 : s.back = []) :
    s.fl = [] ∧ s.a = n ∧ ∀ i, i < n → s.ph i = .d ∧ 1 ≤ s.got i ∧ (q i = 2 → s.got i = 1) := by
  have hfl : s.fl = [] := by
    have := h.perm
    rw [h1, h2] at this
    exact List.perm_nil.1 this.symm
  have ha : s.a = n := by
    have han := h.an
    unfold Full at hf
    rw [hfl] at hf
    simp only [List.length_nil] at hf
    omega
  refine ⟨hfl, ha, fun i hi => ?_⟩
  have hd := h.over i (by omega) (by rw [hfl]; simp)
  have := h.ok i
  rw [hd] at this
  exact ⟨hd, this⟩
def St.start : St := { ph := fun _ => .w, got := fun _ => 0, there := [], back := [], fl := [], a := 0, next := 0 }
theorem Inv.start (q : Nat → Nat) (n most : Nat) : Inv q n most St.start where
  an := Nat.le_refl _
  nn := Nat.zero_le _
  few := Nat.zero_le _
  perm := List.Perm.refl _
  nodup := List.Pairwise.nil
  low := fun i hi => by simp [St.start] at hi
  high := fun _ _ => rfl
  over := fun i hi => by simp [St.start] at hi
  there := fun i hi => by simp [St.start] at hi
  back := fun i hi => by simp [St.start] at hi
  ok := fun _ => rfl
end Go.Proofs.YtcepfhnlbnlnhaaGreatDoor
