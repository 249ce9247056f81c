/- WHAT A ROUND OF THE STATEMENT HOLDS: the pair, the plain state, and the variables about them. -/
import Derived.Test.YtcepfhnlbnlnhaaGreatDoorJoin3
namespace Go.Proofs.YtcepfhnlbnlnhaaGreatDoor
set_option maxRecDepth 100000
open Go.RowKit

/-- The variables: the pair; next, qos, p, most; how many messages; how many may be on their way. -/
structure Cfg where
  pr : Nat
  nv : Nat
  qv : Nat
  pv : Nat
  mv : Nat
  n : Nat
  most : Nat
  A : Option Addr
  c : Nat
structure Good (w0 : World) (q : Nat → Nat) (C : Cfg) : Prop where
  qs : ∀ i, q i = 1 ∨ q i = 2
  n : C.n ≤ 40
  m1 : 1 ≤ C.most
  m2 : C.most ≤ 64
  cells : ∀ j, j < C.n → ∃ b off z, C.A = some ⟨b, off, none⟩ ∧ w0.cell? ⟨b, off + j, none⟩ = some (.int .i64 z) ∧ (q j : Int) = 1 + max 0 z % 2
  new : w0.heap.size ≤ C.nv ∧ w0.heap.size ≤ C.qv ∧ w0.heap.size ≤ C.pv ∧ w0.heap.size ≤ C.mv
  ne : C.nv ≠ C.qv ∧ C.nv ≠ C.pv ∧ C.nv ≠ C.mv
structure Env (w0 : World) (C : Cfg) (P : List Nat) (k : Nat) (W : World) : Prop where
  chg : Chg w0 W []
  next : Blk W C.nv 3 #[.int .i64 (k : Int)]
  qos : W.cell? ⟨C.qv, 0, none⟩ = some (.slice C.A C.n C.c)
  p : W.cell? ⟨C.pv, 0, none⟩ = some (.pointer (some ⟨C.pr, 0, none⟩))
  most : W.cell? ⟨C.mv, 0, none⟩ = some (.int .i64 (C.most : Int))
  apart : ∀ b ∈ P, w0.heap.size ≤ b ∧ b ≠ C.nv ∧ b ≠ C.qv ∧ b ≠ C.pv ∧ b ≠ C.mv
structure HeldAt (w0 : World) (q : Nat → Nat) (C : Cfg) (G : Nat) (s : St) (P : List Nat) (p : PairS) (W : World) : Prop where
  pair : PairA W C.pr P p
  sim : Sim q C.most s p
  env : Env w0 C P s.next W
  inv : Inv q C.n C.most s
  full : Full C.most s
  got : ∀ i, s.got i ≤ G
def Held (w0 : World) (q : Nat → Nat) (C : Cfg) (G : Nat) (s : St) (W : World) : Prop := ∃ P p, HeldAt w0 q C G s P p W
section
variable {w0 W W' : World} {q : Nat → Nat} {C : Cfg} {P : List Nat} {k G : Nat} {s : St} {p p' : PairS}
theorem Env.step (h : Env w0 C P k W) (hst : Stepped W C.pr P p' W') : ∃ P', PairA W' C.pr P' p' ∧ Env w0 C P' k W' := by
  obtain ⟨P', hp, hc, hP'⟩ := hst
  have nn : C.nv ∉ P := fun hm => (h.apart _ hm).2.1 rfl
  have nq : C.qv ∉ P := fun hm => (h.apart _ hm).2.2.1 rfl
  have np : C.pv ∉ P := fun hm => (h.apart _ hm).2.2.2.1 rfl
  have nm : C.mv ∉ P := fun hm => (h.apart _ hm).2.2.2.2 rfl
  have ln := h.next.lt
  have lq := World.block_lt_of_cell? W _ h.qos
  have lp := World.block_lt_of_cell? W _ h.p
  have lm := World.block_lt_of_cell? W _ h.most
  have hsz := h.chg.size
  simp only at lq lp lm
  refine ⟨P', hp, h.chg.trans hc fun b hb => .inr (h.apart b hb).1, h.next.chg hc nn, hc.cell h.qos nq, hc.cell h.p np, hc.cell h.most nm, fun b hb => ?_⟩
  rcases hP' b hb with hm | hm
  · exact h.apart b hm
  · exact ⟨by omega, by omega, by omega, by omega, by omega⟩
theorem got_opened (s : St) (k : Nat) : (s.opened k).got = s.got := rfl
theorem breaks_next (s : St) (m : Nat) : (s.breaks m).next = s.next := rfl
theorem Held.breaks (hG : Good w0 q C) (h : Held w0 q C G s W) : Calls Tryz.prog 9 #[.pointer (some ⟨C.pv, 0, none⟩), .pointer (some ⟨C.mv, 0, none⟩)] W fun e W' => e = .returned (.tuple #[]) ∧ Held w0 q C G (s.breaks C.most) W' := by
  obtain ⟨P, p, h⟩ := h
  have ho := h.sim.o
  refine (breaks_sim h.pair (by rw [← ho]; exact h.sim) (by rw [ho]) h.inv hG.qs hG.n hG.m1 hG.m2 h.env.p h.env.most (fun hm => (h.env.apart _ hm).2.2.2.1 rfl) (fun hm => (h.env.apart _ hm).2.2.2.2 rfl)).mono ?_
  rintro e W' ⟨he, p', hst, hs⟩
  obtain ⟨P', hp, hE⟩ := h.env.step hst
  obtain ⟨hi, hf⟩ := h.inv.breaks
  exact ⟨he, P', p', hp, hs, hE, hi, hf, h.got⟩
theorem move_full {m : Nat} (h : Full m s) : Full m (s.move q) := by
  unfold St.move
  cases s.there with
  | nil => exact h
  | cons i t => exact h
theorem move_next : (s.move q).next = s.next := by
  unfold St.move
  cases s.there with
  | nil => rfl
  | cons i t => rfl
theorem move_inv {n m : Nat} (h : Inv q n m s) (hq : ∀ i, q i = 1 ∨ q i = 2) : Inv q n m (s.move q) := by
  unfold St.move
  cases ht : s.there with
  | nil => exact h
  | cons i t => exact h.moved hq ht
theorem move_got (h : ∀ i, s.got i ≤ G) : ∀ i, (s.move q).got i ≤ G + 1 := by
  intro k
  unfold St.move
  cases s.there with
  | nil => exact Nat.le_succ_of_le (h k)
  | cons i t =>
    have hk := h k
    have hi := h i
    show upd s.got i _ k ≤ G + 1
    by_cases e : k = i
    · subst e
      rw [upd_same]
      split <;> omega
    · rw [upd_other _ _ e]
      omega
theorem Held.move (hG : Good w0 q C) (h : Held w0 q C G s W) (hg : G < 900000) : Calls Tryz.prog 12 #[.pointer (some ⟨C.pr, 0, none⟩)] W fun e W' => e = .returned (.bool true) ∧ Held w0 q C (G + 1) (s.move q) W' := by
  obtain ⟨P, p, h⟩ := h
  refine (move_sim h.pair h.sim h.inv hG.qs hG.n hG.m2 h.got hg).mono ?_
  rintro e W' ⟨he, p', hst, hs⟩
  obtain ⟨P', hp, hE⟩ := h.env.step hst
  exact ⟨he, P', p', hp, hs, by rw [move_next]; exact hE, move_inv h.inv hG.qs, move_full h.full, move_got h.got⟩
theorem answer_next {m : Nat} : (s.answer m).next = s.next := by
  unfold St.answer
  cases s.back with
  | nil => rfl
  | cons i t =>
    show (s.answered m i t).next = s.next
    unfold St.answered
    split <;> rfl
theorem answer_got {m : Nat} : (s.answer m).got = s.got := by
  unfold St.answer
  cases s.back with
  | nil => rfl
  | cons i t =>
    show (s.answered m i t).got = s.got
    unfold St.answered
    split <;> rfl
theorem answer_inv {n m : Nat} (h : Inv q n m s) (hf : Full m s) : Inv q n m (s.answer m) ∧ Full m (s.answer m) := by
  unfold St.answer
  cases ht : s.back with
  | nil => exact ⟨h, hf⟩
  | cons i t => exact h.answered ht
theorem Held.answer (hG : Good w0 q C) (h : Held w0 q C G s W) : Calls Tryz.prog 13 #[.pointer (some ⟨C.pr, 0, none⟩)] W fun e W' => e = .returned (.bool true) ∧ Held w0 q C G (s.answer C.most) W' := by
  obtain ⟨P, p, h⟩ := h
  refine (answer_sim h.pair h.sim h.inv hG.qs hG.n hG.m2).mono ?_
  rintro e W' ⟨he, p', hst, hs⟩
  obtain ⟨P', hp, hE⟩ := h.env.step hst
  obtain ⟨hi, hf⟩ := answer_inv h.inv h.full
  exact ⟨he, P', p', hp, hs, by rw [answer_next]; exact hE, hi, hf, by rw [answer_got]; exact h.got⟩
def St.sent (s : St) (n most : Nat) : St := if s.next < n then s.send most else s
theorem Held.send (hG : Good w0 q C) (h : Held w0 q C G s W) : Calls Tryz.prog 7 #[.pointer (some ⟨C.nv, 0, none⟩), .pointer (some ⟨C.qv, 0, none⟩), .pointer (some ⟨C.pv, 0, none⟩)] W fun e W' => e = .returned (.bool true) ∧ Held w0 q C G (s.sent C.n C.most) W' := by
  by_cases hlt : s.next < C.n
  · obtain ⟨P, p, h⟩ := h
    obtain ⟨b, off, z, hA, hz, hqz⟩ := hG.cells s.next hlt
    have hbl := World.block_lt_of_cell? w0 _ hz
    simp only at hbl
    have hqos := h.env.qos
    rw [hA] at hqos
    refine (send_sim h.pair h.sim h.inv hG.qs hG.n hG.m2 h.env.next hqos (h.env.chg.cell hz (by simp)) h.env.p hlt hqz (fun hm => (h.env.apart _ hm).2.1 rfl) (fun hm => (h.env.apart _ hm).2.2.1 rfl) (fun hm => (h.env.apart _ hm).2.2.2.1 rfl) (fun hm => by have := (h.env.apart _ hm).1; omega)).mono ?_
    rintro e W' ⟨he, w7, p', hst, hs, rfl⟩
    obtain ⟨P', hp, hE⟩ := h.env.step hst
    obtain ⟨hi, hf⟩ := h.inv.send hlt
    have hc := (Chg.refl w7 [C.nv]).put ⟨C.nv, 0, none⟩ (.inl (by simp)) (.int .i64 ((s.next : Int) + 1))
    obtain ⟨n1, n2, n3⟩ := hG.ne
    have m1 : C.qv ≠ C.nv := fun e => n1 e.symm
    have m2 : C.pv ≠ C.nv := fun e => n2 e.symm
    have m3 : C.mv ≠ C.nv := fun e => n3 e.symm
    have hc0 : Chg w0 (w7.setCell ⟨C.nv, 0, none⟩ (.int .i64 ((s.next : Int) + 1))) [] := hE.chg.trans hc fun b hb => by
      obtain rfl : b = C.nv := by simpa using hb
      exact .inr hG.new.1
    refine ⟨he, P', p', ?_⟩
    unfold St.sent
    rw [if_pos hlt]
    refine ⟨hp.chg hc fun b hb => by simpa using (hE.apart b hb).2.1, hs, ⟨hc0, ?_, hc.cell hE.qos (by simpa using m1), hc.cell hE.p (by simpa using m2), hc.cell hE.most (by simpa using m3), hE.apart⟩, hi, hf, h.got⟩
    have := hE.next.put 0 (.int .i64 ((s.next : Int) + 1))
    have hn : (s.send C.most).next = s.next + 1 := rfl
    rw [hn]
    push_cast
    exact this
  · have hs : s.sent C.n C.most = s := by
      unfold St.sent
      rw [if_neg hlt]
    rw [hs]
    obtain ⟨P, p, h⟩ := h
    refine (send_done (h.env.next.cell 0) h.env.qos (by omega)).mono ?_
    rintro e W' ⟨he, rfl⟩
    exact ⟨he, P, p, h⟩
theorem Held.mono {G' : Nat} (h : Held w0 q C G s W) (hg : G ≤ G') : Held w0 q C G' s W := by
  obtain ⟨P, p, h⟩ := h
  exact ⟨P, p, h.pair, h.sim, h.env, h.inv, h.full, fun i => Nat.le_trans (h.got i) hg⟩
/-- What the calls leave that end the statement. -/
theorem Held.chg {W' : World} (h : Held w0 q C G s W) (hc : Chg W W' []) : Held w0 q C G s W' := by
  obtain ⟨P, p, h⟩ := h
  refine ⟨P, p, h.pair.chg hc (by simp), h.sim, ⟨h.env.chg.trans hc (by simp), h.env.next.chg hc (by simp), hc.cell h.env.qos (by simp), hc.cell h.env.p (by simp), hc.cell h.env.most (by simp), h.env.apart⟩, h.inv, h.full, h.got⟩
end
end Go.Proofs.YtcepfhnlbnlnhaaGreatDoor
