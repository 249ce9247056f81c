/- THE END OF THE STATEMENT: each round brings all nearer to rest; at rest all is there. -/
import Derived.Test.YtcepfhnlbnlnhaaGreatDoorHeld
namespace Go.Proofs.YtcepfhnlbnlnhaaGreatDoor
set_option maxRecDepth 100000
open Go.RowKit

theorem far_answer {q : Nat → Nat} {n m : Nat} {s : St} (h : Inv q n m s) : (s.answer m).far n ≤ s.far n := by
  unfold St.answer
  cases ht : s.back with
  | nil => exact Nat.le_refl _
  | cons i t => exact Nat.le_of_lt (far_answered h ht)
theorem far_round {q : Nat → Nat} {n m : Nat} {s : St} (h : Inv q n m s) (hq : ∀ i, q i = 1 ∨ q i = 2) (hne : s.there.length + s.back.length ≠ 0) : ((s.move q).answer m).far n < s.far n := by
  cases ht : s.there with
  | cons i t =>
    have h1 : (s.move q).far n < s.far n := by
      unfold St.move
      rw [ht]
      exact far_moved h hq ht
    exact Nat.lt_of_le_of_lt (far_answer (move_inv h hq)) h1
  | nil =>
    have hm : s.move q = s := by
      unfold St.move
      rw [ht]
    rw [hm]
    unfold St.answer
    cases hb : s.back with
    | nil => rw [ht, hb] at hne; exact absurd rfl hne
    | cons i t => exact far_answered h hb
section
variable {w0 W : World} {q : Nat → Nat} {C : Cfg} {P : List Nat} {k G : Nat} {s : St} {p : PairS}
theorem HeldAt.rest (h : HeldAt w0 q C G s P p W) (hG : Good w0 q C) (hn : s.next = C.n) (h1 : s.there = []) (h2 : s.back = []) :
    p.o.fl = [] ∧ p.o.wait = [] ∧ p.U = [] ∧ p.K.length = C.n ∧ ∀ i, i < C.n → 1 ≤ p.g i ∧ (q i = 2 → p.g i = 1) := by
  obtain ⟨hfl, ha, hd⟩ := h.inv.rest h.full hG.m1 hn h1 h2
  have hnd : p.K.Nodup := by
    obtain ⟨fb, ib, ipb, imb, gb, F, vt, vb, h, -⟩ := h.pair
    exact h.got.nodup
  refine ⟨?_, ?_, ?_, ?_, ?_⟩
  · rw [h.sim.o]
    simp [outOf, hfl]
  · rw [h.sim.o]
    simp [outOf, ha, hn]
  · refine List.eq_nil_iff_forall_not_mem.2 fun x hx => ?_
    obtain ⟨i, -, ho⟩ := (h.sim.U x).1 hx
    rcases Nat.lt_or_ge i C.n with hi | hi
    · rw [(hd i hi).1] at ho
      simp [Ph.opn] at ho
    · rw [h.inv.high i (by omega)] at ho
      simp [Ph.opn] at ho
  · have e1 := nodup_le p.K (List.range C.n) hnd fun x hx => List.mem_range.2 (got_low h.inv ((h.sim.K x).1 hx))
    have e2 := nodup_le (List.range C.n) p.K List.nodup_range fun x hx => (h.sim.K x).2 (hd x (List.mem_range.1 hx)).2.1
    rw [List.length_range] at e1 e2
    omega
  · intro i hi
    rw [h.sim.g]
    exact (hd i hi).2
/-- The pair's own variables. -/
theorem HeldAt.parts (h : HeldAt w0 q C G s P p W) : ∃ fb ib ipb imb gb F At ct Ab cb, W.cell? ⟨C.pr, 0, none⟩ = some (.pointer (some ⟨fb, 0, none⟩)) ∧ W.cell? ⟨C.pr, 1, none⟩ = some (.pointer (some ⟨ib, 0, none⟩)) ∧ W.cell? ⟨C.pr, 2, none⟩ = some (.slice At s.there.length ct) ∧
    W.cell? ⟨C.pr, 3, none⟩ = some (.slice Ab s.back.length cb) ∧ W.cell? ⟨C.pr, 4, none⟩ = some (.map (some gb)) ∧ OutA W fb F p.o ∧ InAt W ib ipb imb 64 0 p.U ∧ GotAt W gb p.K p.g := by
  obtain ⟨fb, ib, ipb, imb, gb, F, vt, vb, hA, -⟩ := h.pair
  obtain ⟨At, ct, rfl, -, -, -⟩ := hA.there.slice
  obtain ⟨Ab, cb, rfl, -, -, -⟩ := hA.back.slice
  obtain ⟨dup, hT⟩ := h.sim.T
  obtain ⟨cd, hB⟩ := h.sim.B
  have eT : p.T.length = s.there.length := by rw [hT, List.length_map]
  have eB : p.B.length = s.back.length := by rw [hB, List.length_map]
  have c2 := hA.blk.cell 2
  have c3 := hA.blk.cell 3
  refine ⟨fb, ib, ipb, imb, gb, F, At, ct, Ab, cb, hA.blk.cell 0, hA.blk.cell 1, ?_, ?_, hA.blk.cell 4, hA.out, hA.inn, hA.got⟩
  · rw [← eT]; exact c2
  · rw [← eB]; exact c3
/-- The first state. -/
theorem Sim.start (q : Nat → Nat) (most : Nat) : Sim q most St.start { o := outOf q most St.start, U := [], T := [], B := [], K := [], g := fun _ => 0 } where
  o := rfl
  U := fun x => by simp [St.start, Ph.opn]
  T := ⟨fun _ => false, rfl⟩
  B := ⟨fun _ => 0, rfl⟩
  K := fun i => by simp [St.start]
  g := rfl
end
end Go.Proofs.YtcepfhnlbnlnhaaGreatDoor
