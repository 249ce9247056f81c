/- MEMORY OF THE CALL's OWN: what a step may turn; rows that are taken from the front and grow behind. -/
import Derived.Test.YtcepfhnlbnlnhaaGreatDoorReads9
import Derived.Deep.MidRow
import Derived.ArgAppend
import Derived.Deep.Upon
namespace Go.Proofs.YtcepfhnlbnlnhaaGreatDoor
set_option maxRecDepth 100000
open Go.RowKit

/-- Nothing has turned but the blocks of a list, and new ones. -/
structure Chg (w w' : World) (S : List Nat) : Prop where
  os : w'.os = w.os
  tape : w'.tape = w.tape
  output : w'.output = w.output
  size : w.heap.size ≤ w'.heap.size
  block : ∀ k, k < w.heap.size → k ∉ S → w'.heap[k]? = w.heap[k]?
section
variable {w w' w'' : World} {S T : List Nat}
theorem Chg.refl (w : World) (S : List Nat) : Chg w w S := ⟨rfl, rfl, rfl, Nat.le_refl _, fun _ _ _ => rfl⟩
theorem Chg.trans (h : Chg w w' S) (k : Chg w' w'' T) (hT : ∀ b ∈ T, b ∈ S ∨ w.heap.size ≤ b) : Chg w w'' S :=
  ⟨k.os.trans h.os, k.tape.trans h.tape, k.output.trans h.output, Nat.le_trans h.size k.size, fun i hi hn => (k.block i (Nat.lt_of_lt_of_le hi h.size) (fun hm => by
    rcases hT i hm with hh | hh
    · exact hn hh
    · omega)).trans (h.block i hi hn)⟩
theorem Chg.mono (h : Chg w w' S) (hS : ∀ b ∈ S, b ∈ T ∨ w.heap.size ≤ b) : Chg w w' T :=
  ⟨h.os, h.tape, h.output, h.size, fun i hi hn => h.block i hi fun hm => by
    rcases hS i hm with hh | hh
    · exact hn hh
    · omega⟩
theorem Chg.of_grown {row : Option Nat} (h : w.grownBy w' row) : Chg w w' row.toList := ⟨h.os, h.tape, h.output, h.size, fun k hk hn => h.block k hk fun e => hn (by rw [← e]; simp)⟩
theorem Chg.grown {w0 : World} (h : Chg w w' S) (h0 : w0.grownBy w none) (hS : ∀ b ∈ S, w0.heap.size ≤ b) : w0.grownBy w' none :=
  ⟨h.os.trans h0.os, h.tape.trans h0.tape, h.output.trans h0.output, Nat.le_trans h0.size h.size, fun k hk _ => (h.block k (Nat.lt_of_lt_of_le hk h0.size) (fun hm => by have := hS k hm; omega)).trans (h0.block k hk (by simp))⟩
theorem Chg.one {g : Nat} (h : Chg w w' [g]) : w.grownBy w' (some g) := ⟨h.os, h.tape, h.output, h.size, fun k hk hn => h.block k hk (by simpa using hn)⟩
theorem Chg.new (h : Chg w w' []) : w.grownBy w' none := ⟨h.os, h.tape, h.output, h.size, fun k hk _ => h.block k hk (by simp)⟩
theorem Chg.cell {p : Addr} {v : Value} (h : Chg w w' S) (hc : w.cell? p = some v) (hp : p.block ∉ S) : w'.cell? p = some v := by
  rw [World.cell?_of_block (h.block _ (World.block_lt_of_cell? w _ hc) hp)]; exact hc
theorem Chg.drew (h : Chg w w' S) : Chg w w'.drew S := ⟨h.os, h.tape, h.output, h.size, h.block⟩
theorem Chg.drewN (h : Chg w w' S) (n : Nat) : Chg w (w'.drewN n) S := ⟨h.os, h.tape, h.output, h.size, h.block⟩
theorem Chg.alloc (h : Chg w w' S) (o : Obj) : Chg w (w'.alloc o) S := h.trans (Chg.of_grown (World.grownBy_alloc w' o none)) (fun b hb => by simp at hb)
theorem Chg.put (h : Chg w w' S) (p : Addr) (hp : p.block ∈ S ∨ w.heap.size ≤ p.block) (u : Value) : Chg w (w'.setCell p u) S :=
  ⟨h.os, h.tape, h.output, by simpa using h.size, fun k hk hn => (Below.heap_setCell w' p u k (fun e => by
    subst e
    rcases hp with hp | hp
    · exact hn hp
    · omega)).trans (h.block k hk hn)⟩
theorem Chg.row (h : Chg w w' S) {g : Nat} (hg : g ∈ S ∨ w.heap.size ≤ g) (cs : Array Value) : Chg w (w'.setRow g cs) S :=
  ⟨h.os, h.tape, h.output, by simpa using h.size, fun k hk hn => (setRow_other w' g k cs (fun e => by
    subst e
    rcases hg with hp | hp
    · exact hn hp
    · omega)).trans (h.block k hk hn)⟩
theorem Chg.cells (b : Nat) : ∀ (vs : List Value) (o : Nat) (w : World), Chg w (w.setCells b o vs) [b]
  | [], _, w => Chg.refl w _
  | v :: r, o, w => by
    rw [World.setCells]
    exact ((Chg.refl w [b]).put ⟨b, o, none⟩ (.inl (by simp)) v).trans (Chg.cells b r (o + 1) _) (fun x hx => .inl hx)
theorem Blk.chg {g : Nat} {t : TypeId} {cs : Array Value} (h : Blk w g t cs) (hc : Chg w w' S) (hg : g ∉ S) : Blk w' g t cs := (hc.block g h.lt hg).trans h
theorem rangeAt_chg {g o : Nat} {cs : List Value} (h : w.rangeAt g o cs) (hc : Chg w w' S) (hg : g ∉ S) : w'.rangeAt g o cs := fun j v hv => hc.cell (h j v hv) hg
theorem there_chg {g o n : Nat} (h : w.there g o n) (hc : Chg w w' S) (hg : g ∉ S) : w'.there g o n := fun j hj => by
  obtain ⟨h1, h2⟩ := h j hj
  obtain ⟨u, hu⟩ := Option.isSome_iff_exists.1 h1
  have hb := hc.block g (World.block_lt_of_cell? w _ hu) hg
  exact ⟨by rw [World.cell?_of_block (a := ⟨g, o + j, none⟩) hb]; exact h1, by rw [World.frozen?_of_block (a := ⟨g, o + j, none⟩) hb]; exact h2⟩
end
/-! ### A row of the call's own, wherever in its block it begins -/
def QRow (w : World) (size : Nat) (v : Value) (n : Nat) (xs : List Value) : Prop :=
  xs.length = n * size ∧ ((v = .slice none 0 0 ∧ n = 0) ∨
    ∃ g off cap, v = .slice (some ⟨g, off, none⟩) n cap ∧ n ≤ cap ∧ cap ≤ maxLen ∧ w.rangeAt g off xs ∧ w.there g off (cap * size) ∧ g < w.heap.size)
section
variable {w w' : World} {size n : Nat} {v : Value} {xs : List Value}
theorem QRow.nil (w : World) (size : Nat) : QRow w size (.slice none 0 0) 0 [] := ⟨by simp, .inl ⟨rfl, rfl⟩⟩
theorem QRow.of_own {base : Nat} {e : TypeId} (h : w.ownsRow base e size v n xs) : QRow w size v n xs := by
  refine ⟨h.1, ?_⟩
  rcases h.2 with h0 | ⟨g, cap, cur, rfl, _, hg, h1, h2, h3, h4⟩
  · exact .inl h0
  · refine .inr ⟨g, 0, cap, rfl, h1, h2, fun j u hu => ?_, fun j hj => ?_, (Array.getElem?_eq_some_iff.1 hg).1⟩
    · have := World.ownsRow.cells h (g := g) rfl j u hu
      rwa [Addr.add_mid] at this
    · rw [cell_of_row w g (0 + j) cur e (0, 0) hg]
      refine ⟨by rw [Array.getElem?_eq_getElem (by omega)]; rfl, ?_⟩
      exact Blk.frozen (t := e) hg (0 + j)
theorem QRow.lt (h : QRow w size v n xs) : ∀ g, v.ownBlock = some g → g < w.heap.size := by
  intro g hg
  rcases h.2 with ⟨rfl, _⟩ | ⟨g', off, cap, rfl, _, _, _, _, hl⟩
  · simp [Value.ownBlock] at hg
  · have : g' = g := by simpa [Value.ownBlock] using hg
    omega
theorem QRow.chg {S : List Nat} (h : QRow w size v n xs) (hc : Chg w w' S) (hv : ∀ g, v.ownBlock = some g → g ∉ S) : QRow w' size v n xs := by
  refine ⟨h.1, ?_⟩
  rcases h.2 with h0 | ⟨g, off, cap, rfl, h1, h2, h3, h4, h5⟩
  · exact .inl h0
  · have hg := hv g rfl
    exact .inr ⟨g, off, cap, rfl, h1, h2, rangeAt_chg h3 hc hg, there_chg h4 hc hg, Nat.lt_of_lt_of_le h5 hc.size⟩
theorem QRow.slice (h : QRow w size v n xs) : ∃ A c, v = .slice A n c ∧ (A = none → c = 0) ∧ c ≤ maxLen ∧ n ≤ c := by
  rcases h.2 with ⟨rfl, rfl⟩ | ⟨g, off, cap, rfl, h1, h2, _⟩
  · exact ⟨none, 0, rfl, fun _ => rfl, Nat.zero_le _, Nat.le_refl _⟩
  · exact ⟨_, _, rfl, fun h => by simp at h, h2, h1⟩
theorem QRow.form (h : QRow w size v n xs) (hn : 0 < n) : ∃ g off cap, v = .slice (some ⟨g, off, none⟩) n cap ∧ n ≤ cap ∧ cap ≤ maxLen ∧ w.rangeAt g off xs ∧ w.there g off (cap * size) ∧ g < w.heap.size := by
  rcases h.2 with ⟨_, h0⟩ | h0
  · omega
  · exact h0
theorem rangeAt_part {g o : Nat} {a b c : List Value} (h : w.rangeAt g o (a ++ b ++ c)) : w.rangeAt g (o + a.length) b := fun j u hu => by
  have := h (a.length + j) u (by rw [List.append_assoc, List.getElem?_append_right (by omega), Nat.add_sub_cancel_left, List.getElem?_append_left (List.getElem?_eq_some_iff.1 hu).1]; exact hu)
  rwa [← Nat.add_assoc] at this
/-- The front is taken: the address that a slice expression gives. -/
theorem QRow.pop {g off cap : Nat} {a b : List Value} (h : QRow w size (.slice (some ⟨g, off, none⟩) (n + 1) cap) (n + 1) (a ++ b)) (ha : a.length = size) :
    QRow w size (.slice (if cap = 1 then some ⟨g, off, none⟩ else some ⟨g, off + size, none⟩) n (cap - 1)) n b := by
  have hl := h.1
  rw [List.length_append, ha, Nat.succ_mul] at hl
  refine ⟨by omega, ?_⟩
  rcases h.2 with ⟨h0, _⟩ | ⟨g', off', cap', hv, h1, h2, h3, h4, h5⟩
  · simp at h0
  · obtain ⟨⟨rfl, rfl⟩, rfl⟩ : (g = g' ∧ off = off') ∧ cap = cap' := by simpa using hv
    by_cases hc : cap = 1
    · obtain rfl : n = 0 := by omega
      have hb : b = [] := List.eq_nil_of_length_eq_zero (by omega)
      subst hb
      rw [if_pos hc]
      exact .inr ⟨g, off, cap - 1, rfl, Nat.zero_le _, by omega, fun j u hu => by simp at hu, fun j hj => by rw [hc] at hj; simp at hj, h5⟩
    · rw [if_neg hc]
      refine .inr ⟨g, off + size, cap - 1, rfl, by omega, by omega, ?_, fun j hj => ?_, h5⟩
      · have := rangeAt_part (a := a) (b := b) (c := []) (by simpa using h3)
        rwa [ha] at this
      · have := h4 (size + j) (by
          obtain ⟨c, rfl⟩ : ∃ c, cap = c + 1 := ⟨cap - 1, by omega⟩
          rw [Nat.add_sub_cancel] at hj
          rw [Nat.succ_mul]; omega)
        rwa [← Nat.add_assoc] at this
end
section
variable {P : Program} {w : World}
theorem run_append_q (t ty e : TypeId) (i : TypeInfo) (z : Value) (size bytes : Nat) (ht : P.underlying t = some (.slice e)) (hi : P.info? e = some i) (hz : i.zero = some z)
    (hsize : i.size = size) (hby : i.bytes = bytes) (hzs : z.cells.size = size) (hsz : 0 < size)
    (v : Value) (n : Nat) (xs : List Value) (hq : QRow w size v n xs)
    (ad : Addr) (m c : Nat) (news : List Value) (hl : news.length = m * size) (hnews : ∀ j u, news[j]? = some u → w.cell? (ad.add j) = some u) (h1 : ∀ u ∈ news, u.oneCell' = true)
    (hm : 0 < m) (h63 : n + m ≤ maxLen) (hbytes : (n + m) * bytes ≤ 140737488355328) :
    ∃ g off cap w', (Builtin.append_ #[t, t] ty #[v, .slice (some ad) m c]).run P w = .ok (.slice (some ⟨g, off, none⟩) (n + m) cap) w' ∧
      QRow w' size (.slice (some ⟨g, off, none⟩) (n + m) cap) (n + m) (xs ++ news) ∧ Chg w w' v.ownBlock.toList ∧ (v.ownBlock = some g ∨ w.heap.size ≤ g) := by
  rcases hq.2 with ⟨rfl, rfl⟩ | ⟨g, off, cap, rfl, q1, q2, q3, q4, q5⟩
  · obtain rfl : xs = [] := List.eq_nil_of_length_eq_zero (by simpa using hq.1)
    obtain ⟨v', w', hrun, r1, r2, _⟩ := run_append_own (P := P) w w.heap.size t ty e i z size bytes ht hi hz hsize hby hzs hsz (.slice none 0 0) 0 [] (World.ownsRow_nil w _ e size) ad m c news hl hnews h1 h63 hbytes (Nat.le_refl _)
    obtain ⟨g, cap, rfl, hb, _⟩ := r1.form (by omega)
    exact ⟨g, 0, cap, w', hrun, QRow.of_own r1, Chg.of_grown r2, .inr hb⟩
  · by_cases hr : n + m ≤ cap
    · have hml : (n + m) * size ≤ cap * size := Nat.mul_le_mul_right _ hr
      rw [Nat.add_mul] at hml
      have hsp : ∀ j, j < news.length → (w.cell? ⟨g, off + n * size + j, none⟩).isSome = true ∧ w.frozen? ⟨g, off + n * size + j, none⟩ = false := fun j hj => by
        have := q4 (n * size + j) (by omega)
        rwa [← Nat.add_assoc] at this
      have hrun := run_append_room_cells (P := P) w t ty e i ht hi g off n cap ad m c news (by rw [hsize]; exact hl) hnews h1 hr (by rw [hsize]; exact fun j hj => (hsp j hj).1) (by rw [hsize]; exact fun j hj => (hsp j hj).2)
      rw [hsize] at hrun
      refine ⟨g, off, cap, _, hrun, ⟨by rw [List.length_append, hq.1, hl, Nat.add_mul], .inr ⟨g, off, cap, rfl, hr, q2, ?_, World.there_setCells q4 _ _ _, Nat.lt_of_lt_of_le q5 (Chg.cells g _ _ w).size⟩⟩, Chg.cells g _ _ w, .inl rfl⟩
      intro j u hu
      by_cases hj : j < xs.length
      · rw [List.getElem?_append_left hj] at hu
        exact World.rangeAt_setCells_apart q3 g (off + n * size) news (.inr (.inl (by rw [hq.1]; exact Nat.le_refl _))) j u hu
      · rw [List.getElem?_append_right (by omega)] at hu
        have := World.rangeAt_setCells_same w g (off + n * size) news (fun i hi => hsp i hi) (j - xs.length) u hu
        rwa [show off + n * size + (j - xs.length) = off + j by have := hq.1; omega] at this
    · obtain ⟨v', w', hrun, r1, r2⟩ := run_append_arg_grows (P := P) w t ty e i z size bytes ht hi hz hsize hby hzs hsz ⟨g, off, none⟩ n cap xs hq.1 (fun j u hj => by rw [Addr.add_mid]; exact q3 j u hj) ad m c news hl hnews (by omega) h63 hbytes
      obtain ⟨g', cap', rfl, hb, _⟩ := r1.form (by omega)
      exact ⟨g', 0, cap', w', hrun, QRow.of_own r1, (Chg.of_grown r2).mono (fun b hb => by simp at hb), .inr hb⟩
/-- At the operation. -/
theorem wp_append_q {o : Oper} {a : Act} {K : Act → World → Prop} {Q : Exit → Act → World → Prop} (s x : Operand) (t : TypeId)
    (ho : o.op = .call { callee := .builtin .append, args := #[s, x], argTypes := #[t, t] })
    (e : TypeId) (i : TypeInfo) (z : Value) (size bytes : Nat) (ht : P.underlying t = some (.slice e)) (hi : P.info? e = some i) (hz : i.zero = some z)
    (hsize : i.size = size) (hby : i.bytes = bytes) (hzs : z.cells.size = size) (hsz : 0 < size)
    (v : Value) (n : Nat) (xs : List Value) (hs : a.eval s = v) (hq : QRow w size v n xs)
    (ad : Addr) (m c : Nat) (news : List Value) (hx : a.eval x = .slice (some ad) m c) (hl : news.length = m * size) (hnews : ∀ j u, news[j]? = some u → w.cell? (ad.add j) = some u) (h1 : ∀ u ∈ news, u.oneCell' = true)
    (hm : 0 < m) (h63 : n + m ≤ maxLen) (hbytes : (n + m) * bytes ≤ 140737488355328)
    (h : ∀ g off cap w', QRow w' size (.slice (some ⟨g, off, none⟩) (n + m) cap) (n + m) (xs ++ news) → Chg w w' v.ownBlock.toList → (v.ownBlock = some g ∨ w.heap.size ≤ g) → K (a.put o.dst (.slice (some ⟨g, off, none⟩) (n + m) cap)) w') : o.wp P a w K Q := by
  obtain ⟨g, off, cap, w', hr, h2, h3, h4⟩ := run_append_q (P := P) (w := w) t o.type e i z size bytes ht hi hz hsize hby hzs hsz v n xs hq ad m c news hl hnews h1 hm h63 hbytes
  unfold Oper.wp execOp
  simp only [ho, resolve, invoke, builtin, Sem.run_bind, Sem.run_pure, Result.andThen_ok, List.map_toArray, List.map_cons, List.map_nil, hs, hx, hr]
  exact h g off cap w' h2 h3 h4
theorem wpList_append_q {ops : Array Oper} {rest : List Oper} {o : Oper} {a : Act} {Q : Exit → Act → World → Prop} (hgd : o.guard = none) (s x : Operand) (t : TypeId)
    (ho : o.op = .call { callee := .builtin .append, args := #[s, x], argTypes := #[t, t] })
    (e : TypeId) (i : TypeInfo) (z : Value) (size bytes : Nat) (ht : P.underlying t = some (.slice e)) (hi : P.info? e = some i) (hz : i.zero = some z)
    (hsize : i.size = size) (hby : i.bytes = bytes) (hzs : z.cells.size = size) (hsz : 0 < size)
    (v : Value) (n : Nat) (xs : List Value) (hs : a.eval s = v) (hq : QRow w size v n xs)
    (ad : Addr) (m c : Nat) (news : List Value) (hx : a.eval x = .slice (some ad) m c) (hl : news.length = m * size) (hnews : ∀ j u, news[j]? = some u → w.cell? (ad.add j) = some u) (h1 : ∀ u ∈ news, u.oneCell' = true)
    (hm : 0 < m) (h63 : n + m ≤ maxLen) (hbytes : (n + m) * bytes ≤ 140737488355328)
    (h : ∀ g off cap w', QRow w' size (.slice (some ⟨g, off, none⟩) (n + m) cap) (n + m) (xs ++ news) → Chg w w' v.ownBlock.toList → (v.ownBlock = some g ∨ w.heap.size ≤ g) → wpList P ops Q rest (a.put o.dst (.slice (some ⟨g, off, none⟩) (n + m) cap)) w') : wpList P ops Q (o :: rest) a w :=
  wpList_plain hgd fun _ hK => wp_append_q s x t ho e i z size bytes ht hi hz hsize hby hzs hsz v n xs hs hq ad m c news hx hl hnews h1 hm h63 hbytes fun g off cap w' h2 h3 h4 => hK _ _ (h g off cap w' h2 h3 h4)
theorem step_append_q {ops : Array Oper} {o : Oper} {a : Act} {K : Act → World → Prop} {Q : Exit → Act → World → Prop} {E : Prop} (hgd : o.guard = none) (s x : Operand) (t : TypeId)
    (ho : o.op = .call { callee := .builtin .append, args := #[s, x], argTypes := #[t, t] })
    (e : TypeId) (i : TypeInfo) (z : Value) (size bytes : Nat) (ht : P.underlying t = some (.slice e)) (hi : P.info? e = some i) (hz : i.zero = some z)
    (hsize : i.size = size) (hby : i.bytes = bytes) (hzs : z.cells.size = size) (hsz : 0 < size)
    (v : Value) (n : Nat) (xs : List Value) (hs : a.eval s = v) (hq : QRow w size v n xs)
    (ad : Addr) (m c : Nat) (news : List Value) (hx : a.eval x = .slice (some ad) m c) (hl : news.length = m * size) (hnews : ∀ j u, news[j]? = some u → w.cell? (ad.add j) = some u) (h1 : ∀ u ∈ news, u.oneCell' = true)
    (hm : 0 < m) (h63 : n + m ≤ maxLen) (hbytes : (n + m) * bytes ≤ 140737488355328)
    (h : ∀ g off cap w', QRow w' size (.slice (some ⟨g, off, none⟩) (n + m) cap) (n + m) (xs ++ news) → Chg w w' v.ownBlock.toList → (v.ownBlock = some g ∨ w.heap.size ≤ g) → K (a.put o.dst (.slice (some ⟨g, off, none⟩) (n + m) cap)) w') :
    if Region.wanted o (yielded ops a.tmps) = true then Oper.wp P o a w K Q else E := by
  have hw : Region.wanted o (yielded ops a.tmps) = true := by simp [Region.wanted, hgd]
  rw [if_pos hw]
  exact wp_append_q s x t ho e i z size bytes ht hi hz hsize hby hzs hsz v n xs hs hq ad m c news hx hl hnews h1 hm h63 hbytes h
/-- Nothing is appended: 'append(v, nil...)'. -/
theorem run_append_q0 (t ty e : TypeId) (i : TypeInfo) (size : Nat) (ht : P.underlying t = some (.slice e)) (hi : P.info? e = some i) (v : Value) (n : Nat) (xs : List Value) (hq : QRow w size v n xs) :
    (Builtin.append_ #[t, t] ty #[v, .slice none 0 0]).run P w = .ok v w := by
  obtain ⟨A, c, rfl, _, _, hle⟩ := hq.slice
  cases A <;> simp [Builtin.append_, run_underlying ht, sizeOf, typeInfo, hi, Builtin.lenOf, hle, Builtin.firstCells, storeCells]
theorem wp_append_q0 {o : Oper} {a : Act} {K : Act → World → Prop} {Q : Exit → Act → World → Prop} (s x : Operand) (t : TypeId)
    (ho : o.op = .call { callee := .builtin .append, args := #[s, x], argTypes := #[t, t] }) (e : TypeId) (i : TypeInfo) (size : Nat) (ht : P.underlying t = some (.slice e)) (hi : P.info? e = some i)
    (v : Value) (n : Nat) (xs : List Value) (hs : a.eval s = v) (hq : QRow w size v n xs) (hx : a.eval x = .slice none 0 0) (h : K (a.put o.dst v) w) : o.wp P a w K Q := by
  have hr := run_append_q0 (P := P) (w := w) t o.type e i size ht hi v n xs hq
  unfold Oper.wp execOp
  simp only [ho, resolve, invoke, builtin, Sem.run_bind, Sem.run_pure, Result.andThen_ok, List.map_toArray, List.map_cons, List.map_nil, hs, hx, hr]
  exact h
theorem wpList_append_q0 {ops : Array Oper} {rest : List Oper} {o : Oper} {a : Act} {Q : Exit → Act → World → Prop} (hgd : o.guard = none) (s x : Operand) (t : TypeId)
    (ho : o.op = .call { callee := .builtin .append, args := #[s, x], argTypes := #[t, t] }) (e : TypeId) (i : TypeInfo) (size : Nat) (ht : P.underlying t = some (.slice e)) (hi : P.info? e = some i)
    (v : Value) (n : Nat) (xs : List Value) (hs : a.eval s = v) (hq : QRow w size v n xs) (hx : a.eval x = .slice none 0 0) (h : wpList P ops Q rest (a.put o.dst v) w) : wpList P ops Q (o :: rest) a w :=
  wpList_plain hgd fun _ hK => wp_append_q0 s x t ho e i size ht hi v n xs hs hq hx (hK _ _ h)
theorem step_append_q0 {ops : Array Oper} {o : Oper} {a : Act} {K : Act → World → Prop} {Q : Exit → Act → World → Prop} {E : Prop} (hgd : o.guard = none) (s x : Operand) (t : TypeId)
    (ho : o.op = .call { callee := .builtin .append, args := #[s, x], argTypes := #[t, t] }) (e : TypeId) (i : TypeInfo) (size : Nat) (ht : P.underlying t = some (.slice e)) (hi : P.info? e = some i)
    (v : Value) (n : Nat) (xs : List Value) (hs : a.eval s = v) (hq : QRow w size v n xs) (hx : a.eval x = .slice none 0 0) (h : K (a.put o.dst v) w) :
    if Region.wanted o (yielded ops a.tmps) = true then Oper.wp P o a w K Q else E := by
  have hw : Region.wanted o (yielded ops a.tmps) = true := by simp [Region.wanted, hgd]
  rw [if_pos hw]
  exact wp_append_q0 s x t ho e i size ht hi v n xs hs hq hx h
end
end Go.Proofs.YtcepfhnlbnlnhaaGreatDoor
