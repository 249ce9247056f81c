/- append(texts, others...) ONTO SLICES OF TEXTS. -/
import Derived.Test.YtklcpckjmncdkaaDoorApp
namespace Go.Proofs.YtklcpckjmncdkaaDoor
set_option maxRecDepth 100000
open Go.RowKit

theorem wpList_append_want {P : Program} {w w' : World} {ops : Array Oper} {rest : List Oper} {o : Oper} {a : Act} {Q : Exit → Act → World → Prop} (hw : Region.wanted o (yielded ops a.tmps) = true) (s x : Operand) (t : TypeId)
    (ho : o.op = .call { callee := .builtin .append, args := #[s, x], argTypes := #[t, t] }) {v vx v' : Value} (hs : a.eval s = v) (hx : a.eval x = vx) (hr : (Builtin.append_ #[t, t] o.type #[v, vx]).run P w = .ok v' w')
    (h : wpList P ops Q rest (a.put o.dst v') w') : wpList P ops Q (o :: rest) a w :=
  BigFrame.wpList_want hw fun _ hK => by
    unfold Oper.wp execOp
    simp only [ho, resolve, invoke, builtin, Sem.run_bind, Sem.run_pure, Result.andThen_ok, List.map_toArray, List.map_cons, List.map_nil, hs, hx, hr]
    exact hK _ _ h

theorem blk_setCells {b : Nat} {t : TypeId} : ∀ (news : List Value) (o : Nat) (cs : Array Value) (w : World), Blk w b t cs → o + news.length ≤ cs.size →
    ∃ cs', Blk (w.setCells b o news) b t cs' ∧ cs'.size = cs.size ∧ (∀ j, j < o → cs'[j]? = cs[j]?) ∧ (∀ j, j < news.length → cs'[o + j]? = news[j]?)
  | [], o, cs, w, h, _ => ⟨cs, h, rfl, fun _ _ => rfl, fun j hj => absurd hj (by simp)⟩
  | v :: r, o, cs, w, h, hs => by
    simp only [List.length_cons] at hs
    obtain ⟨cs', h1, h2, h3, h4⟩ := blk_setCells r (o + 1) (cs.setIfInBounds o v) (w.setCell ⟨b, o, none⟩ v) (h.put o v) (by simp; omega)
    refine ⟨cs', h1, by simpa using h2, fun j hj => by rw [h3 j (by omega), Array.getElem?_setIfInBounds_ne (by omega)], fun j hj => ?_⟩
    cases j with
    | zero =>
      rw [Nat.add_zero, h3 o (by omega), Array.getElem?_setIfInBounds_self_of_lt (by omega)]
      rfl
    | succ j =>
      have := h4 j (by simpa using hj)
      rw [show o + (j + 1) = o + 1 + j by omega, this]
      rfl
theorem setCells_far {b : Nat} : ∀ (news : List Value) (o : Nat) (w : World) (i : Nat), i ≠ b → (w.setCells b o news).heap[i]? = w.heap[i]?
  | [], _, _, _, _ => rfl
  | v :: r, o, w, i, h => by
    rw [World.setCells, setCells_far r (o + 1) _ i h]
    exact Below.heap_setCell w ⟨b, o, none⟩ v i h
theorem setCells_rest {b : Nat} : ∀ (news : List Value) (o : Nat) (w : World), (w.setCells b o news).os = w.os ∧ (w.setCells b o news).tape = w.tape ∧ (w.setCells b o news).output = w.output ∧ (w.setCells b o news).heap.size = w.heap.size
  | [], _, _ => ⟨rfl, rfl, rfl, rfl⟩
  | v :: r, o, w => by
    obtain ⟨h1, h2, h3, h4⟩ := setCells_rest r (o + 1) (w.setCell ⟨b, o, none⟩ v)
    exact ⟨h1, h2, h3, h4.trans (by simp [World.setCell])⟩

/-- Many texts more. -/
theorem run_append_texts {w : World} {ty : TypeId} {B Bx : Nat} {v vx : Value} {l lx : List ByteArray} (hv : StrsAt w B v l) (hvx : StrsAt w Bx vx lx) (hlen : l.length + lx.length ≤ 100000000) (hB : B ≤ w.heap.size) :
    ∃ v' w', (Builtin.append_ #[23, 23] ty #[v, vx]).run Tryd.prog w = .ok v' w' ∧ StrsAt w' B v' (l ++ lx) ∧ OthersStand w w' ∧ Below B w w' := by
  obtain ⟨i0, hi0, hz0, hz1, hz2⟩ := info_parts Tryd.infoStr
  obtain ⟨A, c, rfl, hle, hcm, hat⟩ := hv
  obtain ⟨Ax, cx, rfl, hlex, hcmx, hatx⟩ := hvx
  have hm : maxLen = 9223372036854775807 := rfl
  have h1 : ∀ u ∈ lx.map Value.string, u.oneCell' = true := by
    intro u hu
    obtain ⟨b, _, rfl⟩ := List.mem_map.1 hu
    rfl
  have grow : ∀ {v' : Value} {w' : World}, w'.ownsRow w.heap.size 9 1 v' (l.length + lx.length) (l.map Value.string ++ lx.map Value.string) → w.grownBy w' none → StrsAt w' B v' (l ++ lx) ∧ OthersStand w w' ∧ Below B w w' := by
    intro v' w' ho hg
    refine ⟨?_, fun k t cs _ hk => hk.grown hg (by simp), ⟨hg.os, hg.tape, hg.output, hg.size, fun i hi => hg.block i (by omega) (by simp)⟩⟩
    have e : (l ++ lx).length = l.length + lx.length := by simp
    have e2 : (l ++ lx).map Value.string = l.map Value.string ++ lx.map Value.string := by simp
    exact (row_strs (by rw [e, e2]; exact ho)).mono hB
  cases Ax with
  | none =>
    have hcx : cx = 0 := by
      rcases Nat.eq_zero_or_pos cx with h0 | h0
      · exact h0
      · obtain ⟨b, off, cs, hA, _⟩ := hatx h0; cases hA
    subst hcx
    have hlx : lx = [] := List.eq_nil_of_length_eq_zero (by omega)
    subst hlx
    refine ⟨.slice A l.length c, w, ?_, ?_, fun _ _ _ _ hk => hk, Below.refl _ _⟩
    · cases A <;> simp [Builtin.append_, run_underlying Tryd.underlying23, sizeOf, typeInfo, hi0, Builtin.lenOf, Builtin.firstCells, storeCells, hle]
    · rw [List.append_nil]
      exact ⟨A, c, rfl, hle, hcm, hat⟩
  | some ad =>
    have hnews : ∀ j u, (lx.map Value.string)[j]? = some u → w.cell? (ad.add j) = some u := by
      intro j u hu
      rw [List.getElem?_map] at hu
      have hjl : j < lx.length := by
        rcases Nat.lt_or_ge j lx.length with h0 | h0
        · exact h0
        · rw [List.getElem?_eq_none h0] at hu; cases hu
      rw [List.getElem?_eq_getElem hjl] at hu
      obtain ⟨b, off, cs, hA, _, hh, _, hcell⟩ := hatx (by omega)
      injection hA with hA
      subst hA
      rw [add_off, cell_of_row w b (off + j) cs _ (0, 0) hh, hcell j hjl]
      simpa using hu
    cases A with
    | none =>
      have hc : c = 0 := by
        rcases Nat.eq_zero_or_pos c with h0 | h0
        · exact h0
        · obtain ⟨b, off, cs, hA, _⟩ := hat h0; cases hA
      subst hc
      have hl : l = [] := List.eq_nil_of_length_eq_zero (by omega)
      subst hl
      obtain ⟨v', w', hr, ho, hg, _⟩ := run_append_own (P := Tryd.prog) w w.heap.size 23 ty 9 i0 _ 1 16 Tryd.underlying23 hi0 hz0 hz1 hz2 rfl (by decide) (.slice none 0 0) 0 [] (World.ownsRow_nil _ _ _ _) ad lx.length cx (lx.map Value.string) (by simp) hnews h1 (by omega) (by omega) (Nat.le_refl _)
      exact ⟨v', w', hr, grow (by simpa using ho) (by simpa [Value.ownBlock] using hg)⟩
    | some a0 =>
      by_cases hroom : l.length + lx.length ≤ c
      · by_cases hc0 : c = 0
        · have hl : l = [] := List.eq_nil_of_length_eq_zero (by omega)
          have hlx : lx = [] := List.eq_nil_of_length_eq_zero (by omega)
          subst hl; subst hlx; subst hc0
          refine ⟨.slice (some a0) 0 0, w, ?_, ⟨some a0, 0, rfl, Nat.le_refl _, Nat.zero_le _, fun h => absurd h (by omega)⟩, fun _ _ _ _ hk => hk, Below.refl _ _⟩
          simp [Builtin.append_, run_underlying Tryd.underlying23, sizeOf, typeInfo, hi0, Builtin.lenOf, Builtin.firstCells, storeCells, loadCells, loadCellsFrom]
        · obtain ⟨b, off, cs, hA, hb, hh, hoc, hcell⟩ := hat (by omega)
          injection hA with hA
          subst hA
          have hr := run_append_room_cells (P := Tryd.prog) w 23 ty 9 i0 Tryd.underlying23 hi0 b off l.length c ad lx.length cx (lx.map Value.string) (by rw [hz1]; simp) hnews h1 hroom
            (fun j hj => by
              simp only [List.length_map] at hj
              rw [hz1, Nat.mul_one, cell_of_row w b (off + l.length + j) cs _ (0, 0) hh, Array.getElem?_eq_getElem (by omega)]
              rfl)
            (fun j hj => by
              unfold World.frozen?
              simp [hh])
          rw [hz1, Nat.mul_one] at hr
          have hbl : Blk w b 9 cs := hh
          obtain ⟨cs', k1, k2, k3, k4⟩ := blk_setCells (lx.map Value.string) (off + l.length) cs w hbl (by simp; omega)
          obtain ⟨r1, r2, r3, r4⟩ := setCells_rest (b := b) (lx.map Value.string) (off + l.length) w
          refine ⟨_, _, hr, ⟨some ⟨b, off, none⟩, c, by simp, by simpa using hroom, hcm, fun _ => ⟨b, off, cs', rfl, hb, k1, by omega, ?_⟩⟩, ?_, ?_⟩
          · intro j hj
            simp only [List.length_append] at hj
            by_cases hjl : j < l.length
            · rw [k3 (off + j) (by omega), hcell j hjl]
              simp [List.getElem_append_left hjl]
            · have := k4 (j - l.length) (by simp; omega)
              rw [show off + l.length + (j - l.length) = off + j by omega] at this
              rw [this, List.getElem?_map, List.getElem?_eq_getElem (by omega), List.getElem_append_right (by omega)]
              rfl
          · intro k t cs2 ht hk
            exact (setCells_far _ _ w k (Blk.ne_ hk hbl ht)).trans hk
          · exact ⟨r1, r2, r3, by omega, fun i hi => setCells_far _ _ w i (by omega)⟩
      · have holds : ∀ j u, (l.map Value.string)[j]? = some u → w.cell? (a0.add j) = some u := by
          intro j u hu
          rw [List.getElem?_map] at hu
          have hjl : j < l.length := by
            rcases Nat.lt_or_ge j l.length with h0 | h0
            · exact h0
            · rw [List.getElem?_eq_none h0] at hu; cases hu
          rw [List.getElem?_eq_getElem hjl] at hu
          obtain ⟨b, off, cs, hA, _, hh, _, hcell⟩ := hat (by omega)
          injection hA with hA
          subst hA
          rw [add_off, cell_of_row w b (off + j) cs _ (0, 0) hh, hcell j hjl]
          simpa using hu
        obtain ⟨v', w', hr, ho, hg⟩ := run_append_arg_grows (P := Tryd.prog) w 23 ty 9 i0 _ 1 16 Tryd.underlying23 hi0 hz0 hz1 hz2 rfl (by decide) a0 l.length c (l.map Value.string) (by simp) holds ad lx.length cx (lx.map Value.string) (by simp) hnews (by omega) (by omega) (by omega)
        exact ⟨v', w', hr, grow ho hg⟩

/-- A slice of texts whose block lies between two places. -/
structure StrsTo (w : World) (B B' : Nat) (v : Value) (l : List ByteArray) : Prop where
  at_ : StrsAt w B v l
  below : ∀ A n c, v = .slice A n c → 0 < c → ∀ b off, A = some ⟨b, off, none⟩ → b < B'
theorem StrsAt.to {w : World} {B : Nat} {v : Value} {l : List ByteArray} (h : StrsAt w B v l) : StrsTo w B w.heap.size v l := by
  refine ⟨h, ?_⟩
  rintro A n c rfl hc b off rfl
  obtain ⟨A', c', hv, _, _, h3⟩ := h
  injection hv with e1 e2 e3
  subst e1; subst e3
  obtain ⟨b', off', cs, hA, _, hh, _⟩ := h3 hc
  injection hA with hA
  injection hA with hb _
  subst hb
  exact (Array.getElem?_eq_some_iff.1 hh).1
theorem StrsTo.up {w : World} {B B' B2 : Nat} {v : Value} {l : List ByteArray} (h : StrsTo w B B' v l) (h2 : B' ≤ B2) : StrsTo w B B2 v l := ⟨h.at_, fun A n c hv hc b off hA => Nat.lt_of_lt_of_le (h.below A n c hv hc b off hA) h2⟩
theorem StrsTo.kept {w w' : World} {B B' : Nat} {v : Value} {l : List ByteArray} (h : StrsTo w B B' v l) (hk : ∀ b cs, B ≤ b → b < B' → Blk w b 9 cs → Blk w' b 9 cs) : StrsTo w' B B' v l := by
  obtain ⟨⟨A, c, rfl, h1, h2, h3⟩, hb⟩ := h
  refine ⟨⟨A, c, rfl, h1, h2, fun hc => ?_⟩, hb⟩
  obtain ⟨b, off, cs, hA, hb0, hh, ho, hcell⟩ := h3 hc
  exact ⟨b, off, cs, hA, hb0, hk b cs hb0 (hb _ _ _ rfl hc _ _ hA) hh, ho, hcell⟩
theorem StrsTo.below_ {w w' : World} {B B' : Nat} {v : Value} {l : List ByteArray} (h : StrsTo w B B' v l) (hb : Below B' w w') : StrsTo w' B B' v l := h.kept fun _ _ _ h2 hk => hk.below hb h2
theorem StrsTo.grown {w w' : World} {B B' : Nat} {v : Value} {l : List ByteArray} (h : StrsTo w B B' v l) (hg : w.grownBy w' none) : StrsTo w' B B' v l := h.kept fun _ _ _ _ hk => hk.grown hg (by simp)
theorem StrsTo.duo {w w' : World} {B B' g jb : Nat} {v : Value} {l : List ByteArray} (h : StrsTo w B B' v l) (hd : Duo w w' g jb) {t1 t2 : TypeId} {c1 c2 : Array Value} (h1 : Blk w g t1 c1) (h2 : Blk w jb t2 c2) (n1 : t1 ≠ 9) (n2 : t2 ≠ 9) : StrsTo w' B B' v l :=
  h.kept fun b _ _ _ hb => (hd.block b hb.lt (Blk.ne_ hb h1 (Ne.symm n1)) (Blk.ne_ hb h2 (Ne.symm n2))).trans hb
end Go.Proofs.YtklcpckjmncdkaaDoor
