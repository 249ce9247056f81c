/- append ONTO A SLICE OF TEXTS THAT A CALL HANDED BACK: in its spare room, or in a new row. -/
import Derived.Test.YtklcpckjmncdkaaDoorOpens
import Derived.ArgAppend
namespace Go.Proofs.YtklcpckjmncdkaaDoor
set_option maxRecDepth 100000
open Go.RowKit

theorem wpList_append_run {P : Program} {w w' : World} {ops : Array Oper} {rest : List Oper} {o : Oper} {a : Act} {Q : Exit → Act → World → Prop} (hgd : o.guard = none) (s x : Operand) (t : TypeId)
    (ho : o.op = .call { callee := .builtin .append, args := #[s, x], argTypes := #[t, t] }) {v vx v' : Value} (hs : a.eval s = v) (hx : a.eval x = vx) (hr : (Builtin.append_ #[t, t] o.type #[v, vx]).run P w = .ok v' w')
    (h : wpList P ops Q rest (a.put o.dst v') w') : wpList P ops Q (o :: rest) a w :=
  wpList_plain hgd fun _ hK => by
    unfold Oper.wp execOp
    simp only [ho, resolve, invoke, builtin, Sem.run_bind, Sem.run_pure, Result.andThen_ok, List.map_toArray, List.map_cons, List.map_nil, hs, hx, hr]
    exact hK _ _ h

/-- All blocks that hold no texts stand. -/
def OthersStand (w w' : World) : Prop := ∀ k t cs, t ≠ 9 → Blk w k t cs → Blk w' k t cs
theorem DiskAt.stand {w w' : World} {g : Nat} {D : Dk} (h : DiskAt w g D) (hs : OthersStand w w') : DiskAt w' g D := by
  obtain ⟨⟨kv, hb, hr⟩, ok⟩ := h
  refine ⟨⟨kv, hs _ _ _ (by decide) hb, hr.1, hr.2.imp id ?_⟩, ok⟩
  rintro ⟨k, cap, cur, hv, h0, hh, rest⟩
  exact ⟨k, cap, cur, hv, h0, hs k 3 cur (by decide) hh, rest⟩
theorem one_setCells (w : World) (b o : Nat) (v : Value) : w.setCells b o [v] = w.setCell ⟨b, o, none⟩ v := rfl

/-- One text more. -/
theorem run_append_text {w : World} {ty : TypeId} {B : Nat} {v : Value} {l : List ByteArray} (hv : StrsAt w B v l) {ad : Addr} {x : ByteArray} (hx : w.cell? (ad.add 0) = some (.string x)) (hlen : l.length + 1 ≤ 100000000) (hB : B ≤ w.heap.size) :
    ∃ v' w', (Builtin.append_ #[23, 23] ty #[v, .slice (some ad) 1 1]).run Tryd.prog w = .ok v' w' ∧ StrsAt w' B v' (l ++ [x]) ∧ OthersStand w w' ∧ Below B w w' := by
  obtain ⟨i0, hi0, hz0, hz1, hz2⟩ := info_parts Tryd.infoStr
  obtain ⟨A, c, rfl, hle, hcm, hat⟩ := hv
  have hm : maxLen = 9223372036854775807 := rfl
  have hnews : ∀ j u, [Value.string x][j]? = some u → w.cell? (ad.add j) = some u := by
    intro j u hu
    cases j with
    | zero => simp at hu; rw [hx, ← hu]
    | succ j => simp at hu
  have h1 : ∀ u ∈ [Value.string x], u.oneCell' = true := by intro u hu; simp at hu; subst hu; rfl
  have grow : ∀ {v' : Value} {w' : World}, w'.ownsRow w.heap.size 9 1 v' (l.length + 1) (l.map Value.string ++ [.string x]) → w.grownBy w' none → StrsAt w' B v' (l ++ [x]) ∧ OthersStand w w' ∧ Below B w w' := by
    intro v' w' ho hg
    refine ⟨?_, fun k t cs _ hk => hk.grown hg (by simp), ⟨hg.os, hg.tape, hg.output, hg.size, fun i hi => hg.block i (by omega) (by simp)⟩⟩
    have e : (l ++ [x]).length = l.length + 1 := by simp
    have e2 : (l ++ [x]).map Value.string = l.map Value.string ++ [.string x] := by simp
    exact (row_strs (by rw [e, e2]; exact ho)).mono hB
  cases A with
  | none =>
    have hc : c = 0 := by
      rcases Nat.eq_zero_or_pos c with h0 | h0
      · exact h0
      · obtain ⟨b, off, cs, hA, _⟩ := hat h0; cases hA
    subst hc
    have hl : l = [] := List.eq_nil_of_length_eq_zero (by omega)
    subst hl
    obtain ⟨v', w', hr, ho, hg, _⟩ := run_append_own (P := Tryd.prog) w w.heap.size 23 ty 9 i0 _ 1 16 Tryd.underlying23 hi0 hz0 hz1 hz2 rfl (by decide) (.slice none 0 0) 0 [] (World.ownsRow_nil _ _ _ _) ad 1 1 [.string x] rfl hnews h1 (by omega) (by omega) (Nat.le_refl _)
    exact ⟨v', w', hr, grow ho (by simpa [Value.ownBlock] using hg)⟩
  | some a0 =>
    by_cases hroom : l.length + 1 ≤ c
    · obtain ⟨b, off, cs, hA, hb, hh, hoc, hcell⟩ := hat (by omega)
      injection hA with hA
      subst hA
      have hr := run_append_room_cells (P := Tryd.prog) w 23 ty 9 i0 Tryd.underlying23 hi0 b off l.length c ad 1 1 [.string x] (by rw [hz1]; rfl) hnews h1 hroom
        (fun j hj => by
          obtain rfl : j = 0 := by simp at hj; omega
          rw [hz1, Nat.mul_one, Nat.add_zero, cell_of_row w b (off + l.length) cs _ (0, 0) hh, Array.getElem?_eq_getElem (by omega)]
          rfl)
        (fun j hj => by
          unfold World.frozen?
          simp [hh])
      rw [hz1, Nat.mul_one, one_setCells] at hr
      refine ⟨_, _, hr, ⟨some ⟨b, off, none⟩, c, by simp, by simpa using hroom, hcm, fun _ => ⟨b, off, cs.setIfInBounds (off + l.length) (.string x), rfl, hb, ?_, by simpa using hoc, ?_⟩⟩, ?_, ?_⟩
      · exact (Blk.put (t := 9) hh (off + l.length) (.string x))
      · intro j hj
        simp only [List.length_append, List.length_cons, List.length_nil] at hj
        by_cases hjl : j < l.length
        · rw [Array.getElem?_setIfInBounds_ne (by omega), hcell j hjl]
          simp [List.getElem_append_left hjl]
        · obtain rfl : j = l.length := by omega
          rw [Array.getElem?_setIfInBounds_self_of_lt (by omega)]
          simp
      · intro k t cs' ht hk
        have hbl : Blk w b 9 cs := hh
        exact hk.far (p := ⟨b, off + l.length, none⟩) (Blk.ne_ hk hbl ht) _
      · exact ⟨rfl, rfl, rfl, by simp [World.setCell], fun i hi => Below.heap_setCell w _ _ i (by simp only; omega)⟩
    · have holds : ∀ j u, (l.map Value.string)[j]? = some u → w.cell? (a0.add j) = some u := by
        intro j u hu
        rw [List.getElem?_map] at hu
        have hjl : j < l.length := by
          rcases Nat.lt_or_ge j l.length with h0 | h0
          · exact h0
          · rw [List.getElem?_eq_none h0] at hu; cases hu
        rw [List.getElem?_eq_getElem hjl] at hu
        obtain ⟨b, off, cs, hA, _, hh, _, hcell⟩ := hat (by omega)
        injection hA with hA
        subst hA
        rw [add_off, cell_of_row w b (off + j) cs _ (0, 0) hh, hcell j hjl]
        simpa using hu
      obtain ⟨v', w', hr, ho, hg⟩ := run_append_arg_grows (P := Tryd.prog) w 23 ty 9 i0 _ 1 16 Tryd.underlying23 hi0 hz0 hz1 hz2 rfl (by decide) a0 l.length c (l.map Value.string) (by simp) holds ad 1 1 [.string x] rfl hnews (by omega) (by omega) (by omega)
      exact ⟨v', w', hr, grow ho hg⟩
end Go.Proofs.YtklcpckjmncdkaaDoor
