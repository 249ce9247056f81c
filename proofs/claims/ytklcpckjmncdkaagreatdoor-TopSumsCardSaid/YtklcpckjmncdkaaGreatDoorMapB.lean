/- A map[int]bool that the call makes: a set of numbers. -/
import Derived.Test.YtklcpckjmncdkaaGreatDoorDiskAt
import Derived.Maps.OwnOps
import Derived.Maps.Views
namespace Go.Proofs.YtklcpckjmncdkaaGreatDoor
set_option maxRecDepth 100000
open Go.RowKit Go.Maps

theorem keyInt : Keyed Tryz.prog 3 := int_keyed Tryz.underlying3
theorem zeroBool (w : World) : (zeroValue 4).run Tryz.prog w = .ok (.bool false) w := by kernel_rfl
/-- Block b is a map in which each of M is told of. -/
def MSet (w : World) (b n : Nat) (M : List Int) : Prop :=
  ∃ D : DataW Unit, IsMap D ∧ w.ownsMap Tryz.prog 3 (plainElem Tryz.prog 4) b n D ∧ ∀ m ∈ M, D.atKey (.int .i64 m) (.lit (.bool false)) = .lit (.bool true)
section
variable {w : World} {b n : Nat} {M : List Int}
theorem MSet.made (w : World) : MSet (w.alloc (.map #[] 0)) w.heap.size 0 [] := ⟨.map [], isMap_empty, World.ownsMap_made _ _ _ _, fun m hm => by simp at hm⟩
theorem MSet.lt (h : MSet w b n M) : b < w.heap.size := by obtain ⟨D, _, h, _⟩ := h; exact h.lt
theorem MSet.kept {w' : World} {row : Option Nat} (h : MSet w b n M) (hg : w.grownBy w' row) (hne : some b ≠ row) : MSet w' b n M := by
  obtain ⟨D, h1, h2, h3⟩ := h
  exact ⟨D, h1, h2.kept hg hne, h3⟩
theorem MSet.mono (h : MSet w b n M) {n' : Nat} (hn : n ≤ n') : MSet w b n' M := by
  obtain ⟨D, h1, h2, h3⟩ := h
  exact ⟨D, h1, h2.mono hn, h3⟩
theorem wf_of {v : Int} (hv : I64 v) : (Lit.int .i64 v).wf = true := WalkArith.wf_i64 hv
theorem MSet.look (h : MSet w b n M) {m : Int} (hm : m ∈ M) (h64 : I64 m) : (Instr.lookup 27 (.map (some b)) (.int .i64 m) false).run Tryz.prog w = .ok (.bool true) w := by
  obtain ⟨D, _, h2, h3⟩ := h
  obtain ⟨v, ps, hrun, hv⟩ := h2.lookup keyInt Tryz.underlying27 (zeroBool w) (plainElem_bool Tryz.underlying4 false) (keyOf_int_mk Tryz.underlying3 (wf_of h64))
  rw [h3 m hm] at hv
  have : v = .bool true := by
    unfold plainElem at hv
    rw [Tryz.underlying4] at hv
    cases v <;> simp at hv
    rw [hv.1]
  rw [hrun, this]
theorem MSet.put (h : MSet w b n M) (hn : n < maxLen) {m : Int} (h64 : I64 m) : ∃ w', (Instr.mapUpdate 27 (.map (some b)) (.int .i64 m) (.bool true)).run Tryz.prog w = .ok () w' ∧ MSet w' b (n + 1) (m :: M) ∧ w.grownBy w' (some b) := by
  obtain ⟨D, h1, h2, h3⟩ := h
  have hk : WideAt.IsKeyLit (.int .i64 m) := trivial
  obtain ⟨w', hr, ho, hg⟩ := h2.update keyInt Tryz.underlying27 hn (keyOf_int_mk Tryz.underlying3 (wf_of h64)) (plainElem_bool Tryz.underlying4 true)
  refine ⟨w', hr, ⟨_, h1.put _ _, ho, fun x hx => ?_⟩, hg⟩
  by_cases he : x = m
  · subst he; exact atKey_put_same h1 hk _ _
  · rw [atKey_put_other (fun e => he (by injection e))]
    rcases List.mem_cons.1 hx with h | h
    · exact absurd h he
    · exact h3 x h
/-- A store, and the first one of a literal. -/
theorem wpList_mset {ops : Array Oper} {rest : List Oper} {o : Oper} {a : Act} {Q : Exit → Act → World → Prop} (hg : o.guard = none) (x y v : Operand) (hop : o.op = .mapUpdate 27 x y v ∨ o.op = .insert 27 x y v)
    (b n : Nat) (M : List Int) (m : Int) (hx : a.eval x = .map (some b)) (hy : a.eval y = .int .i64 m) (hv : a.eval v = .bool true) (h : MSet w b n M) (hn : n < maxLen) (h64 : I64 m)
    (hK : ∀ w', MSet w' b (n + 1) (m :: M) → w.grownBy w' (some b) → wpList Tryz.prog ops Q rest (a.put o.dst undef) w') : wpList Tryz.prog ops Q (o :: rest) a w := by
  refine wpList_plain hg fun K' hK' => ?_
  obtain ⟨w', hrun, r1, r2⟩ := h.put hn h64
  unfold Oper.wp
  rcases hop with hop | hop
  · simp [execOp, hop, hx, hy, hv, hrun, Result.andThen]
    exact hK' _ _ (hK w' r1 r2)
  · simp [execOp, hop, hx, hy, hv, hrun, Result.andThen]
    exact hK' _ _ (hK w' r1 r2)
end
end Go.Proofs.YtklcpckjmncdkaaGreatDoor
