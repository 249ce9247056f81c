/- THE LISTED VARIABLE: what the rows' condition gives a walk; a world that meets it. -/
import Derived.Test.YtklcpckjmncdkaaGreatDoorWk
import Derived.Test.YtklcpckjmncdkaaGreatDoorPost
import Derived.ChangeSame
import Derived.ChangeVars
import Derived.JoinedOf
import Derived.RowKitTokens
import Derived.LaidLaws
import Derived.LaidHandle
import Derived.Stop.Joined
namespace Go.Proofs.YtklcpckjmncdkaaGreatDoor
set_option maxRecDepth 100000
open Go.ChangeShapes Go.WideShapes Go.RowKit

theorem Tryz.own : ownKnob Tryz.prog.godebug = none := by kernel_rfl
theorem Tryz.et : Tryz.prog.globalNamed "errors.errorType" = some 0 := by kernel_rfl
theorem Tryz.rt : (Tryz.prog.cutTypes.find? (·.1 == "internal/reflectlite.rtype")).map (·.2) = some 181 := by kernel_rfl
theorem Tryz.oneRow : ((List.range Tryz.prog.types.size).filter fun t => Tryz.prog.rowNamed t [101, 114, 114, 111, 114]) = [34] := by kernel_rfl

def laidL {H : Type} : List (String × DataW H) := [("errors.errorType", Rows.laid_errors_errorType)]
/-- WHAT THE CONDITION GIVES A WALK: the variable's one cell. -/
theorem hand_of_laid {W : World} (h : laidMetH Tryz.prog laidL W) : Hand W := by
  have h' : laidMet Tryz.prog [] W ∧ handlesMet Tryz.prog laidL W := h
  obtain ⟨name, u, ty, e1, e2, e3, e4, e5⟩ := h'.2 _ (List.mem_singleton.2 rfl)
  have en : name = [101, 114, 114, 111, 114] := (Option.some.inj e1).symm
  subst en
  obtain rfl := Option.some.inj (Tryz.rt.symm.trans e2)
  have hm : ty ∈ (List.range Tryz.prog.types.size).filter fun t => Tryz.prog.rowNamed t [101, 114, 114, 111, 114] := List.mem_filter.2 ⟨List.mem_range.2 e3, e4⟩
  rw [Tryz.oneRow] at hm
  obtain rfl := List.mem_singleton.1 hm
  have hh : typeHandle Tryz.prog 34 = .pointer (some ⟨3, 34, none⟩) := by kernel_rfl
  rw [hh] at e5
  unfold Hand
  simpa using World.var?_cell Tryz.et e5 0

/-- A world that meets the condition: the settled one, the variable's cell laid. -/
noncomputable def laidWorld (os : Os) : World :=
  let w0 := World.holding Tryz.prog os ⟨#[], #[], []⟩
  { w0 with heap := w0.heap.modify 0 fun
      | .cells _ t frozen => .cells #[.iface 181 (.agg #[.pointer (some ⟨3, 34, none⟩)])] t frozen
      | o => o }
theorem laidWorld_met (os : Os) (args : Array Value) : laidMetH Tryz.prog laidL ((laidWorld os).forCall (fun _ _ => 0) ⟨#[], args, []⟩).memory :=
  laidMetH_of_parts (laidMet_nil _ _) (by kernel_rfl)
theorem grown_frame {w w' : World} (h : w.grownBy w' none) : Below w.heap.size w w' := ⟨h.os, h.tape, h.output, h.size, fun i hi => h.block i hi (by simp)⟩
end Go.Proofs.YtklcpckjmncdkaaGreatDoor
