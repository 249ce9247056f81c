/- PROVED HERE: the statement TopSums (its tied card): called with any steps and any losses of power, the law returns true. The listed variables read as their initialisers lay them. -/
import Derived.Test.YtklcpckjmncdkaaGreatDoorTopSums
import Derived.Test.YtklcpckjmncdkaaGreatDoorDoor
import Derived.Test.YtklcpckjmncdkaaGreatDoorCards
import Derived.Test.YtklcpckjmncdkaaGreatDoorTie
import Derived.OpenShut
import Derived.ShutString
import Derived.SevenTiedAt
namespace Go.Proofs.YtklcpckjmncdkaaGreatDoor.topSums
set_option maxRecDepth 100000
open Go.ChangeShapes Go.WideShapes Go.ChangeAt Go.RowKit
open Go.ChangeMaps (open_string shut_string)

def plainL : List (String × DataW Unit) := [("unicode/utf8.acceptRanges", Rows.laid_unicode_utf8_acceptRanges), ("unicode/utf8.first", Rows.laid_unicode_utf8_first)]
def handL : List (String × DataW Unit) := [("errors.errorType", Rows.laid_errors_errorType)]
def laidS : List (String × DataW Unit) := [("unicode/utf8.acceptRanges", Rows.laid_unicode_utf8_acceptRanges), ("errors.errorType", Rows.laid_errors_errorType), ("unicode/utf8.first", Rows.laid_unicode_utf8_first)]
theorem parts_of_laid {W : World} (h : laidMetH Tryz.prog laidS W) : laidMet Tryz.prog plainL W ∧ handlesMet Tryz.prog handL W := h
/-- WHAT THE CONDITION GIVES A WALK: the one variable's one cell. -/
theorem hand_of {W : World} (h : laidMetH Tryz.prog laidS W) : Hand W := by
  obtain ⟨name, u, ty, e1, e2, e3, e4, e5⟩ := (parts_of_laid h).2 _ (List.mem_singleton.2 rfl)
  have en : name = [101, 114, 114, 111, 114] := (Option.some.inj e1).symm
  subst en
  obtain rfl := Option.some.inj (Tryz.rt.symm.trans e2)
  have hm : ty ∈ (List.range Tryz.prog.types.size).filter fun t => Tryz.prog.rowNamed t [101, 114, 114, 111, 114] := List.mem_filter.2 ⟨List.mem_range.2 e3, e4⟩
  rw [Tryz.oneRow] at hm
  obtain rfl := List.mem_singleton.1 hm
  have hh : typeHandle Tryz.prog 34 = .pointer (some ⟨3, 34, none⟩) := by kernel_rfl
  rw [hh] at e5
  unfold Hand
  simpa using World.var?_cell Tryz.et e5 0
/-- A world that meets the condition: the settled one, the variables' cells laid. -/
noncomputable def laidWorldS (os : Os) : World :=
  let w0 := World.holding Tryz.prog os ⟨#[], #[], []⟩
  let ints := fun (l : List Nat) => (l.map fun (z : Nat) => Value.int .u8 (z : Int)).toArray
  let put := fun (cs : Array Value) (o : Obj) => match o with
    | .cells _ t frozen => Obj.cells cs t frozen
    | o => o
  { w0 with heap := (((w0.heap.modify 0 (put #[.iface 181 (.agg #[.pointer (some ⟨3, 34, none⟩)])])).modify 1 (put (ints Pinned.utf8FirstZ))).modify 2 (put (ints [128, 191, 160, 191, 128, 159, 144, 191, 128, 143, 0, 0, 0, 0, 0, 0, 0, 0, 0, 0, 0, 0, 0, 0, 0, 0, 0, 0, 0, 0, 0, 0]))) }
theorem laidWorldS_met (os : Os) (args : Array Value) : laidMetH Tryz.prog laidS ((laidWorldS os).forCall (fun _ _ => 0) ⟨#[], args, []⟩).memory :=
  laidMetH_of_parts (laidMet_of_run' 400 (by kernel_rfl) (by kernel_rfl)) (by kernel_rfl)

theorem pars : ∀ t ∈ Tryz.f3.params.toList, Tryz.prog.readableRec t = true ∧ t < Tryz.prog.types.size := of_decide_eq_true (by kernel_rfl)

set_option maxRecDepth 100000 in
theorem lifted (os : Os) (started : os.Started) (H : Type) (enc : TypeId × Value → H) :
    ReturnsInHanded {} Tryz.checked os 3 .any (fun w args => (Rows.topSumsSpec.pre enc Tryz.prog Tryz.f3 [] false w args ∧ laidMetH Tryz.prog laidS w) ∧ sizedMet enc Tryz.prog Tryz.f3 (OpenSpec.ofChange Rows.topSumsSpec) false w args)
      (Rows.topSumsSpec.post enc Tryz.prog Tryz.f3 false true false false) := by
  refine returnsInHanded_of_change_and (C := Tryz.checked) (X := fun w _ => laidMetH Tryz.prog laidS w) (fun _ _ _ hh h => h.of_heap hh) Tryz.own started (by kernel_rfl) Tryz.func3
    (ChangeSpec.witness_at (enc := enc) (C := Tryz.checked) (os := os) (X := fun w _ => laidMetH Tryz.prog laidS w) false (laidWorldS os) #[.slice none 0 0, .slice none 0 0] 8 rfl (by kernel_rfl) (by kernel_rfl) (by kernel_rfl) (by kernel_rfl) (by kernel_rfl) (laidWorldS_met os _)) ?_
  intro W base args ds gs before hval0 hW _ _ hL _
  have hval : ∀ (j : Nat) t v, Tryz.f3.params[j]? = some t → args[j]? = some v → Value.okWide Tryz.prog W .any base t v := hval0
  have hW' := hW
  obtain ⟨p, q, hA0, hV, rfl, _, _⟩ := hW
  have hA : DataW.TrodAll enc Tryz.prog W 0 (fun _ => true) true Tryz.f3.params.toList args.toList ds p := hA0
  rw [Tryz.params3] at hA hval
  obtain ⟨v0, v1, d0, d1, p0, p1, rfl, rfl, rfl, h0, h1⟩ := trodAll_two hA
  obtain ⟨rfl, rfl⟩ := trodVars_none hV
  obtain ⟨q0, m0, c0, rfl⟩ := okWide_slice Tryz.underlying22 (hval 0 22 v0 rfl rfl)
  obtain ⟨q1, m1, c1, rfl⟩ := okWide_slice Tryz.underlying23 (hval 1 23 v1 rfl rfl)
  obtain ⟨f0, h0⟩ := h0
  obtain ⟨f1, h1⟩ := h1
  obtain ⟨l0, hl0⟩ := open_adds h0
  obtain ⟨l1, hl1⟩ := open_cuts h1
  refine (sums_walk (hand_of hL) _ l0 hl0 _ l1 hl1).mono fun e W' ⟨he, hb⟩ => ?_
  subst he
  exact ⟨_, rfl, law_post rfl hW' rfl rfl rfl rfl Tryz.underlying4 pars (grown_frame hb)⟩

theorem row_holds : Rows.TopSumsSaid :=
  OpenClaim.holds_of_wide 3 Tryz.f3 rfl rfl rfl rfl rfl rfl rfl ⟨rfl, rfl, rfl, rfl, rfl⟩ rfl rfl rfl rfl rfl (by kernel_rfl) Tryz.func3 (by kernel_rfl)
    (of_decide_eq_true (by kernel_rfl)) (by unfold Func.isWrapper; first | (rw [if_pos (by decide +kernel)]; kernel_rfl) | (rw [if_neg (by decide +kernel)]; exact ⟨rfl, rfl⟩))
    (fun os started H enc _ => lifted os started H enc)
theorem proved : Rows.TopSumsCardSaid :=
  Claim7.holds_tied_plain_at .later [] [.data, .handle, .pinned] true (true, "9a36b82666d02a2a358526674b9835adce588809a12ac4d63a6376a0fd7028c3") true
    row_holds (fun _ h => by cases h) (by kernel_rfl) (fun _ h => by cases h) topSums_row_tie rfl ⟨rfl, rfl⟩ (by kernel_rfl) rfl
    (fun f fn hf hfn => by
      obtain rfl : f = 3 := Option.some.inj ((show Tryz.prog.funcNamed "aqueduct/aqueducttop.TopSums" = some 3 by kernel_rfl).symm.trans hf) |>.symm
      obtain rfl : fn = Tryz.f3 := (Option.some.inj (Tryz.func3.symm.trans hfn)).symm
      exact ⟨by kernel_rfl, fun j t ht => by
          rw [Tryz.params3] at ht
          rcases j with _ | j
          · have h3 : t = 22 := by simpa using ht.symm
            subst h3
            exact (show Tryz.prog.wantsStandIn 22 = false by kernel_rfl)
          · skip
            rcases j with _ | j
            · have h3 : t = 23 := by simpa using ht.symm
              subst h3
              exact (show Tryz.prog.wantsStandIn 23 = false by kernel_rfl)
            · simp at ht⟩)
    (by kernel_rfl)
#print axioms proved
end Go.Proofs.YtklcpckjmncdkaaGreatDoor.topSums
