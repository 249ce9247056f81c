/- PROVED HERE: the statement TopWire (its tied card): called with any texts and any cuts, the law returns true. The two listed variables read as their initialisers lay them. -/
import Derived.Test.YtcepfhnlbnlnhaaDoorTopWire
import Derived.Test.YtcepfhnlbnlnhaaDoorPost
import Derived.Test.YtcepfhnlbnlnhaaDoorCards
import Derived.Test.YtcepfhnlbnlnhaaDoorTie
import Derived.ChangeSame
import Derived.ChangeVars
import Derived.JoinedOf
import Derived.RowKitTokens
import Derived.LaidLaws
import Derived.LaidHandle
import Derived.Stop.Joined
import Derived.OpenShut
import Derived.ShutString
import Derived.SevenTiedAt
import Derived.Lib.LaidU8T
namespace Go.Proofs.YtcepfhnlbnlnhaaDoor.topWire
set_option maxRecDepth 100000
open Go.ChangeShapes Go.WideShapes Go.ChangeAt Go.RowKit
open Go.ChangeMaps (open_string shut_string)

theorem Tryd.own : ownKnob Tryd.prog.godebug = none := by kernel_rfl
theorem grown_frame {w w' : World} (h : w.grownBy w' none) : Below w.heap.size w w' := ⟨h.os, h.tape, h.output, h.size, fun i hi => h.block i hi (by simp)⟩
def laidS : List (String × DataW Unit) := [("unicode/utf8.acceptRanges", Rows.laid_unicode_utf8_acceptRanges), ("unicode/utf8.first", Rows.laid_unicode_utf8_first)]
theorem parts_of_laid {W : World} (h : laidMetH Tryd.prog laidS W) : laidMet Tryd.prog laidS W := h
theorem first_data : Rows.laid_unicode_utf8_first = Lib.firstData := by kernel_rfl
theorem accept_data : (Rows.laid_unicode_utf8_acceptRanges : DataW Unit) = Lib.acceptData := by kernel_rfl
/-- WHAT THE CONDITION GIVES A WALK: the two tables. -/
theorem tabs_of {W : World} (h : laidMetH Tryd.prog laidS W) : U8 W := by
  have hl := parts_of_laid h
  have h3 := Lib.laidMet.reads hl (.tail _ (.head _))
  have h4 := Lib.laidMet.reads hl (.head _)
  rw [first_data] at h3
  rw [accept_data] at h4
  exact utf8Tabs_of_readsT (ρ := lays197_ren) ⟨lays197.t5, lays197.t119, lays197.t138, lays197.t139⟩ ⟨by kernel_rfl, by kernel_rfl, by kernel_rfl, by kernel_rfl, by kernel_rfl, by kernel_rfl, by kernel_rfl⟩ h3 h4
/-- A world that meets the condition: the settled one, the variables' cells laid. -/
noncomputable def laidWorldS (os : Os) : World :=
  let w0 := World.holding Tryd.prog os ⟨#[], #[], []⟩
  let ints := fun (l : List Nat) => (l.map fun (z : Nat) => Value.int .u8 (z : Int)).toArray
  let put := fun (cs : Array Value) (o : Obj) => match o with
    | .cells _ t frozen => Obj.cells cs t frozen
    | o => o
  { w0 with heap := ((w0.heap.modify 0 (put (ints Pinned.utf8FirstZ))).modify 1 (put (ints [128, 191, 160, 191, 128, 159, 144, 191, 128, 143, 0, 0, 0, 0, 0, 0, 0, 0, 0, 0, 0, 0, 0, 0, 0, 0, 0, 0, 0, 0, 0, 0]))) }
theorem laidWorldS_met (os : Os) (args : Array Value) : laidMetH Tryd.prog laidS ((laidWorldS os).forCall (fun _ _ => 0) ⟨#[], args, []⟩).memory :=
  laidMetH_of_parts (laidMet_of_run' 400 (by kernel_rfl) (by kernel_rfl)) (by kernel_rfl)
theorem pars : ∀ t ∈ Tryd.f3.params.toList, Tryd.prog.readableRec t = true ∧ t < Tryd.prog.types.size := of_decide_eq_true (by kernel_rfl)

set_option maxRecDepth 100000 in
theorem lifted (os : Os) (started : os.Started) (H : Type) (enc : TypeId × Value → H) :
    ReturnsInHanded {} Tryd.checked os 3 .any (fun w args => (Rows.topWireSpec.pre enc Tryd.prog Tryd.f3 [] false w args ∧ laidMetH Tryd.prog laidS w) ∧ sizedMet enc Tryd.prog Tryd.f3 (OpenSpec.ofChange Rows.topWireSpec) false w args)
      (Rows.topWireSpec.post enc Tryd.prog Tryd.f3 false true false false) := by
  refine returnsInHanded_of_change_and (C := Tryd.checked) (X := fun w _ => laidMetH Tryd.prog laidS w) (fun _ _ _ hh h => h.of_heap hh) Tryd.own started (by kernel_rfl) Tryd.func3
    (ChangeSpec.witness_at (enc := enc) (C := Tryd.checked) (os := os) (X := fun w _ => laidMetH Tryd.prog laidS w) false (laidWorldS os) #[.slice none 0 0, .slice none 0 0] 8 rfl (by kernel_rfl) (by kernel_rfl) (by kernel_rfl) (by kernel_rfl) (by kernel_rfl) (laidWorldS_met os _)) ?_
  intro W base args ds gs before hval0 hW _ _ hL _
  have hval : ∀ (j : Nat) t v, Tryd.f3.params[j]? = some t → args[j]? = some v → Value.okWide Tryd.prog W .any base t v := hval0
  have hW' := hW
  obtain ⟨p, q, hA0, hV, rfl, _, _⟩ := hW
  have hA : DataW.TrodAll enc Tryd.prog W 0 (fun _ => true) true Tryd.f3.params.toList args.toList ds p := hA0
  rw [Tryd.params3] at hA hval
  obtain ⟨v0, v1, d0, d1, p0, p1, rfl, rfl, rfl, h0, h1⟩ := trodAll_two hA
  obtain ⟨rfl, rfl⟩ := trodVars_none hV
  obtain ⟨q0, m0, c0, rfl⟩ := okWide_slice Tryd.underlying22 (hval 0 22 v0 rfl rfl)
  obtain ⟨q1, m1, c1, rfl⟩ := okWide_slice Tryd.underlying23 (hval 1 23 v1 rfl rfl)
  obtain ⟨f0, h0⟩ := h0
  obtain ⟨f1, h1⟩ := h1
  obtain ⟨l0, hl0⟩ := open_texts h0
  obtain ⟨l1, hl1⟩ := open_nums h1
  refine (wire_walk (tabs_of hL) _ _ l0 hl0 l1 hl1).mono fun e W' ⟨he, hb⟩ => ?_
  subst he
  exact ⟨_, rfl, law_post rfl hW' rfl rfl rfl rfl Tryd.underlying4 pars (grown_frame hb)⟩

theorem row_holds : Rows.TopWireSaid :=
  OpenClaim.holds_of_wide 3 Tryd.f3 rfl rfl rfl rfl rfl rfl rfl ⟨rfl, rfl, rfl, rfl, rfl⟩ rfl rfl rfl rfl rfl (by kernel_rfl) Tryd.func3 (by kernel_rfl)
    (of_decide_eq_true (by kernel_rfl)) (by unfold Func.isWrapper; first | (rw [if_pos (by decide +kernel)]; kernel_rfl) | (rw [if_neg (by decide +kernel)]; exact ⟨rfl, rfl⟩))
    (fun os started H enc _ => lifted os started H enc)
theorem proved : Rows.TopWireCardSaid :=
  Claim7.holds_tied_plain_at .later [] [.data, .pinned] true (true, "e46b15bda89a6d24485b0cffaef4bb4a85aed18323c43420ad7c2572ab389f74") true
    row_holds (fun _ h => by cases h) (by kernel_rfl) (fun _ h => by cases h) topWire_row_tie rfl ⟨rfl, rfl⟩ (by kernel_rfl) rfl
    (fun f fn hf hfn => by
      obtain rfl : f = 3 := Option.some.inj ((show Tryd.prog.funcNamed "aqueduct/aqueducttop.TopWire" = some 3 by kernel_rfl).symm.trans hf) |>.symm
      obtain rfl : fn = Tryd.f3 := (Option.some.inj (Tryd.func3.symm.trans hfn)).symm
      exact ⟨by kernel_rfl, fun j t ht => by
          rw [Tryd.params3] at ht
          rcases j with _ | j
          · have h3 : t = 22 := by simpa using ht.symm
            subst h3
            exact (show Tryd.prog.wantsStandIn 22 = false by kernel_rfl)
          · skip
            rcases j with _ | j
            · have h3 : t = 23 := by simpa using ht.symm
              subst h3
              exact (show Tryd.prog.wantsStandIn 23 = false by kernel_rfl)
            · simp at ht⟩)
    (by kernel_rfl)
#print axioms proved
end Go.Proofs.YtcepfhnlbnlnhaaDoor.topWire
