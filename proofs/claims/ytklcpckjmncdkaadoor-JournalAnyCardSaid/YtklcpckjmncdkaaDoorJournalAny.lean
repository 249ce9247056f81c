/- PROVED HERE: the statement JournalAny (its tied card): called with any bytes in both files and any records more, the law returns true. The listed variable reads as its initialiser lays it. -/
import Derived.Test.YtklcpckjmncdkaaDoorAnyO
import Derived.Test.YtklcpckjmncdkaaDoorDoor
import Derived.Test.YtklcpckjmncdkaaDoorCards
import Derived.Test.YtklcpckjmncdkaaDoorTie
import Derived.OpenShut
import Derived.ShutString
import Derived.SevenTiedAt
namespace Go.Proofs.YtklcpckjmncdkaaDoor.journalAny
set_option maxRecDepth 100000
open Go.ChangeShapes Go.WideShapes Go.ChangeAt Go.RowKit
open Go.ChangeMaps (open_string shut_string)

theorem pars : ∀ t ∈ Tryd.f3.params.toList, Tryd.prog.readableRec t = true ∧ t < Tryd.prog.types.size := of_decide_eq_true (by kernel_rfl)

set_option maxRecDepth 100000 in
theorem lifted (os : Os) (started : os.Started) (H : Type) (enc : TypeId × Value → H) :
    ReturnsInHanded {} Tryd.checked os 3 .any (fun w args => (Rows.journalAnySpec.pre enc Tryd.prog Tryd.f3 [] false w args ∧ laidMetH Tryd.prog laidL w) ∧ sizedMet enc Tryd.prog Tryd.f3 (OpenSpec.ofChange Rows.journalAnySpec) false w args)
      (Rows.journalAnySpec.post enc Tryd.prog Tryd.f3 false true false false) := by
  refine returnsInHanded_of_change_and (C := Tryd.checked) (X := fun w _ => laidMetH Tryd.prog laidL w) (fun _ _ _ hh h => h.of_heap hh) Tryd.own started (by kernel_rfl) Tryd.func3
    (ChangeSpec.witness_at (enc := enc) (C := Tryd.checked) (os := os) (X := fun w _ => laidMetH Tryd.prog laidL w) false (laidWorld os) #[.agg #[.string ByteArray.empty, .string ByteArray.empty], .slice none 0 0] 8 rfl (by kernel_rfl) (by kernel_rfl) (by kernel_rfl) (by kernel_rfl) (by kernel_rfl) (laidWorld_met os _)) ?_
  intro W base args ds gs before hval0 hW _ _ hL _
  have hval : ∀ (j : Nat) t v, Tryd.f3.params[j]? = some t → args[j]? = some v → Value.okWide Tryd.prog W .any base t v := hval0
  have hW' := hW
  obtain ⟨p, q, hA0, hV, rfl, _, _⟩ := hW
  have hA : DataW.TrodAll enc Tryd.prog W 0 (fun _ => true) true Tryd.f3.params.toList args.toList ds p := hA0
  rw [Tryd.params3] at hA hval
  obtain ⟨v0, v1, d0, d1, p0, p1, rfl, rfl, rfl, h0, h1⟩ := trodAll_two hA
  obtain ⟨rfl, rfl⟩ := trodVars_none hV
  obtain ⟨a0, a1, rfl, wa0, wa1⟩ := open_pair (hval 0 22 v0 rfl rfl) h0
  obtain ⟨q1, m1, c1, rfl⟩ := okWide_slice Tryd.underlying23 (hval 1 23 v1 rfl rfl)
  obtain ⟨f1, h1⟩ := h1
  obtain ⟨l1, hl1, hm1⟩ := open_strs h1
  refine (any_walk (hand_of_laid hL) a0 a1 wa0 wa1 _ l1 hl1 hm1).mono fun e W' ⟨he, hb⟩ => ?_
  subst he
  exact ⟨_, rfl, law_post rfl hW' rfl rfl rfl rfl Tryd.underlying4 pars (grown_frame hb)⟩

theorem row_holds : Rows.JournalAnySaid :=
  OpenClaim.holds_of_wide 3 Tryd.f3 rfl rfl rfl rfl rfl rfl rfl ⟨rfl, rfl, rfl, rfl, rfl⟩ rfl rfl rfl rfl rfl (by kernel_rfl) Tryd.func3 (by kernel_rfl)
    (of_decide_eq_true (by kernel_rfl)) (by unfold Func.isWrapper; first | (rw [if_pos (by decide +kernel)]; kernel_rfl) | (rw [if_neg (by decide +kernel)]; exact ⟨rfl, rfl⟩))
    (fun os started H enc _ => lifted os started H enc)
theorem proved : Rows.JournalAnyCardSaid :=
  Claim7.holds_tied_plain_at .later [] [.handle] true (true, "9a5cf28f33177902dae8521531ee9c7354ef7df6f8120b70339122149f73a159") true
    row_holds (fun _ h => by cases h) (by kernel_rfl) (fun _ h => by cases h) journalAny_row_tie rfl ⟨rfl, rfl⟩ (by kernel_rfl) rfl
    (fun f fn hf hfn => by
      obtain rfl : f = 3 := Option.some.inj ((show Tryd.prog.funcNamed "aqueduct/aqueductlaw12.JournalAny" = some 3 by kernel_rfl).symm.trans hf) |>.symm
      obtain rfl : fn = Tryd.f3 := (Option.some.inj (Tryd.func3.symm.trans hfn)).symm
      exact ⟨by kernel_rfl, fun j t ht => by
          rw [Tryd.params3] at ht
          rcases j with _ | j
          · have h3 : t = 22 := by simpa using ht.symm
            subst h3
            exact (show Tryd.prog.wantsStandIn 22 = false by kernel_rfl)
          · skip
            rcases j with _ | j
            · have h3 : t = 23 := by simpa using ht.symm
              subst h3
              exact (show Tryd.prog.wantsStandIn 23 = false by kernel_rfl)
            · simp at ht⟩)
    (by kernel_rfl)
#print axioms proved
end Go.Proofs.YtklcpckjmncdkaaDoor.journalAny
