/- PROVED HERE: the statement JournalLasts (its tied card): called with any bodies, any flags and any losses of power, the law returns true. The listed variable reads as its initialiser lays it. -/
import Derived.Test.YtklcpckjmncdkaaDoorLastO
import Derived.Test.YtklcpckjmncdkaaDoorDoor
import Derived.Test.YtklcpckjmncdkaaDoorCards
import Derived.Test.YtklcpckjmncdkaaDoorTie
import Derived.OpenShut
import Derived.ShutString
import Derived.SevenTiedAt
namespace Go.Proofs.YtklcpckjmncdkaaDoor.journalLasts
set_option maxRecDepth 100000
open Go.ChangeShapes Go.WideShapes Go.ChangeAt Go.RowKit
open Go.ChangeMaps (open_string shut_string)

theorem pars : ∀ t ∈ Tryd.f5.params.toList, Tryd.prog.readableRec t = true ∧ t < Tryd.prog.types.size := of_decide_eq_true (by kernel_rfl)

set_option maxRecDepth 100000 in
theorem lifted (os : Os) (started : os.Started) (H : Type) (enc : TypeId × Value → H) :
    ReturnsInHanded {} Tryd.checked os 5 .any (fun w args => (Rows.journalLastsSpec.pre enc Tryd.prog Tryd.f5 [] false w args ∧ laidMetH Tryd.prog laidL w) ∧ sizedMet enc Tryd.prog Tryd.f5 (OpenSpec.ofChange Rows.journalLastsSpec) false w args)
      (Rows.journalLastsSpec.post enc Tryd.prog Tryd.f5 false true false false) := by
  refine returnsInHanded_of_change_and (C := Tryd.checked) (X := fun w _ => laidMetH Tryd.prog laidL w) (fun _ _ _ hh h => h.of_heap hh) Tryd.own started (by kernel_rfl) Tryd.func5
    (ChangeSpec.witness_at (enc := enc) (C := Tryd.checked) (os := os) (X := fun w _ => laidMetH Tryd.prog laidL w) false (laidWorld os) #[.slice none 0 0, .slice none 0 0, .slice none 0 0] 8 rfl (by kernel_rfl) (by kernel_rfl) (by kernel_rfl) (by kernel_rfl) (by kernel_rfl) (laidWorld_met os _)) ?_
  intro W base args ds gs before hval0 hW _ hsz hL _
  have hval : ∀ (j : Nat) t v, Tryd.f5.params[j]? = some t → args[j]? = some v → Value.okWide Tryd.prog W .any base t v := hval0
  have hW' := hW
  obtain ⟨p, q, hA0, hV, rfl, _, _⟩ := hW
  have hA : DataW.TrodAll enc Tryd.prog W 0 (fun _ => true) true Tryd.f5.params.toList args.toList ds p := hA0
  rw [Tryd.params5] at hA hval
  obtain ⟨v0, v1, v2, d0, d1, d2, p0, p1, p2, rfl, rfl, rfl, h0, h1, h2⟩ := trodAll_three hA
  obtain ⟨rfl, rfl⟩ := trodVars_none hV
  obtain ⟨q0, m0, c0, rfl⟩ := okWide_slice Tryd.underlying23 (hval 0 23 v0 rfl rfl)
  obtain ⟨q1, m1, c1, rfl⟩ := okWide_slice Tryd.underlying48 (hval 1 48 v1 rfl rfl)
  obtain ⟨q2, m2, c2, rfl⟩ := okWide_slice Tryd.underlying49 (hval 2 49 v2 rfl rfl)
  obtain ⟨f0, h0⟩ := h0
  obtain ⟨l0, hl0, hm0⟩ := open_strs h0
  obtain ⟨f1, h1⟩ := h1
  obtain ⟨l1, hl1⟩ := open_bits h1
  obtain ⟨f2, h2⟩ := h2
  obtain ⟨l2, hl2⟩ := open_losses h2 (fun n hn => by simpa using List.all_eq_true.1 hsz n (DataW.weights_mem_each (j := 2) (t := 49) rfl rfl n hn))
  refine (lasts_walk (hand_of_laid hL) _ l0 hl0 hm0 _ l1 hl1 _ l2 hl2).mono fun e W' ⟨he, hb⟩ => ?_
  subst he
  exact ⟨_, rfl, law_post rfl hW' rfl rfl rfl rfl Tryd.underlying4 pars (grown_frame hb)⟩

theorem row_holds : Rows.JournalLastsSaid :=
  OpenClaim.holds_of_wide 5 Tryd.f5 rfl rfl rfl rfl rfl rfl rfl ⟨rfl, rfl, rfl, rfl, rfl⟩ rfl rfl rfl rfl rfl (by kernel_rfl) Tryd.func5 (by kernel_rfl)
    (of_decide_eq_true (by kernel_rfl)) (by unfold Func.isWrapper; first | (rw [if_pos (by decide +kernel)]; kernel_rfl) | (rw [if_neg (by decide +kernel)]; exact ⟨rfl, rfl⟩))
    (fun os started H enc _ => lifted os started H enc)
theorem proved : Rows.JournalLastsCardSaid :=
  Claim7.holds_tied_plain_at .later [] [.handle] true (true, "9a5cf28f33177902dae8521531ee9c7354ef7df6f8120b70339122149f73a159") true
    row_holds (fun _ h => by cases h) (by kernel_rfl) (fun _ h => by cases h) journalLasts_row_tie rfl ⟨rfl, rfl⟩ (by kernel_rfl) rfl
    (fun f fn hf hfn => by
      obtain rfl : f = 5 := Option.some.inj ((show Tryd.prog.funcNamed "aqueduct/aqueductlaw12.JournalLasts" = some 5 by kernel_rfl).symm.trans hf) |>.symm
      obtain rfl : fn = Tryd.f5 := (Option.some.inj (Tryd.func5.symm.trans hfn)).symm
      exact ⟨by kernel_rfl, fun j t ht => by
          rw [Tryd.params5] at ht
          rcases j with _ | j
          · have h3 : t = 23 := by simpa using ht.symm
            subst h3
            exact (show Tryd.prog.wantsStandIn 23 = false by kernel_rfl)
          · skip
            rcases j with _ | j
            · have h3 : t = 48 := by simpa using ht.symm
              subst h3
              exact (show Tryd.prog.wantsStandIn 48 = false by kernel_rfl)
            · skip
              rcases j with _ | j
              · have h3 : t = 49 := by simpa using ht.symm
                subst h3
                exact (show Tryd.prog.wantsStandIn 49 = false by kernel_rfl)
              · simp at ht⟩)
    (by kernel_rfl)
#print axioms proved
end Go.Proofs.YtklcpckjmncdkaaDoor.journalLasts
