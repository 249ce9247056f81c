/- PROVED HERE: the statement JournalPlays (its tied card): called with any bytes in both files, any limit and any script, the law returns true. The listed variable reads as its initialiser lays it. -/
import Derived.Test.YtklcpckjmncdkaaGreatDoorJPlay
import Derived.Test.YtklcpckjmncdkaaGreatDoorJPair
import Derived.Test.YtklcpckjmncdkaaGreatDoorDoor
import Derived.Test.YtklcpckjmncdkaaGreatDoorCards
import Derived.Test.YtklcpckjmncdkaaGreatDoorTie
import Derived.OpenShut
import Derived.ShutString
import Derived.SevenTiedAt
namespace Go.Proofs.YtklcpckjmncdkaaGreatDoor.journalPlays
set_option maxRecDepth 100000
open Go.ChangeShapes Go.WideShapes Go.ChangeAt Go.RowKit
open Go.ChangeMaps (open_string shut_string)

theorem pars : ∀ t ∈ Tryz.f4.params.toList, Tryz.prog.readableRec t = true ∧ t < Tryz.prog.types.size := of_decide_eq_true (by kernel_rfl)

set_option maxRecDepth 100000 in
theorem lifted (os : Os) (started : os.Started) (H : Type) (enc : TypeId × Value → H) :
    ReturnsInHanded {} Tryz.checked os 4 .any (fun w args => (Rows.journalPlaysSpec.pre enc Tryz.prog Tryz.f4 [] false w args ∧ laidMetH Tryz.prog laidL w) ∧ sizedMet enc Tryz.prog Tryz.f4 (OpenSpec.ofChange Rows.journalPlaysSpec) false w args)
      (Rows.journalPlaysSpec.post enc Tryz.prog Tryz.f4 false true false false) := by
  refine returnsInHanded_of_change_and (C := Tryz.checked) (X := fun w _ => laidMetH Tryz.prog laidL w) (fun _ _ _ hh h => h.of_heap hh) Tryz.own started (by kernel_rfl) Tryz.func4
    (ChangeSpec.witness_at (enc := enc) (C := Tryz.checked) (os := os) (X := fun w _ => laidMetH Tryz.prog laidL w) false (laidWorld os) #[.agg #[.string ByteArray.empty, .string ByteArray.empty], .int .i64 0, .slice none 0 0] 8 rfl (by kernel_rfl) (by kernel_rfl) (by kernel_rfl) (by kernel_rfl) (by kernel_rfl) (laidWorld_met os _)) ?_
  intro W base args ds gs before hval0 hW _ _ hL _
  have hval : ∀ (j : Nat) t v, Tryz.f4.params[j]? = some t → args[j]? = some v → Value.okWide Tryz.prog W .any base t v := hval0
  have hW' := hW
  obtain ⟨p, q, hA0, hV, rfl, _, _⟩ := hW
  have hA : DataW.TrodAll enc Tryz.prog W 0 (fun _ => true) true Tryz.f4.params.toList args.toList ds p := hA0
  rw [Tryz.params4] at hA hval
  obtain ⟨v0, v1, v2, d0, d1, d2, p0, p1, p2, rfl, rfl, rfl, h0, h1, h2⟩ := trodAll_three hA
  obtain ⟨rfl, rfl⟩ := trodVars_none hV
  obtain ⟨a0, a1, rfl, wa0, wa1⟩ := open_pair (hval 0 48 v0 rfl rfl) h0
  obtain ⟨n1, rfl, rfl, rfl, _⟩ := open_int Tryz.underlying3 (hval 1 3 v1 rfl rfl) h1
  obtain ⟨q1, m1, c1, rfl⟩ := okWide_slice Tryz.underlying49 (hval 2 49 v2 rfl rfl)
  obtain ⟨f1, h2⟩ := h2
  obtain ⟨A, c, L, hv, hS⟩ := open_steps h2
  injection hv with hv1 hv2 hv3
  subst hv1 hv2 hv3
  refine (jplay_walk (hand_of_laid hL) a0 a1 wa0 wa1 n1 hS).mono fun e W' ⟨he, hb⟩ => ?_
  subst he
  exact ⟨_, rfl, law_post rfl hW' rfl rfl rfl rfl Tryz.underlying4 pars (grown_frame hb)⟩

theorem row_holds : Rows.JournalPlaysSaid :=
  OpenClaim.holds_of_wide 4 Tryz.f4 rfl rfl rfl rfl rfl rfl rfl ⟨rfl, rfl, rfl, rfl, rfl⟩ rfl rfl rfl rfl rfl (by kernel_rfl) Tryz.func4 (by kernel_rfl)
    (of_decide_eq_true (by kernel_rfl)) (by unfold Func.isWrapper; first | (rw [if_pos (by decide +kernel)]; kernel_rfl) | (rw [if_neg (by decide +kernel)]; exact ⟨rfl, rfl⟩))
    (fun os started H enc _ => lifted os started H enc)
theorem proved : Rows.JournalPlaysCardSaid :=
  Claim7.holds_tied_plain_at .later [] [.handle] true (true, "9a36b82666d02a2a358526674b9835adce588809a12ac4d63a6376a0fd7028c3") true
    row_holds (fun _ h => by cases h) (by kernel_rfl) (fun _ h => by cases h) journalPlays_row_tie rfl ⟨rfl, rfl⟩ (by kernel_rfl) rfl
    (fun f fn hf hfn => by
      obtain rfl : f = 4 := Option.some.inj ((show Tryz.prog.funcNamed "aqueduct/aqueductlaw12.JournalPlays" = some 4 by kernel_rfl).symm.trans hf) |>.symm
      obtain rfl : fn = Tryz.f4 := (Option.some.inj (Tryz.func4.symm.trans hfn)).symm
      exact ⟨by kernel_rfl, fun j t ht => by
          rw [Tryz.params4] at ht
          rcases j with _ | j
          · have h3 : t = 48 := by simpa using ht.symm
            subst h3
            exact (show Tryz.prog.wantsStandIn 48 = false by kernel_rfl)
          · skip
            rcases j with _ | j
            · have h3 : t = 3 := by simpa using ht.symm
              subst h3
              exact (show Tryz.prog.wantsStandIn 3 = false by kernel_rfl)
            · skip
              rcases j with _ | j
              · have h3 : t = 49 := by simpa using ht.symm
                subst h3
                exact (show Tryz.prog.wantsStandIn 49 = false by kernel_rfl)
              · simp at ht⟩)
    (by kernel_rfl)
#print axioms proved
end Go.Proofs.YtklcpckjmncdkaaGreatDoor.journalPlays
