/- PROVED HERE: the statement JournalCompacts (its tied card): called with any bodies, any state and any loss of power, the law returns true. The listed variable reads as its initialiser lays it. -/
import Derived.Test.YtklcpckjmncdkaaDoorOpens
import Derived.Test.YtklcpckjmncdkaaDoorDoor
import Derived.Test.YtklcpckjmncdkaaDoorCards
import Derived.Test.YtklcpckjmncdkaaDoorTie
import Derived.OpenShut
import Derived.ShutString
import Derived.SevenTiedAt
namespace Go.Proofs.YtklcpckjmncdkaaDoor.journalCompacts
set_option maxRecDepth 100000
open Go.ChangeShapes Go.WideShapes Go.ChangeAt Go.RowKit
open Go.ChangeMaps (open_string shut_string)

theorem pars : ∀ t ∈ Tryd.f7.params.toList, Tryd.prog.readableRec t = true ∧ t < Tryd.prog.types.size := of_decide_eq_true (by kernel_rfl)

set_option maxRecDepth 100000 in
theorem lifted (os : Os) (started : os.Started) (H : Type) (enc : TypeId × Value → H) :
    ReturnsInHanded {} Tryd.checked os 7 .any (fun w args => (Rows.journalCompactsSpec.pre enc Tryd.prog Tryd.f7 [] false w args ∧ laidMetH Tryd.prog laidL w) ∧ sizedMet enc Tryd.prog Tryd.f7 (OpenSpec.ofChange Rows.journalCompactsSpec) false w args)
      (Rows.journalCompactsSpec.post enc Tryd.prog Tryd.f7 false true false false) := by
  refine returnsInHanded_of_change_and (C := Tryd.checked) (X := fun w _ => laidMetH Tryd.prog laidL w) (fun _ _ _ hh h => h.of_heap hh) Tryd.own started (by kernel_rfl) Tryd.func7
    (ChangeSpec.witness_at (enc := enc) (C := Tryd.checked) (os := os) (X := fun w _ => laidMetH Tryd.prog laidL w) false (laidWorld os) #[.slice none 0 0, .string ByteArray.empty, .agg #[.int .i64 0, .slice none 0 0]] 8 rfl (by kernel_rfl) (by kernel_rfl) (by kernel_rfl) (by kernel_rfl) (by kernel_rfl) (laidWorld_met os _)) ?_
  intro W base args ds gs before hval0 hW _ hsz hL _
  have hval : ∀ (j : Nat) t v, Tryd.f7.params[j]? = some t → args[j]? = some v → Value.okWide Tryd.prog W .any base t v := hval0
  have hW' := hW
  obtain ⟨p, q, hA0, hV, rfl, _, _⟩ := hW
  have hA : DataW.TrodAll enc Tryd.prog W 0 (fun _ => true) true Tryd.f7.params.toList args.toList ds p := hA0
  rw [Tryd.params7] at hA hval
  obtain ⟨v0, v1, v2, d0, d1, d2, p0, p1, p2, rfl, rfl, rfl, h0, h1, h2⟩ := trodAll_three hA
  obtain ⟨rfl, rfl⟩ := trodVars_none hV
  obtain ⟨q0, m0, c0, rfl⟩ := okWide_slice Tryd.underlying23 (hval 0 23 v0 rfl rfl)
  obtain ⟨f0, h0⟩ := h0
  obtain ⟨l0, hl0, hm0⟩ := open_strs h0
  obtain ⟨a1, rfl, rfl, rfl, w1⟩ := open_string Tryd.underlying9 (hval 1 9 v1 rfl rfl) h1
  obtain ⟨u0, u1, y0, y1, n, rfl, rfl, rfl, t0, t1⟩ := Go.Joins.open_agg2 Tryd.underlying53 (by kernel_rfl) (by kernel_rfl) (hval 2 53 v2 rfl rfl) h2
  obtain ⟨n0, e0, rfl, wf0⟩ := DataW.trod_int Tryd.underlying3 t0
  simp only [List.cons.injEq, and_true] at e0
  subst e0
  obtain ⟨ks, hks, h64, hlen⟩ := open_nums t1
  have hkl : ks.length ≤ 17592186044416 := by
    rcases hlen with rfl | ⟨es, sp, hy, hle⟩
    · exact Nat.zero_le _
    · have hs1 := sized_agg hsz (j := 2) (t := 53) rfl rfl Tryd.underlying53
      have hs2 : (es.length + sp.length) * Tryd.prog.bytesOf 3 ≤ reachBytes := Go.sized_slice hs1 (j := 1) (t := 51) (elems := es) (spare := sp) rfl (by simp [hy]) Tryd.underlying51
      rw [show Tryd.prog.bytesOf 3 = 8 by kernel_rfl] at hs2
      have := reachBytes_lt
      omega
  refine (comp_walk (hand_of_laid hL) _ l0 hl0 hm0 a1 w1 n0 (bounds_i64 wf0) u1 ks hks h64 hkl).mono fun e W' ⟨he, hb⟩ => ?_
  subst he
  exact ⟨_, rfl, law_post rfl hW' rfl rfl rfl rfl Tryd.underlying4 pars (grown_frame hb)⟩

theorem row_holds : Rows.JournalCompactsSaid :=
  OpenClaim.holds_of_wide 7 Tryd.f7 rfl rfl rfl rfl rfl rfl rfl ⟨rfl, rfl, rfl, rfl, rfl⟩ rfl rfl rfl rfl rfl (by kernel_rfl) Tryd.func7 (by kernel_rfl)
    (of_decide_eq_true (by kernel_rfl)) (by unfold Func.isWrapper; first | (rw [if_pos (by decide +kernel)]; kernel_rfl) | (rw [if_neg (by decide +kernel)]; exact ⟨rfl, rfl⟩))
    (fun os started H enc _ => lifted os started H enc)
theorem proved : Rows.JournalCompactsCardSaid :=
  Claim7.holds_tied_plain_at .later [] [.handle] true (true, "9a5cf28f33177902dae8521531ee9c7354ef7df6f8120b70339122149f73a159") true
    row_holds (fun _ h => by cases h) (by kernel_rfl) (fun _ h => by cases h) journalCompacts_row_tie rfl ⟨rfl, rfl⟩ (by kernel_rfl) rfl
    (fun f fn hf hfn => by
      obtain rfl : f = 7 := Option.some.inj ((show Tryd.prog.funcNamed "aqueduct/aqueductlaw12.JournalCompacts" = some 7 by kernel_rfl).symm.trans hf) |>.symm
      obtain rfl : fn = Tryd.f7 := (Option.some.inj (Tryd.func7.symm.trans hfn)).symm
      exact ⟨by kernel_rfl, fun j t ht => by
          rw [Tryd.params7] at ht
          rcases j with _ | j
          · have h3 : t = 23 := by simpa using ht.symm
            subst h3
            exact (show Tryd.prog.wantsStandIn 23 = false by kernel_rfl)
          · skip
            rcases j with _ | j
            · have h3 : t = 9 := by simpa using ht.symm
              subst h3
              exact (show Tryd.prog.wantsStandIn 9 = false by kernel_rfl)
            · skip
              rcases j with _ | j
              · have h3 : t = 53 := by simpa using ht.symm
                subst h3
                exact (show Tryd.prog.wantsStandIn 53 = false by kernel_rfl)
              · simp at ht⟩)
    (by kernel_rfl)
#print axioms proved
end Go.Proofs.YtklcpckjmncdkaaDoor.journalCompacts
