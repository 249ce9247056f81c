/- ARGUMENTS OPENED: slices of numbers. -/
import Derived.Test.YtcepfhnlbnlnhaaGreatDoorEnd
import Derived.Deep.Slices
import Derived.SizedLaws
import Derived.Lib.SmallJoins
import Derived.ChangeSlices
import Derived.OpenShut
namespace Go.Proofs.YtcepfhnlbnlnhaaGreatDoor
set_option maxRecDepth 100000
open Go.Joins Go.ChangeShapes Go.WideShapes Go.RowKit Go.Deep

theorem add_off (b off j : Nat) : (⟨b, off, none⟩ : Addr).add j = ⟨b, off + j, none⟩ := by unfold Addr.add; split <;> simp_all
theorem sum_addr {w : World} {a : Addr} {u : Value} (h : w.cell? (a.add 0) = some u) : ∃ b off, a = ⟨b, off, none⟩ ∧ ∀ k, a.add k = ⟨b, off + k, none⟩ := by
  have hs := World.cell?_spot h
  rw [show a.add 0 = a from rfl] at hs
  obtain ⟨b, off, sp⟩ := a
  simp only at hs
  subst hs
  exact ⟨b, off, rfl, fun k => add_off b off k⟩
/-- A slice of numbers that came in: its cells. -/
def Nums (w : World) (v : Value) (l : List Int) : Prop :=
  ∃ A c, v = .slice A l.length c ∧ l.length ≤ c ∧ c ≤ maxLen ∧ (A = none → c = 0) ∧ ∀ j (h : j < l.length), I64 l[j] ∧ ∃ b off, A = some ⟨b, off, none⟩ ∧ w.cell? ⟨b, off + j, none⟩ = some (.int .i64 l[j])
section
variable {H : Type} {enc : TypeId × Value → H} {w : World} {base : Nat} {spare : Nat → Bool} {held : Bool}
theorem open_nums {fuel : Nat} {v : Value} {x : DataW H × List MemPlace} (h : DataW.trod enc Tryz.prog w base spare held fuel 22 [v] = some x) : ∃ l, Nums w v l := by
  rcases open_ints Tryz.underlying22 Tryz.underlying3 (by kernel_rfl) h with ⟨hc, _⟩ | ⟨a, len, cap, zs, hc, _, hl, hm, hz, _, hcell, hwz⟩
  · simp at hc
    exact ⟨[], none, 0, hc, Nat.le_refl _, Nat.zero_le _, fun _ => rfl, fun j hj => by simp at hj⟩
  · simp at hc
    have hzl : len ≤ zs.length := by rw [hz]; split <;> omega
    have htl : (zs.take len).length = len := by rw [List.length_take]; omega
    refine ⟨zs.take len, some a, cap, by rw [hc, htl], by omega, hm, (by simp), fun j hj => ?_⟩
    rw [htl] at hj
    have h0 := hcell 0 (by omega)
    obtain ⟨b, off, rfl, h2⟩ := sum_addr h0
    have hj0 := hcell j (by omega)
    rw [h2] at hj0
    have e : (zs.take len)[j] = zs.getD j 0 := by
      rw [List.getElem_take, List.getD_eq_getElem?_getD, List.getElem?_eq_getElem (by omega)]
      rfl
    rw [e]
    refine ⟨bounds_i64 (hwz _ ?_), b, off, rfl, hj0⟩
    rw [← e]
    exact List.mem_of_mem_take (List.getElem_mem _)
end
section
variable {w W : World}
/-- The first connection. -/
theorem first_breaks {q : Nat → Nat} {C : Cfg} {fb ib ipb imb gb : Nat} {F : List Nat} (hG : Good w q C) (hb : Blk W C.pr 32 #[.pointer (some ⟨fb, 0, none⟩), .pointer (some ⟨ib, 0, none⟩), .slice none 0 0, .slice none 0 0, .map (some gb)])
    (hO : OutA W fb F ⟨false, C.most, 0, [], []⟩) (hI : InAt W ib ipb imb 64 0 []) (hg : GotAt W gb [] fun _ => 0) (hap : [C.pr, ib, ipb, imb, gb].Nodup) (hF : ∀ k ∈ F, k ∉ [C.pr, ib, ipb, imb, gb]) (hE : Env w C ([C.pr, ib, ipb, imb, gb] ++ F) 0 W) :
    Calls Tryz.prog 9 #[.pointer (some ⟨C.pv, 0, none⟩), .pointer (some ⟨C.mv, 0, none⟩)] W fun e W' => e = .returned (.tuple #[]) ∧ Held w q C 0 (St.start.breaks C.most) W' := by
  have hnl : ∀ g : Nat, (Value.slice none 0 0).ownBlock = some g → False := fun g h => by
    simp [Value.ownBlock] at h
  have hap2 : (pfoot C.pr ib ipb imb gb F (.slice none 0 0) (.slice none 0 0)).Nodup := pfoot_iff.2 ⟨hap, hO.nodup, hF, fun g h => (hnl g h).elim, fun g h => (hnl g h).elim, fun g h => (hnl g h).elim⟩
  have hP : PairA W C.pr ([C.pr, ib, ipb, imb, gb] ++ F) { o := ⟨false, C.most, 0, [], []⟩, U := [], T := [], B := [], K := [], g := fun _ => 0 } :=
    ⟨fb, ib, ipb, imb, gb, F, .slice none 0 0, .slice none 0 0, ⟨hb, hO, hI, QRow.nil _ _, QRow.nil _ _, hg, hap2⟩, by simp [pfoot, Value.ownBlock]⟩
  have hIv := Inv.start q C.n C.most
  refine (breaks_sim hP (Sim.start q C.most) rfl hIv hG.qs hG.n hG.m1 hG.m2 hE.p hE.most (fun hm => (hE.apart _ hm).2.2.2.1 rfl) (fun hm => (hE.apart _ hm).2.2.2.2 rfl)).mono ?_
  rintro e W' ⟨he, p', hst, hs⟩
  obtain ⟨P', hp, hE'⟩ := hE.step hst
  obtain ⟨hi, hf⟩ := hIv.breaks
  exact ⟨he, P', p', hp, hs, hE', hi, hf, fun _ => Nat.le_refl 0⟩
end
end Go.Proofs.YtcepfhnlbnlnhaaGreatDoor
