/- THE STEPS OF THE PAIR are steps of the plain state. -/
import Derived.Test.YtcepfhnlbnlnhaaGreatDoorSim
namespace Go.Proofs.YtcepfhnlbnlnhaaGreatDoor
set_option maxRecDepth 100000
open Go.RowKit

structure Side (s : OutS) : Prop where
  q : ∀ m ∈ s.wait, 0 < m.q
  most : s.most ≤ 64
  fl : s.fl.length ≤ s.most
  tk : s.taken + s.wait.length < 50000
  ids : ∀ f ∈ s.fl, f.id ≤ (s.taken : Int)
  id0 : ∀ f ∈ s.fl, 0 < f.id
  wl : s.wait.length ≤ 100
theorem side_of {q : Nat → Nat} {n most : Nat} {s : St} (hI : Inv q n most s) (hq : ∀ i, q i = 1 ∨ q i = 2) (hn : n ≤ 40) (hm : most ≤ 64) : Side (outOf q most s) where
  q := fun m hm => by
    obtain ⟨i, _, rfl⟩ := List.mem_map.1 hm
    have := hq i
    show (0 : Int) < (q i : Int)
    omega
  most := hm
  fl := by simpa [outOf] using hI.few
  tk := by
    have := hI.an
    have := hI.nn
    simp only [outOf, List.length_map, List.length_range']
    omega
  ids := fun f hf => by
    obtain ⟨i, hi, rfl⟩ := List.mem_map.1 hf
    have := hI.low i hi
    show (i : Int) + 1 ≤ (s.a : Int)
    omega
  id0 := fun f hf => by
    obtain ⟨i, hi, rfl⟩ := List.mem_map.1 hf
    show (0 : Int) < (i : Int) + 1
    omega
  wl := by
    have := hI.nn
    simp only [outOf, List.length_map, List.length_range']
    omega
theorem room_of (q : Nat → Nat) (most : Nat) (s : St) : (outOf q most s).room = s.room most := by
  simp [OutS.room, outOf, St.room]
section
variable {w : World}
theorem breaks_sim {q : Nat → Nat} {n most pr pv mv : Nat} {s : St} {p : PairS} {P : List Nat} (hP : PairA w pr P p) (hs : Sim q most s { p with o := outOf q most s }) (ho : { p.o with on := false } = { outOf q most s with on := false }) (hI : Inv q n most s) (hq : ∀ i, q i = 1 ∨ q i = 2) (hn : n ≤ 40) (hm1 : 1 ≤ most) (hm : most ≤ 64)
    (hpv : w.cell? ⟨pv, 0, none⟩ = some (.pointer (some ⟨pr, 0, none⟩))) (hmv : w.cell? ⟨mv, 0, none⟩ = some (.int .i64 (most : Int))) (h1 : pv ∉ P) (h2 : mv ∉ P) :
    Calls Tryz.prog 9 #[.pointer (some ⟨pv, 0, none⟩), .pointer (some ⟨mv, 0, none⟩)] w fun e w' => e = .returned (.tuple #[]) ∧ ∃ p', Stepped w pr P p' w' ∧ Sim q most (s.breaks most) p' := by
  have hS := side_of hI hq hn hm
  have hmo : p.o.most = most := congrArg OutS.most ho
  have hbr := hI.broken
  have hsb := (hs.broken hI).opened hbr (k := s.room most) (by unfold St.room; simp only [St.broken]; omega)
  refine (breaks_step hP hpv (by rw [hmo]; exact hmv) h1 h2 ((outOf q most s).gone (outOf q most s).room) ((outOf q most s).fl.map againOf ++ newPub s.a ((outOf q most s).wait.take (outOf q most s).room)) fun W fb F hO => ?_).mono fun e w' h => ⟨h.1, _, h.2, ?_⟩
  · rw [hmo]
    rw [ho] at hO
    exact begin_any hO most hm1 hm hS.q hS.fl (by have := hS.tk; show s.a + _ < 60000; exact Nat.lt_of_lt_of_le this (by omega)) hS.ids (by have := hS.wl; exact Nat.le_trans this (by omega))
  · rw [room_of]
    rw [outOf_broken] at hsb
    exact hsb
end
end Go.Proofs.YtcepfhnlbnlnhaaGreatDoor
