/- AN ARRAY OF TWO TEXTS, OPENED. -/
import Derived.Test.YtklcpckjmncdkaaGreatDoorJUni
import Derived.Test.YtklcpckjmncdkaaGreatDoorPost
import Derived.OpenShut
namespace Go.Proofs.YtklcpckjmncdkaaGreatDoor
set_option maxRecDepth 100000
open Go.ChangeShapes Go.WideShapes Go.Deep Go.Joins Go.RowKit

section
variable {H : Type} {enc : TypeId × Value → H} {w : World} {base : Nat} {spare : Nat → Bool} {held : Bool}
theorem open_pair {r : Reach} {b0 : Nat} {v : Value} {d : DataW H} {p : List MemPlace} (hv : Value.okWide Tryz.prog w r b0 48 v) (h : DataW.Trod enc Tryz.prog w base spare held 48 v d p) :
    ∃ s0 s1, v = .agg #[.string s0, .string s1] ∧ s0.size ≤ maxLen ∧ s1.size ≤ maxLen := by
  simp only [Value.okWide, Tryz.underlying48] at hv
  obtain ⟨cs, rfl, hsz, _⟩ := hv
  have hC : Tryz.prog.cellsOf 48 = 2 := by kernel_rfl
  have hE : Tryz.prog.cellsOf 9 = 1 := by kernel_rfl
  obtain ⟨c0, c1, rfl⟩ := array2 (hsz.trans hC)
  obtain ⟨fuel, hf⟩ := h
  obtain ⟨xs, m, _, _, _, hl, hg⟩ := DataW.trod_array Tryz.underlying48 hf
  have h0 := hg 0 (by decide)
  have h1 := hg 1 (by decide)
  rw [hE] at h0 h1
  match xs, hl with
  | [y0, y1], _ =>
    simp [Value.cells] at h0 h1
    obtain ⟨s0, e0, _, w0⟩ := DataW.trod_string Tryz.underlying9 h0
    obtain ⟨s1, e1, _, w1⟩ := DataW.trod_string Tryz.underlying9 h1
    simp only [List.cons.injEq, and_true] at e0 e1
    subst e0 e1
    exact ⟨s0, s1, rfl, w0, w1⟩
end
end Go.Proofs.YtklcpckjmncdkaaGreatDoor
