/- A SCRIPT THAT CAME IN: a slice of acts, read off the call's memory. -/
import Derived.Test.YtklcpckjmncdkaaGreatDoorAct
import Derived.Test.YtklcpckjmncdkaaGreatDoorPost
import Derived.Deep.Slices
import Derived.Deep.Fields
import Derived.ChangeSame
import Derived.ChangeSlices
import Derived.Lib.SmallJoins
import Derived.OpenShut
namespace Go.Proofs.YtklcpckjmncdkaaGreatDoor
set_option maxRecDepth 100000
open Go.Joins Go.ChangeShapes Go.WideShapes Go.RowKit Go.Deep

section
variable {H : Type} {enc : TypeId × Value → H} {P : Program} {w : World} {base : Nat} {spare : Nat → Bool} {held : Bool}
theorem open_slice_fields {t e : TypeId} {fs : Array Field} {fuel : Nat} {cs : List Value} {x : DataW H × List MemPlace} (ht : P.underlying t = some (.slice e)) (he : P.underlying e = some (.struct fs))
    (hone : oneCellFields P fs = true) (hC : P.cellsOf e = fs.size) (h : DataW.trod enc P w base spare held fuel t cs = some x) :
    (cs = [.slice none 0 0] ∧ x = (.nil, [])) ∨
    ∃ (a : Addr) (len cap m : Nat) (D : Nat → DataW H) (Pl : Nat → List MemPlace), cs = [.slice (some a) len cap] ∧ base ≤ a.block ∧ len ≤ cap ∧ cap ≤ maxLen ∧ m = (if spare a.block then cap else len) ∧
      x = (.slice ((List.range len).map D) ((List.range (m - len)).map fun j => D (len + j)), MemPlace.row a (m * fs.size) ++ (List.range m).flatMap Pl) ∧
      ∀ i, i < m → ∃ (ys : List (DataW H × List MemPlace)) (n : Nat), D i = .agg (ys.map (·.1)) ∧ Pl i = ys.flatMap (·.2) ∧ ys.length = fs.size ∧
        ∀ (j : Nat) (f : Field), fs[j]? = some f → ∃ (v : Value) (y : DataW H × List MemPlace), w.cell? (a.add (i * fs.size + j)) = some v ∧ ys[j]? = some y ∧ DataW.trod enc P w base spare held n f.type [v] = some y := by
  rcases open_slice ht h with h0 | ⟨a, len, cap, m, n, D, Pl, hcs, hb, hl, hm, hmm, hx, hi⟩
  · exact .inl h0
  · refine .inr ⟨a, len, cap, m, D, Pl, hcs, hb, hl, hm, hmm, by rw [hC] at hx; exact hx, fun i him => ?_⟩
    obtain ⟨cs', hc, ht'⟩ := hi i him
    rw [hC] at hc
    obtain ⟨ys, n', hn', hy, hlen, hyl, hf⟩ := DataW.trod_struct he ht'
    obtain ⟨_, hcl, hat⟩ := World.cells?_some hc
    simp only [Prod.mk.injEq] at hy
    refine ⟨ys, n', hy.1, hy.2, hyl, fun j f hj => ?_⟩
    obtain ⟨ho, hk⟩ := hone_of hone j f hj
    have hjl : j < fs.size := (Array.getElem?_eq_some_iff.1 hj).1
    have hcell := hat j hjl
    have hv : cs'[j]? = some (cs'[j]'(by omega)) := List.getElem?_eq_getElem (by omega)
    have h1 := hf j f hj
    rw [ho, hk] at h1
    have hone' : (cs'.drop j).take 1 = [cs'[j]'(by omega)] := by
      rw [List.drop_eq_getElem_cons (by omega)]
      rfl
    rw [hone'] at h1
    have hys : ys[j]? = some (ys[j]'(by omega)) := List.getElem?_eq_getElem (by omega)
    refine ⟨_, _, ?_, hys, h1.trans hys⟩
    rw [← Go.Deep.add_add, hcell, hv]
end

theorem cell_lt {w : World} {a : Addr} {v : Value} (h : w.cell? a = some v) : a.block < w.heap.size := by
  rcases Nat.lt_or_ge a.block w.heap.size with h' | h'
  · exact h'
  · simp [World.cell?, Array.getElem?_eq_none h'] at h
theorem add_off' {A : Addr} {w : World} {v : Value} (h : w.cell? (A.add 0) = some v) : ∃ b off, A = ⟨b, off, none⟩ ∧ b < w.heap.size ∧ ∀ k, A.add k = ⟨b, off + k, none⟩ := by
  have hs := World.cell?_spot h
  have hl := cell_lt h
  rw [show A.add 0 = A from rfl] at hs hl
  obtain ⟨b, off, sp⟩ := A
  simp only at hs hl
  subst hs
  exact ⟨b, off, rfl, hl, fun k => by unfold Addr.add; split <;> simp_all⟩

/-- A slice that reads as these ints, all of them below block B. -/
structure IntsIn (w : World) (B : Nat) (A : Option Addr) (c : Nat) (l : List Int) : Prop where
  cap : l.length ≤ c
  most : c ≤ maxLen
  i64 : ∀ k ∈ l, I64 k
  cell : ∀ j (h : j < l.length), ∃ b off, A = some ⟨b, off, none⟩ ∧ b < B ∧ w.cell? ⟨b, off + j, none⟩ = some (.int .i64 l[j])
theorem IntsIn.below {w w' : World} {B : Nat} {A : Option Addr} {c : Nat} {l : List Int} (h : IntsIn w B A c l) (hb : Below B w w') : IntsIn w' B A c l :=
  ⟨h.cap, h.most, h.i64, fun j hj => by obtain ⟨b, off, h1, h2, h3⟩ := h.cell j hj; exact ⟨b, off, h1, h2, (hb.cell (p := ⟨b, off + j, none⟩) h2).trans h3⟩⟩
theorem IntsIn.ints {w : World} {B : Nat} {A : Option Addr} {c : Nat} {l : List Int} (h : IntsIn w B A c l) {g : Nat} (hg : B ≤ g) : Ints w g (.slice A l.length c) l :=
  ⟨A, c, rfl, fun j hj => by obtain ⟨b, off, h1, h2, h3⟩ := h.cell j hj; exact ⟨b, off, h1, by omega, h3⟩⟩

/-- An act, with where its numbers lie. -/
structure ActW where
  a : ActD
  A : Option Addr
  c : Nat
def ActW.cells (x : ActW) : Array Value := #[.int .i64 x.a.do_, .int .i64 x.a.file, .int .i64 x.a.n, .string x.a.data, .slice x.A x.a.keep.length x.c]
structure ActIn (w : World) (B : Nat) (x : ActW) : Prop where
  keep : IntsIn w B x.A x.c x.a.keep
  do64 : I64 x.a.do_
  n64 : I64 x.a.n
  data : x.a.data.size ≤ maxLen
theorem ActIn.below {w w' : World} {B : Nat} {x : ActW} (h : ActIn w B x) (hb : Below B w w') : ActIn w' B x := ⟨h.keep.below hb, h.do64, h.n64, h.data⟩
theorem ActIn.at_ {w : World} {B : Nat} {x : ActW} (h : ActIn w B x) {g r : Nat} (hg : B ≤ g) (hr : B ≤ r) : ActAt w g r x.a x.A x.c := ⟨h.keep.ints hg, h.keep.ints hr, h.keep.cap, h.keep.most, h.keep.i64, h.do64, h.n64, h.data⟩

/-- The script in memory. -/
structure Script (w : World) (B : Nat) (A : Option Addr) (c : Nat) (L : List ActW) : Prop where
  cap : L.length ≤ c
  most : c ≤ maxLen
  act : ∀ j (h : j < L.length), ActIn w B L[j]
  cell : ∀ j (h : j < L.length), ∃ b off, A = some ⟨b, off, none⟩ ∧ b < B ∧ ∀ i, i < 5 → w.cell? ⟨b, off + (j * 5 + i), none⟩ = L[j].cells[i]?
theorem Script.below {w w' : World} {B : Nat} {A : Option Addr} {c : Nat} {L : List ActW} (h : Script w B A c L) (hb : Below B w w') : Script w' B A c L :=
  ⟨h.cap, h.most, fun j hj => (h.act j hj).below hb, fun j hj => by
    obtain ⟨b, off, h1, h2, h3⟩ := h.cell j hj
    exact ⟨b, off, h1, h2, fun i hi => (hb.cell (p := ⟨b, off + (j * 5 + i), none⟩) h2).trans (h3 i hi)⟩⟩

section
variable {H : Type} {enc : TypeId × Value → H} {w : World} {base : Nat} {spare : Nat → Bool} {held : Bool}
theorem i64_of_wf {k : Int} (h : (Lit.int .i64 k).wf = true) : I64 k := bounds_i64 h
theorem open_keep {fuel : Nat} {v : Value} {x : DataW H × List MemPlace} (h : DataW.trod enc Tryz.prog w base spare held fuel 62 [v] = some x) :
    ∃ A c l, v = .slice A (List.length l) c ∧ IntsIn w w.heap.size A c l := by
  rcases open_ints Tryz.underlying62 Tryz.underlying3 (by kernel_rfl) h with ⟨hc, _⟩ | ⟨a, len, cap, zs, hc, _, hl, hm, hz, _, hcell, hwf⟩
  · simp at hc
    exact ⟨none, 0, [], hc, Nat.zero_le _, Nat.zero_le _, fun k hk => by simp at hk, fun j hj => by simp at hj⟩
  · simp at hc
    have hle : len ≤ zs.length := by rw [hz]; split <;> omega
    refine ⟨some a, cap, zs.take len, by rw [hc, List.length_take, Nat.min_eq_left hle], by rw [List.length_take]; omega, hm, fun k hk => i64_of_wf (hwf k (List.mem_of_mem_take hk)), fun j hj => ?_⟩
    rw [List.length_take] at hj
    have hcj := hcell j (by omega)
    obtain ⟨b, off, rfl, h3, h2⟩ := add_off' (hcell 0 (by omega))
    refine ⟨b, off, rfl, h3, ?_⟩
    rw [← h2, hcj]
    simp [List.getD, List.getElem?_eq_getElem (show j < zs.length by omega)]
end
end Go.Proofs.YtklcpckjmncdkaaGreatDoor
