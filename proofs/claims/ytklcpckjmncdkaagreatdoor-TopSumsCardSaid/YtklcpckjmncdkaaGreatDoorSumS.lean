/- ARGUMENTS OPENED: slices of steps of a sum and of losses of power. -/
import Derived.Test.YtklcpckjmncdkaaGreatDoorSumW
import Derived.Deep.Slices
import Derived.Deep.Fields
import Derived.SliceStrings
import Derived.SizedLaws
import Derived.Lib.SmallJoins
import Derived.ChangeSlices
import Derived.OpenShut
namespace Go.Proofs.YtklcpckjmncdkaaGreatDoor
set_option maxRecDepth 100000
open Go.Joins Go.ChangeShapes Go.WideShapes Go.RowKit Go.Deep

theorem sum_addr {w : World} {a : Addr} {u : Value} (h : w.cell? (a.add 0) = some u) : ∃ b off, a = ⟨b, off, none⟩ ∧ ∀ k, a.add k = ⟨b, off + k, none⟩ := by
  have hs := World.cell?_spot h
  rw [show a.add 0 = a from rfl] at hs
  obtain ⟨b, off, sp⟩ := a
  simp only at hs
  subst hs
  exact ⟨b, off, rfl, fun k => add_off b off k⟩
structure AddW where
  add : UInt8
  sync : Bool
  comp : Bool
structure CutW where
  n : Int
  keep : Int
/-- A slice of steps: its cells. -/
def Adds (w : World) (v : Value) (l : List AddW) : Prop :=
  ∃ A c, v = .slice A l.length c ∧ l.length ≤ c ∧ c ≤ maxLen ∧ ∀ j (h : j < l.length), ∃ b off, A = some ⟨b, off, none⟩ ∧ w.cell? ⟨b, off + j * 3, none⟩ = some (.int .u8 (l[j].add.toNat : Int)) ∧ w.cell? ⟨b, off + j * 3 + 1, none⟩ = some (.bool l[j].sync) ∧ w.cell? ⟨b, off + j * 3 + 2, none⟩ = some (.bool l[j].comp)
def Cuts (w : World) (v : Value) (l : List CutW) : Prop :=
  ∃ A c, v = .slice A l.length c ∧ l.length ≤ c ∧ c ≤ maxLen ∧ ∀ j (h : j < l.length), I64 l[j].n ∧ I64 l[j].keep ∧ ∃ b off, A = some ⟨b, off, none⟩ ∧ w.cell? ⟨b, off + j * 2, none⟩ = some (.int .i64 l[j].n) ∧ w.cell? ⟨b, off + j * 2 + 1, none⟩ = some (.int .i64 l[j].keep)
section
variable {H : Type} {P : Program} {enc : TypeId × Value → H} {w : World} {base : Nat} {spare : Nat → Bool} {held : Bool}
theorem open_slice_parts {t e : TypeId} {fs : Array Field} {fuel : Nat} {cs : List Value} {x : DataW H × List MemPlace} (ht : P.underlying t = some (.slice e)) (he : P.underlying e = some (.struct fs))
    (hone : oneCellFields P fs = true) (hC : P.cellsOf e = fs.size) (h : DataW.trod enc P w base spare held fuel t cs = some x) :
    cs = [.slice none 0 0] ∨
    ∃ (a : Addr) (len cap : Nat), cs = [.slice (some a) len cap] ∧ len ≤ cap ∧ cap ≤ maxLen ∧
      ∀ i, i < len → ∃ (n : Nat), ∀ (j : Nat) (f : Field), fs[j]? = some f → ∃ (v : Value) (y : DataW H × List MemPlace), w.cell? (a.add (i * fs.size + j)) = some v ∧ DataW.trod enc P w base spare held n f.type [v] = some y := by
  rcases open_slice ht h with ⟨h0, _⟩ | ⟨a, len, cap, m, n, D, Pl, hcs, hb, hl, hm, hmm, hx, hi⟩
  · exact .inl h0
  · refine .inr ⟨a, len, cap, hcs, hl, hm, fun i him => ?_⟩
    obtain ⟨cs', hc, ht'⟩ := hi i (by rw [hmm]; split <;> omega)
    rw [hC] at hc
    obtain ⟨ys, n', hn', hy, hlen, hyl, hf⟩ := DataW.trod_struct he ht'
    obtain ⟨_, hcl, hat⟩ := World.cells?_some hc
    refine ⟨n', fun j f hj => ?_⟩
    obtain ⟨ho, hk⟩ := hone_of hone j f hj
    have hjl : j < fs.size := (Array.getElem?_eq_some_iff.1 hj).1
    have hcell := hat j hjl
    have hv : cs'[j]? = some (cs'[j]'(by omega)) := List.getElem?_eq_getElem (by omega)
    have h1 := hf j f hj
    rw [ho, hk] at h1
    have hone' : (cs'.drop j).take 1 = [cs'[j]'(by omega)] := by
      rw [List.drop_eq_getElem_cons (by omega)]
      rfl
    rw [hone'] at h1
    have hys : ys[j]? = some (ys[j]'(by omega)) := List.getElem?_eq_getElem (by omega)
    refine ⟨_, _, ?_, h1.trans hys⟩
    rw [← Go.Deep.add_add, hcell, hv]
end
section
variable {H : Type} {enc : TypeId × Value → H} {w : World} {base : Nat} {spare : Nat → Bool} {held : Bool}
theorem open_adds {fuel : Nat} {v : Value} {x : DataW H × List MemPlace} (h : DataW.trod enc Tryz.prog w base spare held fuel 22 [v] = some x) : ∃ l, Adds w v l := by
  rcases open_slice_parts Tryz.underlying22 Tryz.underlying40 (by kernel_rfl) (by kernel_rfl) h with hc | ⟨a, len, cap, hc, hl, hm, hi⟩
  · simp at hc
    exact ⟨[], none, 0, hc, Nat.le_refl _, Nat.zero_le _, fun j hj => by simp at hj⟩
  · simp at hc
    have key : ∀ i, i < len → ∃ X : AddW, w.cell? (a.add (i * 3)) = some (.int .u8 (X.add.toNat : Int)) ∧ w.cell? (a.add (i * 3 + 1)) = some (.bool X.sync) ∧ w.cell? (a.add (i * 3 + 2)) = some (.bool X.comp) := by
      intro i hil
      obtain ⟨n, hf⟩ := hi i hil
      obtain ⟨v0, y0, hc0, t0⟩ := hf 0 _ rfl
      obtain ⟨v1, y1, hc1, t1⟩ := hf 1 _ rfl
      obtain ⟨v2, y2, hc2, t2⟩ := hf 2 _ rfl
      obtain ⟨n0, e0, _, w0⟩ := DataW.trod_int Tryz.underlying5 t0
      obtain ⟨b1, e1, _⟩ := DataW.trod_bool Tryz.underlying4 t1
      obtain ⟨b2, e2, _⟩ := DataW.trod_bool Tryz.underlying4 t2
      simp only [List.cons.injEq, and_true] at e0 e1 e2
      subst e0 e1 e2
      have hm0 := bounds_u8 w0
      obtain ⟨m, rfl⟩ : ∃ m : Nat, n0 = (m : Int) := ⟨n0.toNat, by omega⟩
      refine ⟨⟨UInt8.ofNat m, b1, b2⟩, ?_, hc1, hc2⟩
      have e : (UInt8.ofNat m).toNat = m := by simp; omega
      simp only [e]
      exact hc0
    obtain ⟨F, hF⟩ : ∃ F : Nat → AddW, ∀ i, i < len → w.cell? (a.add (i * 3)) = some (.int .u8 ((F i).add.toNat : Int)) ∧ w.cell? (a.add (i * 3 + 1)) = some (.bool (F i).sync) ∧ w.cell? (a.add (i * 3 + 2)) = some (.bool (F i).comp) := by
      haveI : Inhabited AddW := ⟨⟨0, false, false⟩⟩
      exact choose_lt key
    refine ⟨(List.range len).map F, some a, cap, by simp [hc], by simpa using hl, hm, fun j hj => ?_⟩
    simp only [List.length_map, List.length_range] at hj
    obtain ⟨b, off, rfl, h2⟩ := sum_addr (hF 0 (by omega)).1
    have := hF j hj
    rw [h2, h2, h2] at this
    exact ⟨b, off, rfl, by simpa using this.1, by simpa [Nat.add_assoc] using this.2.1, by simpa [Nat.add_assoc] using this.2.2⟩
theorem open_cuts {fuel : Nat} {v : Value} {x : DataW H × List MemPlace} (h : DataW.trod enc Tryz.prog w base spare held fuel 23 [v] = some x) : ∃ l, Cuts w v l := by
  rcases open_slice_parts Tryz.underlying23 Tryz.underlying30 (by kernel_rfl) (by kernel_rfl) h with hc | ⟨a, len, cap, hc, hl, hm, hi⟩
  · simp at hc
    exact ⟨[], none, 0, hc, Nat.le_refl _, Nat.zero_le _, fun j hj => by simp at hj⟩
  · simp at hc
    have key : ∀ i, i < len → ∃ X : CutW, (I64 X.n ∧ I64 X.keep) ∧ w.cell? (a.add (i * 2)) = some (.int .i64 X.n) ∧ w.cell? (a.add (i * 2 + 1)) = some (.int .i64 X.keep) := by
      intro i hil
      obtain ⟨n, hf⟩ := hi i hil
      obtain ⟨v0, y0, hc0, t0⟩ := hf 0 _ rfl
      obtain ⟨v1, y1, hc1, t1⟩ := hf 1 _ rfl
      obtain ⟨n0, e0, _, w0⟩ := DataW.trod_int Tryz.underlying3 t0
      obtain ⟨n1, e1, _, w1⟩ := DataW.trod_int Tryz.underlying3 t1
      simp only [List.cons.injEq, and_true] at e0 e1
      subst e0 e1
      exact ⟨⟨n0, n1⟩, ⟨bounds_i64 w0, bounds_i64 w1⟩, hc0, hc1⟩
    obtain ⟨F, hF⟩ : ∃ F : Nat → CutW, ∀ i, i < len → (I64 (F i).n ∧ I64 (F i).keep) ∧ w.cell? (a.add (i * 2)) = some (.int .i64 (F i).n) ∧ w.cell? (a.add (i * 2 + 1)) = some (.int .i64 (F i).keep) := by
      haveI : Inhabited CutW := ⟨⟨0, 0⟩⟩
      exact choose_lt key
    refine ⟨(List.range len).map F, some a, cap, by simp [hc], by simpa using hl, hm, fun j hj => ?_⟩
    simp only [List.length_map, List.length_range] at hj
    obtain ⟨b, off, rfl, h2⟩ := sum_addr (hF 0 (by omega)).2.1
    have := hF j hj
    rw [h2, h2] at this
    exact ⟨by simpa using this.1.1, by simpa using this.1.2, b, off, rfl, by simpa using this.2.1, by simpa [Nat.add_assoc] using this.2.2⟩
end
end Go.Proofs.YtklcpckjmncdkaaGreatDoor
