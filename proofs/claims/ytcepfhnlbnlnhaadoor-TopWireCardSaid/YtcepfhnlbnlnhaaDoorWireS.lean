/- ARGUMENTS OPENED: slices of texts and of numbers. -/
import Derived.Test.YtcepfhnlbnlnhaaDoorMade
import Derived.Deep.Slices
import Derived.Deep.Fields
import Derived.SliceStrings
import Derived.SizedLaws
import Derived.Lib.SmallJoins
import Derived.ChangeSlices
import Derived.OpenShut
namespace Go.Proofs.YtcepfhnlbnlnhaaDoor
set_option maxRecDepth 100000
open Go.Joins Go.ChangeShapes Go.WideShapes Go.RowKit Go.Deep

def I64 (k : Int) : Prop := -9223372036854775808 ≤ k ∧ k ≤ 9223372036854775807
theorem add_off (b off j : Nat) : (⟨b, off, none⟩ : Addr).add j = ⟨b, off + j, none⟩ := by unfold Addr.add; split <;> simp_all
theorem sum_addr {w : World} {a : Addr} {u : Value} (h : w.cell? (a.add 0) = some u) : ∃ b off, a = ⟨b, off, none⟩ ∧ ∀ k, a.add k = ⟨b, off + k, none⟩ := by
  have hs := World.cell?_spot h
  rw [show a.add 0 = a from rfl] at hs
  obtain ⟨b, off, sp⟩ := a
  simp only at hs
  subst hs
  exact ⟨b, off, rfl, fun k => add_off b off k⟩
structure TextW where
  k : Int
  q : Int
  id : Int
  T : ByteArray
  B : ByteArray
def TextW.pk (x : TextW) : Pk := mkPk x.k x.q x.id x.T x.B
/-- A slice of texts: its cells. -/
def Texts (w : World) (v : Value) (l : List TextW) : Prop :=
  ∃ A c, v = .slice A l.length c ∧ l.length ≤ c ∧ c ≤ maxLen ∧ ∀ j (h : j < l.length), I64 l[j].k ∧ I64 l[j].q ∧ I64 l[j].id ∧ ∃ b off, A = some ⟨b, off, none⟩ ∧
    w.cell? ⟨b, off + j * 5, none⟩ = some (.int .i64 l[j].k) ∧ w.cell? ⟨b, off + j * 5 + 1, none⟩ = some (.int .i64 l[j].q) ∧ w.cell? ⟨b, off + j * 5 + 2, none⟩ = some (.int .i64 l[j].id) ∧
    w.cell? ⟨b, off + j * 5 + 3, none⟩ = some (.string l[j].T) ∧ w.cell? ⟨b, off + j * 5 + 4, none⟩ = some (.string l[j].B)
/-- A slice of numbers that came in: its cells. -/
def Nums (w : World) (v : Value) (l : List Int) : Prop :=
  ∃ A c, v = .slice A l.length c ∧ l.length ≤ c ∧ c ≤ maxLen ∧ (A = none → c = 0) ∧ ∀ j (h : j < l.length), I64 l[j] ∧ ∃ b off, A = some ⟨b, off, none⟩ ∧ w.cell? ⟨b, off + j, none⟩ = some (.int .i64 l[j])
section
variable {H : Type} {P : Program} {enc : TypeId × Value → H} {w : World} {base : Nat} {spare : Nat → Bool} {held : Bool}
theorem open_slice_parts {t e : TypeId} {fs : Array Field} {fuel : Nat} {cs : List Value} {x : DataW H × List MemPlace} (ht : P.underlying t = some (.slice e)) (he : P.underlying e = some (.struct fs))
    (hone : oneCellFields P fs = true) (hC : P.cellsOf e = fs.size) (h : DataW.trod enc P w base spare held fuel t cs = some x) :
    cs = [.slice none 0 0] ∨
    ∃ (a : Addr) (len cap : Nat), cs = [.slice (some a) len cap] ∧ len ≤ cap ∧ cap ≤ maxLen ∧
      ∀ i, i < len → ∃ (n : Nat), ∀ (j : Nat) (f : Field), fs[j]? = some f → ∃ (v : Value) (y : DataW H × List MemPlace), w.cell? (a.add (i * fs.size + j)) = some v ∧ DataW.trod enc P w base spare held n f.type [v] = some y := by
  rcases open_slice ht h with ⟨h0, _⟩ | ⟨a, len, cap, m, n, D, Pl, hcs, hb, hl, hm, hmm, hx, hi⟩
  · exact .inl h0
  · refine .inr ⟨a, len, cap, hcs, hl, hm, fun i him => ?_⟩
    obtain ⟨cs', hc, ht'⟩ := hi i (by rw [hmm]; split <;> omega)
    rw [hC] at hc
    obtain ⟨ys, n', hn', hy, hlen, hyl, hf⟩ := DataW.trod_struct he ht'
    obtain ⟨_, hcl, hat⟩ := World.cells?_some hc
    refine ⟨n', fun j f hj => ?_⟩
    obtain ⟨ho, hk⟩ := hone_of hone j f hj
    have hjl : j < fs.size := (Array.getElem?_eq_some_iff.1 hj).1
    have hcell := hat j hjl
    have hv : cs'[j]? = some (cs'[j]'(by omega)) := List.getElem?_eq_getElem (by omega)
    have h1 := hf j f hj
    rw [ho, hk] at h1
    have hone' : (cs'.drop j).take 1 = [cs'[j]'(by omega)] := by
      rw [List.drop_eq_getElem_cons (by omega)]
      rfl
    rw [hone'] at h1
    have hys : ys[j]? = some (ys[j]'(by omega)) := List.getElem?_eq_getElem (by omega)
    refine ⟨_, _, ?_, h1.trans hys⟩
    rw [← Go.Deep.add_add, hcell, hv]
end
section
variable {H : Type} {enc : TypeId × Value → H} {w : World} {base : Nat} {spare : Nat → Bool} {held : Bool}
theorem open_texts {fuel : Nat} {v : Value} {x : DataW H × List MemPlace} (h : DataW.trod enc Tryd.prog w base spare held fuel 22 [v] = some x) : ∃ l, Texts w v l := by
  rcases open_slice_parts Tryd.underlying22 Tryd.underlying27 (by kernel_rfl) (by kernel_rfl) h with hc | ⟨a, len, cap, hc, hl, hm, hi⟩
  · simp at hc
    exact ⟨[], none, 0, hc, Nat.le_refl _, Nat.zero_le _, fun j hj => by simp at hj⟩
  · simp at hc
    have key : ∀ i, i < len → ∃ X : TextW, (I64 X.k ∧ I64 X.q ∧ I64 X.id) ∧ w.cell? (a.add (i * 5)) = some (.int .i64 X.k) ∧ w.cell? (a.add (i * 5 + 1)) = some (.int .i64 X.q) ∧ w.cell? (a.add (i * 5 + 2)) = some (.int .i64 X.id) ∧ w.cell? (a.add (i * 5 + 3)) = some (.string X.T) ∧ w.cell? (a.add (i * 5 + 4)) = some (.string X.B) := by
      intro i hil
      obtain ⟨n, hf⟩ := hi i hil
      obtain ⟨v0, y0, hc0, t0⟩ := hf 0 _ rfl
      obtain ⟨v1, y1, hc1, t1⟩ := hf 1 _ rfl
      obtain ⟨v2, y2, hc2, t2⟩ := hf 2 _ rfl
      obtain ⟨v3, y3, hc3, t3⟩ := hf 3 _ rfl
      obtain ⟨v4, y4, hc4, t4⟩ := hf 4 _ rfl
      obtain ⟨n0, e0, _, w0⟩ := DataW.trod_int Tryd.underlying3 t0
      obtain ⟨n1, e1, _, w1⟩ := DataW.trod_int Tryd.underlying3 t1
      obtain ⟨n2, e2, _, w2⟩ := DataW.trod_int Tryd.underlying3 t2
      obtain ⟨s3, e3, _⟩ := DataW.trod_string Tryd.underlying9 t3
      obtain ⟨s4, e4, _⟩ := DataW.trod_string Tryd.underlying9 t4
      simp only [List.cons.injEq, and_true] at e0 e1 e2 e3 e4
      subst e0 e1 e2 e3 e4
      exact ⟨⟨n0, n1, n2, s3, s4⟩, ⟨bounds_i64 w0, bounds_i64 w1, bounds_i64 w2⟩, hc0, hc1, hc2, hc3, hc4⟩
    obtain ⟨F, hF⟩ : ∃ F : Nat → TextW, ∀ i, i < len → (I64 (F i).k ∧ I64 (F i).q ∧ I64 (F i).id) ∧ w.cell? (a.add (i * 5)) = some (.int .i64 (F i).k) ∧ w.cell? (a.add (i * 5 + 1)) = some (.int .i64 (F i).q) ∧ w.cell? (a.add (i * 5 + 2)) = some (.int .i64 (F i).id) ∧ w.cell? (a.add (i * 5 + 3)) = some (.string (F i).T) ∧ w.cell? (a.add (i * 5 + 4)) = some (.string (F i).B) := by
      haveI : Inhabited TextW := ⟨⟨0, 0, 0, ⟨#[]⟩, ⟨#[]⟩⟩⟩
      exact choose_lt key
    refine ⟨(List.range len).map F, some a, cap, by simp [hc], by simpa using hl, hm, fun j hj => ?_⟩
    simp only [List.length_map, List.length_range] at hj
    obtain ⟨b, off, rfl, h2⟩ := sum_addr (hF 0 (by omega)).2.1
    have := hF j hj
    rw [h2, h2, h2, h2, h2] at this
    obtain ⟨⟨i1, i2, i3⟩, q0, q1, q2, q3, q4⟩ := this
    simp only [← Nat.add_assoc] at q1 q2 q3 q4
    refine ⟨by simpa using i1, by simpa using i2, by simpa using i3, b, off, rfl, by simpa using q0, by simpa using q1, by simpa using q2, by simpa using q3, by simpa using q4⟩
theorem open_nums {fuel : Nat} {v : Value} {x : DataW H × List MemPlace} (h : DataW.trod enc Tryd.prog w base spare held fuel 23 [v] = some x) : ∃ l, Nums w v l := by
  rcases open_ints Tryd.underlying23 Tryd.underlying3 (by kernel_rfl) h with ⟨hc, _⟩ | ⟨a, len, cap, zs, hc, _, hl, hm, hz, _, hcell, hwz⟩
  · simp at hc
    exact ⟨[], none, 0, hc, Nat.le_refl _, Nat.zero_le _, fun _ => rfl, fun j hj => by simp at hj⟩
  · simp at hc
    have hzl : len ≤ zs.length := by rw [hz]; split <;> omega
    have htl : (zs.take len).length = len := by rw [List.length_take]; omega
    refine ⟨zs.take len, some a, cap, by rw [hc, htl], by omega, hm, (by simp), fun j hj => ?_⟩
    rw [htl] at hj
    have h0 := hcell 0 (by omega)
    obtain ⟨b, off, rfl, h2⟩ := sum_addr h0
    have hj0 := hcell j (by omega)
    rw [h2] at hj0
    have e : (zs.take len)[j] = zs.getD j 0 := by
      rw [List.getElem_take, List.getD_eq_getElem?_getD, List.getElem?_eq_getElem (by omega)]
      rfl
    rw [e]
    refine ⟨bounds_i64 (hwz _ ?_), b, off, rfl, hj0⟩
    rw [← e]
    exact List.mem_of_mem_take (List.getElem_mem _)
end
end Go.Proofs.YtcepfhnlbnlnhaaDoor
