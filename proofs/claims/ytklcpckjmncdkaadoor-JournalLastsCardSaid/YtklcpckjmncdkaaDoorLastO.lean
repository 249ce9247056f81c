/- ARGUMENTS OPENED: slices of bools and of losses of power. -/
import Derived.Test.YtklcpckjmncdkaaDoorLastW
import Derived.Deep.Slices
import Derived.Deep.Fields
namespace Go.Proofs.YtklcpckjmncdkaaDoor
set_option maxRecDepth 100000
open Go.Joins Go.ChangeShapes Go.WideShapes Go.RowKit Go.Deep

section
variable {H : Type} {enc : TypeId × Value → H} {P : Program} {w : World} {base : Nat} {spare : Nat → Bool} {held : Bool}
theorem open_slice_fields {t e : TypeId} {fs : Array Field} {fuel : Nat} {cs : List Value} {x : DataW H × List MemPlace} (ht : P.underlying t = some (.slice e)) (he : P.underlying e = some (.struct fs))
    (hone : oneCellFields P fs = true) (hC : P.cellsOf e = fs.size) (h : DataW.trod enc P w base spare held fuel t cs = some x) :
    (cs = [.slice none 0 0] ∧ x = (.nil, [])) ∨
    ∃ (a : Addr) (len cap m : Nat) (D : Nat → DataW H) (Pl : Nat → List MemPlace), cs = [.slice (some a) len cap] ∧ base ≤ a.block ∧ len ≤ cap ∧ cap ≤ maxLen ∧ m = (if spare a.block then cap else len) ∧
      x = (.slice ((List.range len).map D) ((List.range (m - len)).map fun j => D (len + j)), MemPlace.row a (m * fs.size) ++ (List.range m).flatMap Pl) ∧
      ∀ i, i < m → ∃ (ys : List (DataW H × List MemPlace)) (n : Nat), D i = .agg (ys.map (·.1)) ∧ Pl i = ys.flatMap (·.2) ∧ ys.length = fs.size ∧
        ∀ (j : Nat) (f : Field), fs[j]? = some f → ∃ (v : Value) (y : DataW H × List MemPlace), w.cell? (a.add (i * fs.size + j)) = some v ∧ ys[j]? = some y ∧ DataW.trod enc P w base spare held n f.type [v] = some y := by
  rcases open_slice ht h with h0 | ⟨a, len, cap, m, n, D, Pl, hcs, hb, hl, hm, hmm, hx, hi⟩
  · exact .inl h0
  · refine .inr ⟨a, len, cap, m, D, Pl, hcs, hb, hl, hm, hmm, by rw [hC] at hx; exact hx, fun i him => ?_⟩
    obtain ⟨cs', hc, ht'⟩ := hi i him
    rw [hC] at hc
    obtain ⟨ys, n', hn', hy, hlen, hyl, hf⟩ := DataW.trod_struct he ht'
    obtain ⟨_, hcl, hat⟩ := World.cells?_some hc
    simp only [Prod.mk.injEq] at hy
    refine ⟨ys, n', hy.1, hy.2, hyl, fun j f hj => ?_⟩
    obtain ⟨ho, hk⟩ := hone_of hone j f hj
    have hjl : j < fs.size := (Array.getElem?_eq_some_iff.1 hj).1
    have hcell := hat j hjl
    have hv : cs'[j]? = some (cs'[j]'(by omega)) := List.getElem?_eq_getElem (by omega)
    have h1 := hf j f hj
    rw [ho, hk] at h1
    have hone' : (cs'.drop j).take 1 = [cs'[j]'(by omega)] := by
      rw [List.drop_eq_getElem_cons (by omega)]
      rfl
    rw [hone'] at h1
    have hys : ys[j]? = some (ys[j]'(by omega)) := List.getElem?_eq_getElem (by omega)
    refine ⟨_, _, ?_, hys, h1.trans hys⟩
    rw [← Go.Deep.add_add, hcell, hv]
end
theorem weights_mem_all {H : Type} {P : Program} {e : TypeId} : ∀ {ds : List (DataW H)} {d : DataW H}, d ∈ ds → ∀ n ∈ d.weights P e, n ∈ DataW.weightsAll P e ds
  | d0 :: ds, d, h, n, hn => by
    simp only [DataW.weightsAll, List.mem_append]
    rcases List.mem_cons.1 h with rfl | h
    · exact .inl hn
    · exact .inr (weights_mem_all h n hn)
section
variable {H : Type} {enc : TypeId × Value → H} {w : World} {base : Nat} {spare : Nat → Bool} {held : Bool}
theorem open_bits {fuel : Nat} {v : Value} {x : DataW H × List MemPlace} (h : DataW.trod enc Tryd.prog w base spare held fuel 48 [v] = some x) : ∃ l, Bools w v l := by
  rcases open_slice1 Tryd.underlying48 (by kernel_rfl) h with ⟨hc, _⟩ | ⟨a, len, cap, m, n, V, D, Pl, hc, _, hl, _, hm, _, hi⟩
  · simp at hc
    exact ⟨[], none, 0, hc, fun j hj => by simp at hj⟩
  · simp at hc
    have hle : len ≤ m := by rw [hm]; split <;> omega
    obtain ⟨F, hF⟩ : ∃ F : Nat → Bool, ∀ i, i < len → w.cell? (a.add i) = some (.bool (F i)) := choose_lt (p := fun i b => w.cell? (a.add i) = some (.bool b)) fun i hi2 => by
      obtain ⟨h1, h2⟩ := hi i (by omega)
      obtain ⟨b, hb, _⟩ := DataW.trod_bool Tryd.underlying4 h2
      simp only [List.cons.injEq, and_true] at hb
      exact ⟨b, by rw [h1, hb]⟩
    refine ⟨(List.range len).map F, some a, cap, by simp [hc], fun j hj => ?_⟩
    simp only [List.length_map, List.length_range] at hj
    obtain ⟨b, off, rfl, h2⟩ := plain_addr (hF 0 (by omega))
    exact ⟨b, off, rfl, by rw [← h2, hF j hj]; simp⟩
theorem open_losses {fuel : Nat} {v : Value} {x : DataW H × List MemPlace} (h : DataW.trod enc Tryd.prog w base spare held fuel 49 [v] = some x) (hw : ∀ n ∈ x.1.weights Tryd.prog 49, n ≤ reachBytes) :
    ∃ l, Losses w v l := by
  rcases open_slice_fields Tryd.underlying49 Tryd.underlying53 (by kernel_rfl) (by kernel_rfl) h with ⟨hc, _⟩ | ⟨a, len, cap, m, D, Pl, hc, _, hl, _, hm, hx, hi⟩
  · simp at hc
    exact ⟨[], none, 0, hc, Nat.zero_le _, fun x hx => by simp at hx, fun j hj => by simp at hj⟩
  · simp at hc
    have hle : len ≤ m := by rw [hm]; split <;> omega
    have key : ∀ i, i < len → ∃ X : LossW, LossIn w X ∧ w.cell? (a.add (i * 2)) = some (.int .i64 X.n) ∧ w.cell? (a.add (i * 2 + 1)) = some X.keep := by
      intro i hil
      obtain ⟨ys, n, hD, _, _, hf⟩ := hi i (by omega)
      obtain ⟨v0, y0, hc0, _, t0⟩ := hf 0 _ rfl
      obtain ⟨v1, y1, hc1, hy1, t1⟩ := hf 1 _ rfl
      obtain ⟨n0, e0, _, w0⟩ := DataW.trod_int Tryd.underlying3 t0
      simp only [List.cons.injEq, and_true] at e0
      subst e0
      obtain ⟨ks, hks, h64, hlen⟩ := open_nums t1
      refine ⟨⟨n0, v1, ks⟩, ⟨bounds_i64 w0, hks, h64, ?_⟩, hc0, hc1⟩
      simp only
      rcases hlen with rfl | ⟨es, sp, hy, hle2⟩
      · exact Nat.zero_le _
      · have h1 : (es.length + sp.length) * Tryd.prog.bytesOf 3 ∈ DataW.weights Tryd.prog 51 y1.1 := by rw [hy]; simp [DataW.weights, Tryd.underlying51]
        have h2 : (es.length + sp.length) * Tryd.prog.bytesOf 3 ∈ DataW.weights Tryd.prog 53 (D i) := by
          rw [hD]
          simp only [DataW.weights, Tryd.underlying53]
          exact DataW.weights_mem_each (j := 1) (t := 51) (d := y1.1) rfl (by simp [hy1]) _ h1
        have h3 : (es.length + sp.length) * Tryd.prog.bytesOf 3 ∈ x.1.weights Tryd.prog 49 := by
          rw [hx]
          simp only [DataW.weights, Tryd.underlying49]
          refine List.mem_cons_of_mem _ (List.mem_append.2 (.inl (weights_mem_all ?_ _ h2)))
          exact List.mem_map.2 ⟨i, by simpa using hil, rfl⟩
        have h4 := hw _ h3
        rw [show Tryd.prog.bytesOf 3 = 8 by kernel_rfl] at h4
        have := reachBytes_lt
        omega
    obtain ⟨F, hF⟩ : ∃ F : Nat → LossW, ∀ i, i < len → LossIn w (F i) ∧ w.cell? (a.add (i * 2)) = some (.int .i64 (F i).n) ∧ w.cell? (a.add (i * 2 + 1)) = some (F i).keep := by
      haveI : Inhabited LossW := ⟨⟨0, .nilIface, []⟩⟩
      exact choose_lt key
    refine ⟨(List.range len).map F, some a, cap, by simp [hc], by simpa using hl, fun x hx => ?_, fun j hj => ?_⟩
    · obtain ⟨i, hi2, rfl⟩ := List.mem_map.1 hx
      exact (hF i (by simpa using hi2)).1
    · simp only [List.length_map, List.length_range] at hj
      obtain ⟨b, off, rfl, h2⟩ := plain_addr (hF 0 (by omega)).2.1
      have := (hF j hj).2
      rw [h2, h2] at this
      exact ⟨b, off, rfl, by simpa using this.1, by simpa [Nat.add_assoc] using this.2⟩
end
end Go.Proofs.YtklcpckjmncdkaaDoor
