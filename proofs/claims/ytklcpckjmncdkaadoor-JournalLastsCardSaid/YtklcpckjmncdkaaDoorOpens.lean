/- ARGUMENTS OPENED: slices of texts and of ints, and how long they are at most. -/
import Derived.Test.YtklcpckjmncdkaaDoorCompW
import Derived.Test.YtklcpckjmncdkaaDoorDoor
import Derived.SliceStrings
import Derived.SizedLaws
import Derived.Lib.SmallJoins
import Derived.ChangeSlices
namespace Go.Proofs.YtklcpckjmncdkaaDoor
set_option maxRecDepth 100000
open Go.ChangeShapes Go.WideShapes Go.Deep Go.Joins Go.RowKit

theorem plain_addr {w : World} {a : Addr} {u : Value} (h : w.cell? (a.add 0) = some u) : ∃ b off, a = ⟨b, off, none⟩ ∧ ∀ k, a.add k = ⟨b, off + k, none⟩ := by
  have hs := World.cell?_spot h
  rw [show a.add 0 = a from rfl] at hs
  obtain ⟨b, off, sp⟩ := a
  simp only at hs
  subst hs
  exact ⟨b, off, rfl, fun k => add_off b off k⟩
section
variable {H : Type} {enc : TypeId × Value → H} {w : World} {base : Nat} {spare : Nat → Bool} {held : Bool}
theorem open_strs {fuel : Nat} {v : Value} {x : DataW H × List MemPlace} (h : DataW.trod enc Tryd.prog w base spare held fuel 23 [v] = some x) :
    ∃ l, Strs w v l ∧ ∀ t ∈ l, t.size ≤ maxLen := by
  rcases open_strings Tryd.underlying23 Tryd.underlying9 (by kernel_rfl) h with ⟨hc, _⟩ | ⟨a, len, cap, ss, hc, _, hl, hm, hz, _, hcell, hwf⟩
  · simp at hc
    exact ⟨[], ⟨none, 0, hc, Nat.zero_le _, fun j hj => by simp at hj⟩, fun t ht => by simp at ht⟩
  · simp at hc
    have hle : len ≤ ss.length := by rw [hz]; split <;> omega
    refine ⟨ss.take len, ⟨some a, cap, by rw [hc, List.length_take, Nat.min_eq_left hle], by rw [List.length_take]; omega, fun j hj => ?_⟩, fun t ht => hwf t (List.mem_of_mem_take ht)⟩
    rw [List.length_take] at hj
    have hcj := hcell j (by omega)
    obtain ⟨b, off, rfl, h2⟩ := plain_addr (hcell 0 (by omega))
    refine ⟨b, off, rfl, ?_⟩
    rw [← h2, hcj]
    simp [List.getD, List.getElem?_eq_getElem (show j < ss.length by omega)]
theorem open_nums {fuel : Nat} {v : Value} {x : DataW H × List MemPlace} (h : DataW.trod enc Tryd.prog w base spare held fuel 51 [v] = some x) :
    ∃ l, IntsA w v l ∧ (∀ k ∈ l, I64 k) ∧ (l = [] ∨ ∃ es sp, x.1 = .slice es sp ∧ l.length = es.length) := by
  rcases open_ints Tryd.underlying51 Tryd.underlying3 (by kernel_rfl) h with ⟨hc, _⟩ | ⟨a, len, cap, zs, hc, _, hl, hm, hz, hx, hcell, hwf⟩
  · simp at hc
    exact ⟨[], ⟨none, 0, hc, fun j hj => by simp at hj⟩, fun t ht => by simp at ht, .inl rfl⟩
  · simp at hc
    have hle : len ≤ zs.length := by rw [hz]; split <;> omega
    refine ⟨zs.take len, ⟨some a, cap, by rw [hc, List.length_take, Nat.min_eq_left hle], fun j hj => ?_⟩, fun k hk => bounds_i64 (hwf k (List.mem_of_mem_take hk)), .inr ⟨_, _, by rw [hx], by simp [lits]⟩⟩
    rw [List.length_take] at hj
    have hcj := hcell j (by omega)
    obtain ⟨b, off, rfl, h2⟩ := plain_addr (hcell 0 (by omega))
    refine ⟨b, off, rfl, ?_⟩
    rw [← h2, hcj]
    simp [List.getD, List.getElem?_eq_getElem (show j < zs.length by omega)]
end
section
variable {H : Type} {P : Program} {ts : List TypeId} {ds : List (DataW H)}
theorem sized_agg (h : (DataW.weightsEach P ts ds).all (· ≤ reachBytes) = true) {j : Nat} {t : TypeId} {parts : List (DataW H)} {fs : Array Field} (ht : ts[j]? = some t) (hd : ds[j]? = some (.agg parts)) (hu : P.underlying t = some (.struct fs)) :
    (DataW.weightsEach P (fs.toList.map (·.type)) parts).all (· ≤ reachBytes) = true :=
  List.all_eq_true.2 fun n hn => List.all_eq_true.1 h n (DataW.weights_mem_each ht hd n (by simp only [DataW.weights, hu]; exact hn))
end
end Go.Proofs.YtklcpckjmncdkaaDoor
