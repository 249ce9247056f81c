/- ROWS OF PACKETS in memory: 26 cells each, their subscriptions apart. -/
import Derived.Test.YtcepfhnlbnlnhaaDoorSplit
import Derived.Test.YtcepfhnlbnlnhaaDoorReads8
namespace Go.Proofs.YtcepfhnlbnlnhaaDoor
set_option maxRecDepth 100000
open Go.RowKit

def rowsOf (ps : List Pk) (vs : List Value) : List Value := (List.zipWith (fun (p : Pk) v => (p.cells v).toList) ps vs).flatten
theorem cells_size (p : Pk) (v : Value) : (p.cells v).size = 26 := by cases p <;> rfl
theorem cells_len (p : Pk) (v : Value) : (p.cells v).toList.length = 26 := by rw [Array.length_toList, cells_size]
theorem cells_one (p : Pk) (A : Option Addr) (l c : Nat) : (p.cells (.slice A l c)).all (·.oneCell') = true := by
  cases p <;> exact pk_one _ _ _ _ _ _ _ _
theorem rowsOf_append {ps qs : List Pk} {vs us : List Value} (h : vs.length = ps.length) : rowsOf (ps ++ qs) (vs ++ us) = rowsOf ps vs ++ rowsOf qs us := by
  unfold rowsOf
  rw [List.zipWith_append h.symm, List.flatten_append]
theorem rowsOf_cons (p : Pk) (ps : List Pk) (v : Value) (vs : List Value) : rowsOf (p :: ps) (v :: vs) = (p.cells v).toList ++ rowsOf ps vs := by
  simp [rowsOf]
theorem rowsOf_one (p : Pk) (v : Value) : rowsOf [p] [v] = (p.cells v).toList := by simp [rowsOf]
theorem rowsOf_len : ∀ (ps : List Pk) (vs : List Value), vs.length = ps.length → (rowsOf ps vs).length = ps.length * 26
  | [], [], _ => rfl
  | [], v :: vs, h => by simp at h
  | p :: ps, [], h => by simp at h
  | p :: ps, v :: vs, h => by
    rw [rowsOf_cons, List.length_append, cells_len, rowsOf_len ps vs (by simpa using h), List.length_cons]
    omega
theorem rowsOf_at : ∀ (ps : List Pk) (vs : List Value) (k : Nat) (p : Pk) (v : Value) (j : Nat), vs.length = ps.length → ps[k]? = some p → vs[k]? = some v → j < 26 → (rowsOf ps vs)[k * 26 + j]? = (p.cells v).toList[j]?
  | [], _, _, _, _, _, _, h, _, _ => by simp at h
  | _ :: _, [], _, _, _, _, h, _, _, _ => by simp at h
  | p :: ps, v :: vs, 0, p', v', j, h, hp, hv, hj => by
    obtain rfl : p = p' := by simpa using hp
    obtain rfl : v = v' := by simpa using hv
    rw [rowsOf_cons, List.getElem?_append_left (by rw [cells_len]; omega)]
    congr 1
    omega
  | p :: ps, v :: vs, k + 1, p', v', j, h, hp, hv, hj => by
    rw [rowsOf_cons, List.getElem?_append_right (by rw [cells_len]; omega), cells_len, show (k + 1) * 26 + j - 26 = k * 26 + j by omega]
    exact rowsOf_at ps vs k p' v' j (by simpa using h) (by simpa using hp) (by simpa using hv) hj
theorem rowsOf_one_cell : ∀ (ps : List Pk) (vs : List Value), (∀ v ∈ vs, ∃ A l c, v = .slice A l c) → ∀ u ∈ rowsOf ps vs, u.oneCell' = true
  | [], vs, _, u, h => by simp [rowsOf] at h
  | p :: ps, [], _, u, h => by simp [rowsOf] at h
  | p :: ps, v :: vs, hv, u, h => by
    rw [rowsOf_cons] at h
    obtain ⟨A, l, c, rfl⟩ := hv v (by simp)
    rcases List.mem_append.1 h with h | h
    · exact one_mem (cells_one p A l c) u h
    · exact rowsOf_one_cell ps vs (fun v hm => hv v (by simp [hm])) u h
/-! ### Subscriptions, kept -/
theorem SubsAt.keep {w w' : World} {B : Nat} {v : Value} {o : Option (ByteArray × Nat)} (h : SubsAt w B v o) {row : Option Nat} (hg : w.grownBy w' row) (hB : v.ownBlock = none ∨ v.ownBlock ≠ row) : SubsAt w' B v o := by
  cases o with
  | none => exact h
  | some x =>
    have h0 : OneSub w B v x.1 x.2 := h
    exact World.ownsRow.kept h0 hg hB
theorem SubsAt.own {w : World} {B : Nat} {v : Value} {o : Option (ByteArray × Nat)} (h : SubsAt w B v o) {g : Nat} (hg : v.ownBlock = some g) : B ≤ g ∧ g < w.heap.size := by
  cases o with
  | none =>
    have h0 : v = .slice none 0 0 := h
    rw [h0] at hg; simp [Value.ownBlock] at hg
  | some x =>
    have h0 : OneSub w B v x.1 x.2 := h
    rcases h0.2 with ⟨rfl, hn⟩ | ⟨g', cap, cur, rfl, hb, hh, _⟩
    · simp at hn
    · have : g' = g := by simpa [Value.ownBlock] using hg
      subst this
      exact ⟨hb, (Array.getElem?_eq_some_iff.1 hh).1⟩
/-- A row of packets of the call's own, the values of their subscriptions told. -/
def PRowV (w : World) (B : Nat) (v : Value) (ps : List Pk) (vs : List Value) : Prop :=
  vs.length = ps.length ∧ w.ownsRow B 37 26 v ps.length (rowsOf ps vs) ∧
    ∀ (k : Nat) (p : Pk) (sv : Value), ps[k]? = some p → vs[k]? = some sv → (∃ A l c, sv = .slice A l c) ∧ SubsAt w B sv p.subs ∧ (∀ g, sv.ownBlock = some g → v.ownBlock ≠ some g)
def PRow (w : World) (B : Nat) (v : Value) (ps : List Pk) : Prop := ∃ vs, PRowV w B v ps vs
theorem PRow.nil (w : World) (B : Nat) : PRow w B (.slice none 0 0) [] := ⟨[], rfl, World.ownsRow_nil _ _ _ _, fun k p sv h _ => by simp at h⟩
theorem PRowV.own {w : World} {B : Nat} {v : Value} {ps : List Pk} {vs : List Value} (h : PRowV w B v ps vs) {g : Nat} (hg : v.ownBlock = some g) : B ≤ g ∧ g < w.heap.size := by
  rcases h.2.1.2 with ⟨rfl, _⟩ | ⟨g', cap, cur, rfl, hb, hh, _⟩
  · simp [Value.ownBlock] at hg
  · have : g' = g := by simpa [Value.ownBlock] using hg
    subst this
    exact ⟨hb, (Array.getElem?_eq_some_iff.1 hh).1⟩
theorem PRowV.keep {w w' : World} {B : Nat} {v : Value} {ps : List Pk} {vs : List Value} (h : PRowV w B v ps vs) {row : Option Nat} (hg : w.grownBy w' row) (hr : ∀ g, row = some g → g < B) : PRowV w' B v ps vs := by
  refine ⟨h.1, World.ownsRow.kept h.2.1 hg ?_, fun k p sv hp hv => ?_⟩
  · by_cases h0 : v.ownBlock = none
    · exact .inl h0
    · refine .inr fun e => ?_
      obtain ⟨g, hgv⟩ := Option.ne_none_iff_exists'.1 h0
      have := hr g (by rw [← e, hgv])
      have := (h.own hgv).1
      omega
  · obtain ⟨h1, h2, h3⟩ := h.2.2 k p sv hp hv
    refine ⟨h1, h2.keep hg ?_, h3⟩
    by_cases h0 : sv.ownBlock = none
    · exact .inl h0
    · refine .inr fun e => ?_
      obtain ⟨g, hgv⟩ := Option.ne_none_iff_exists'.1 h0
      have := hr g (by rw [← e, hgv])
      have := (h2.own hgv).1
      omega
theorem PRow.kept {w w' : World} {B : Nat} {v : Value} {ps : List Pk} (h : PRow w B v ps) (hg : w.grownBy w' none) : PRow w' B v ps := by
  obtain ⟨vs, h⟩ := h
  exact ⟨vs, h.keep hg (by simp)⟩
theorem PRow.keep {w w' : World} {B : Nat} {v : Value} {ps : List Pk} (h : PRow w B v ps) {g : Nat} (hg : w.grownBy w' (some g)) (hB : g < B) : PRow w' B v ps := by
  obtain ⟨vs, h⟩ := h
  exact ⟨vs, h.keep hg (by intro g' e; simp at e; omega)⟩
theorem PRow.mono {w : World} {B B' : Nat} {v : Value} {ps : List Pk} (h : PRow w B v ps) (hB : B' ≤ B) : PRow w B' v ps := by
  obtain ⟨vs, h1, h2, h3⟩ := h
  refine ⟨vs, h1, ⟨h2.1, h2.2.imp id ?_⟩, fun k p sv hp hv => ?_⟩
  · rintro ⟨g', cap, cur, hv, hb, rest⟩
    exact ⟨g', cap, cur, hv, Nat.le_trans hB hb, rest⟩
  · obtain ⟨a, b, c⟩ := h3 k p sv hp hv
    exact ⟨a, b.mono hB, c⟩
/-- More packets behind a row: what 'append' leaves. -/
theorem PRowV.join {w w6 w7 : World} {B B' : Nat} {v : Value} {ps qs : List Pk} {vs us : List Value} (h : PRowV w B v ps vs) (hg : w.grownBy w6 none) (hl : us.length = qs.length)
    (hq : ∀ (k : Nat) (p : Pk) (sv : Value), qs[k]? = some p → us[k]? = some sv → (∃ A l c, sv = .slice A l c) ∧ SubsAt w6 B' sv p.subs) (hB' : w.heap.size ≤ B') (hB : B ≤ w.heap.size) {g1 cap n : Nat}
    (hown : w7.ownsRow B 37 26 (.slice (some ⟨g1, 0, none⟩) (ps.length + qs.length) cap) (ps.length + qs.length) (rowsOf ps vs ++ rowsOf qs us)) (hk : w6.grownBy w7 v.ownBlock) (hat : v.ownBlock = some g1 ∨ g1 = n) (hn : w6.heap.size ≤ n) :
    PRowV w7 B (.slice (some ⟨g1, 0, none⟩) (ps.length + qs.length) cap) (ps ++ qs) (vs ++ us) := by
  refine ⟨by simp [h.1, hl], ?_, fun k p sv hp hv => ?_⟩
  · rw [rowsOf_append h.1, List.length_append]; exact hown
  · by_cases hkl : k < ps.length
    · rw [List.getElem?_append_left hkl] at hp
      rw [List.getElem?_append_left (by rw [h.1]; exact hkl)] at hv
      obtain ⟨h1, h2, h3⟩ := h.2.2 k p sv hp hv
      have h2' := h2.keep hg (by cases sv.ownBlock <;> simp)
      have hne : sv.ownBlock = none ∨ sv.ownBlock ≠ v.ownBlock := by
        by_cases h0 : sv.ownBlock = none
        · exact .inl h0
        · obtain ⟨g, hgv⟩ := Option.ne_none_iff_exists'.1 h0
          exact .inr fun e => h3 g hgv (by rw [← e, hgv])
      refine ⟨h1, h2'.keep hk hne, fun g hgv e => ?_⟩
      have eg : g1 = g := by simpa [Value.ownBlock] using e
      subst eg
      rcases hat with hat | hat
      · exact h3 g1 hgv hat
      · have := (h2.own hgv).2
        have := hg.size
        omega
    · rw [List.getElem?_append_right (by omega)] at hp
      rw [List.getElem?_append_right (by rw [h.1]; omega), h.1] at hv
      obtain ⟨h1, h2⟩ := hq _ p sv hp hv
      have hne : ∀ g, sv.ownBlock = some g → v.ownBlock ≠ some g := fun g hgv e => by
        have := (h2.own hgv).1
        have := (h.own e).2
        omega
      have hne2 : sv.ownBlock = none ∨ sv.ownBlock ≠ v.ownBlock := by
        by_cases h0 : sv.ownBlock = none
        · exact .inl h0
        · obtain ⟨g, hgv⟩ := Option.ne_none_iff_exists'.1 h0
          exact .inr fun e => hne g hgv (by rw [← e, hgv])
      refine ⟨h1, (h2.keep hk hne2).mono (by omega), fun g hgv e => ?_⟩
      have eg : g1 = g := by simpa [Value.ownBlock] using e
      subst eg
      rcases hat with hat | hat
      · exact hne g1 hgv hat
      · have := (h2.own hgv).2
        omega
end Go.Proofs.YtcepfhnlbnlnhaaDoor
