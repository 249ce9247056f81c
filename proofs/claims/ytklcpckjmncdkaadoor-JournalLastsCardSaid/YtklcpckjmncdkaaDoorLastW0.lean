/- THE WALK of the statement JournalLasts: what is in hand. -/
import Derived.Test.YtklcpckjmncdkaaDoorApp2
import Derived.Test.YtklcpckjmncdkaaDoorLastLaw
import Derived.Test.YtklcpckjmncdkaaDoorAnyW
import Derived.Test.YtklcpckjmncdkaaDoorOpens
import Derived.Deep.DeepCutAuto
namespace Go.Proofs.YtklcpckjmncdkaaDoor
set_option maxRecDepth 100000
open Go.RowKit

/-- A slice of bools. -/
def Bools (w : World) (v : Value) (l : List Bool) : Prop :=
  ∃ A c, v = .slice A l.length c ∧ ∀ j (h : j < l.length), ∃ b off, A = some ⟨b, off, none⟩ ∧ w.cell? ⟨b, off + j, none⟩ = some (.bool l[j])
/-- A loss of power, in memory. -/
structure LossW where
  n : Int
  keep : Value
  ks : List Int
structure LossIn (w : World) (x : LossW) : Prop where
  n : I64 x.n
  keep : IntsA w x.keep x.ks
  each : ∀ k ∈ x.ks, I64 k
  len : x.ks.length ≤ 17592186044416
/-- A slice of losses. -/
def Losses (w : World) (v : Value) (l : List LossW) : Prop :=
  ∃ A c, v = .slice A l.length c ∧ l.length ≤ c ∧ (∀ x ∈ l, LossIn w x) ∧ ∀ j (h : j < l.length), ∃ b off, A = some ⟨b, off, none⟩ ∧ w.cell? ⟨b, off + j * 2, none⟩ = some (.int .i64 l[j].n) ∧ w.cell? ⟨b, off + j * 2 + 1, none⟩ = some l[j].keep
theorem new_qdo : Dk.new 1048576 = qdo 0 strE strE := rfl
theorem head_new : HeadOk (Dk.new 1048576).on [] [] 0 := by
  have je : jread strE = Img.none_ := jread_empty rfl
  exact ⟨1, 0, 0, strE, strE, rfl, .inl ⟨rfl, rfl, rfl, by show (jread strE).gen = 0; rw [je]; rfl, by show (jread strE).gen = 0; rw [je]; rfl⟩, Nat.le_refl _, Nat.le_refl _, Nat.le_refl _, by decide, by decide⟩
theorem HeadOk.mono {D : Dk} {lasted since : List ByteArray} {n m : Nat} (h : HeadOk D lasted since n) (hm : n ≤ m) : HeadOk D lasted since m := by
  obtain ⟨f, gen, k, x, y, h1, h2, h3, h4, h5, h6, h7⟩ := h
  exact ⟨f, gen, k, x, y, h1, h2, h3, h4, by omega, h6, h7⟩
theorem HeadOk.asks {D : Dk} {lasted since : List ByteArray} {n : Nat} (h : HeadOk D lasted since n) : D = Dk.doCut D 0 [] := by
  obtain ⟨f, gen, k, x, y, rfl, h2, _⟩ := h
  rcases h2.file with rfl | rfl <;> rfl
theorem StrsAt.take {w : World} {B k n c : Nat} {A : Option Addr} {l : List ByteArray} (h : StrsAt w B (.slice A n c) l) (hk : k ≤ l.length) : StrsAt w B (.slice A k c) (l.take k) := by
  obtain ⟨A', c', hv, h1, h2, h3⟩ := h
  injection hv with e1 e2 e3
  subst e1; subst e3
  have hl : (l.take k).length = k := by rw [List.length_take]; omega
  refine ⟨A, c, by rw [hl], by omega, h2, fun hc => ?_⟩
  obtain ⟨b, off, cs, hA, hb, hh, ho, hcell⟩ := h3 hc
  exact ⟨b, off, cs, hA, hb, hh, ho, fun j hj => by rw [hcell j (by rw [hl] at hj; omega)]; simp⟩
theorem Short.nil : Short [] := ⟨Nat.zero_le _, fun r h => by simp at h⟩
theorem Short.add {a b : List ByteArray} {x : ByteArray} (h : Short (a ++ b)) (hx : x.size ≤ 100) (hl : (a ++ b).length < 40) : Short (a ++ (b ++ [x])) := by
  rw [← List.append_assoc]
  refine ⟨by rw [List.length_append]; simp only [List.length_cons, List.length_nil]; omega, fun r hr => ?_⟩
  rcases List.mem_append.1 hr with h1 | h1
  · exact h.each r h1
  · rw [List.mem_singleton.1 h1]; exact hx
theorem Short.take {l : List ByteArray} (h : Short l) (k : Nat) : Short (l.take k) := ⟨by rw [List.length_take]; have := h.len; omega, fun r hr => h.each r (List.mem_of_mem_take hr)⟩
end Go.Proofs.YtklcpckjmncdkaaDoor
