/- THE WALKS of slices.IndexFunc and slices.Delete at flights; the sender's over. -/
import Derived.Test.YtcepfhnlbnlnhaaGreatDoorOut5
namespace Go.Proofs.YtcepfhnlbnlnhaaGreatDoor
set_option maxRecDepth 100000
open Go.RowKit

section
variable {w : World}
set_option maxHeartbeats 1600000 in
theorem is_it (f : Fl) (pb : Nat) (id : Int) (h : w.cell? ⟨pb, 4, none⟩ = some (.int .i64 id)) : Calls Tryz.prog 35 #[.agg f.enc, .pointer (some ⟨pb, 0, none⟩)] w fun e w' => e = .returned (.bool (f.id == id)) ∧ Chg w w' [] := by
  obtain ⟨fid, ⟨mt, mbb, mq⟩, rel⟩ := f
  have hlt := World.block_lt_of_cell? w _ h
  have hc1 : Chg w (w.alloc (.cells (Fl.enc ⟨fid, ⟨mt, mbb, mq⟩, rel⟩) 66)) [] := (Chg.refl w []).alloc _
  have h1 := hc1.cell h (by simp)
  have HC := Lib.hid hc1
  clear hc1
  unfold Fl.enc at h1 ⊢
  go_enter Tryz.func35, Tryz.ntmps35
  go_wp2_with fail
  go_ret
  exact ⟨rfl, HC.out⟩
set_option maxHeartbeats 3200000 in
theorem index_fl {v : Value} {l : List Fl} (h : RowOf Fl.enc 7 w v l) (hl : l.length ≤ 1000) (pb : Nat) (id : Int) (hp : w.cell? ⟨pb, 4, none⟩ = some (.int .i64 id)) (i : Nat) (hi : i < l.length) (he : l[i].id = id) (hn : ∀ k (hk : k < l.length), k < i → l[k].id ≠ id) :
    Calls Tryz.prog 34 #[v, .func (.func 35) #[] #[.pointer (some ⟨pb, 0, none⟩)]] w fun e w' => e = .returned (.int .i64 (i : Int)) ∧ Chg w w' [] := by
  obtain ⟨A, c, rfl, hA, hc1, hc2⟩ := h.slice
  have HR := Lib.hid h
  have HP := Lib.hid hp
  have HE := Lib.hid he
  have HN := Lib.hid hn
  clear h hp he hn
  go_enter Tryz.func34, Tryz.ntmps34
  go_wp2_with fail
  go_loopw [8] (fun iv wr => ∃ k : Nat, iv = .int .i64 (k : Int) ∧ k ≤ i ∧ Chg w wr []) (fun iv _ => l.length - (intOf iv).toNat)
  case atStart => exact ⟨0, rfl, Nat.zero_le _, Chg.refl _ _⟩
  case round =>
    obtain ⟨k, rfl, hk, hc⟩ := hrel
    have HC := Lib.hid hc
    have hr := HR.out.chg hc (by simp)
    have hkl : k < l.length := by omega
    have i1 : (k : Int) < (l.length : Int) := by omega
    obtain ⟨g, off, cap, hv, _, _, _, hra, _⟩ := hr.at_ Fl.size hkl
    obtain ⟨rfl, rfl⟩ : A = some ⟨g, off, none⟩ ∧ c = cap := by simpa using hv
    obtain ⟨a0, a1, a2, a3, a4, a5, a6⟩ := fl_at hra
    have hpw := hc.cell HP.out (by simp)
    have hid : l[k].id = id ↔ k = i := ⟨fun e => by
      rcases Nat.lt_or_ge k i with h | h
      · exact absurd e (HN.out k hkl h)
      · omega, fun e => by subst e; exact HE.out⟩
    have HId := Lib.hid hid
    clear hid hr hra hc hv
    generalize hf : l[k] = f at *
    obtain ⟨fid, ⟨mt, mbb, mq⟩, rel⟩ := f
    have HF := Lib.hid hf
    clear hf
    dsimp only at a0 a1 a2 a3 a6
    go_wp2_with fail
    refine (is_it ⟨fid, ⟨mt, mbb, mq⟩, rel⟩ pb id hpw).mono ?_
    rintro e w2 ⟨rfl, hc3⟩
    have HC2 := Lib.hid (HC.out.trans hc3 fun b hb => by simp at hb)
    clear hc3
    by_cases hki : k = i
    · have hb : (fid == id) = true := by simpa using HId.out.2 hki
      have HKI := Lib.hid hki
      clear hki
      go_wp2_with fail
      go_ret
      exact ⟨by rw [← HKI.out]; rfl, HC2.out⟩
    · have hb : (fid == id) = false := by simpa using fun e => hki (HId.out.1 e)
      have HKI := Lib.hid hki
      clear hki
      go_wp2_with fail
      exact ⟨⟨k + 1, by go_num, by have := HKI.out; omega, HC2.out⟩, by simp [intOf]; omega⟩
/-- One element of a row is struck. -/
theorem QRow.cut {w : World} {size n : Nat} {g off cap : Nat} {a b c : List Value} (h : QRow w size (.slice (some ⟨g, off, none⟩) (n + 1) cap) (n + 1) (a ++ b ++ c)) {i : Nat} (ha : a.length = i * size) (hb : b.length = size) {W : World} {z : List Value} (hz : z.length = size)
    (hW : W = (w.setCells g (off + a.length) c).setCells g (off + a.length + c.length) z) : QRow W size (.slice (some ⟨g, off, none⟩) n cap) n (a ++ c) := by
  obtain ⟨g', off', cap', hv, h1, h2, h3, h4, h5⟩ := QRow.form h (by omega)
  obtain ⟨⟨rfl, rfl⟩, rfl⟩ : (g = g' ∧ off = off') ∧ cap = cap' := by simpa using hv
  have hl := h.1
  simp only [List.length_append, hb, Nat.succ_mul] at hl
  have hcap : (n + 1) * size ≤ cap * size := Nat.mul_le_mul_right _ h1
  rw [Nat.succ_mul] at hcap
  refine ⟨by rw [List.length_append]; omega, .inr ⟨g, off, cap, rfl, by omega, h2, ?_, ?_, ?_⟩⟩
  · rw [hW]
    refine World.rangeAt_setCells_apart ?_ g (off + a.length + c.length) z (.inr (.inl (by rw [List.length_append]; omega)))
    intro j u hu
    by_cases hj : j < a.length
    · rw [List.getElem?_append_left hj] at hu
      have h3a : w.rangeAt g off a := fun j u hu => h3 j u (by rw [List.append_assoc, List.getElem?_append_left (List.getElem?_eq_some_iff.1 hu).1]; exact hu)
      exact World.rangeAt_setCells_apart h3a g (off + a.length) c (.inr (.inl (Nat.le_refl _))) j u hu
    · rw [List.getElem?_append_right (by omega)] at hu
      have := World.rangeAt_setCells_same w g (off + a.length) c (fun k hk => by
        have := h4 (a.length + k) (by omega)
        rwa [← Nat.add_assoc] at this) (j - a.length) u hu
      rwa [show off + a.length + (j - a.length) = off + j by omega] at this
  · rw [hW]
    exact World.there_setCells (World.there_setCells h4 _ _ _) _ _ _
  · rw [hW]
    exact Nat.lt_of_lt_of_le h5 (Nat.le_trans (Chg.cells g c (off + a.length) w).size (Chg.cells g z (off + a.length + c.length) _).size)
end
end Go.Proofs.YtcepfhnlbnlnhaaGreatDoor
