/- THE WALK of slices.Delete at flights. -/
import Derived.Test.YtcepfhnlbnlnhaaGreatDoorOut6
import Derived.Deep.RegionLaw
namespace Go.Proofs.YtcepfhnlbnlnhaaGreatDoor
set_option maxRecDepth 100000
open Go.RowKit

def zFl : Fl := ⟨0, ⟨⟨#[]⟩, ⟨#[]⟩, 0⟩, false⟩
section
variable {w : World}
theorem zero_fl (w : World) : (zeroValue 66).run Tryz.prog w = .ok (.agg zFl.enc) w := by kernel_rfl
theorem run_clear_fl (w : World) (ty : TypeId) (b o c : Nat) (ht : w.there b o 7) :
    (Builtin.clear_ #[40] ty #[.slice (some ⟨b, o, none⟩) 1 c]).run Tryz.prog w = .ok (.tuple #[]) (w.setCells b o zFl.enc.toList) := by
  obtain ⟨z, hz⟩ : ∃ z, z = zFl.enc := ⟨_, rfl⟩
  have hz0 : ∀ w, (zeroValue 66).run Tryz.prog w = .ok (.agg z) w := fun w => by rw [hz]; exact zero_fl w
  have hzc : (Builtin.zeroCells z 1).toList = z.toList := by rw [hz]; kernel_rfl
  have hzs : z.size = 7 := by rw [hz]; rfl
  have hz1 : ∀ u ∈ z.toList, u.oneCell' = true := by rw [hz]; exact one_list zFl.one
  rw [← hz]
  clear hz
  have hst := run_storeCells_cells (P := Tryz.prog) b o z.toList 0 w (by intro j hj; exact (ht j (by simpa [hzs] using hj)).1) (by intro j hj; exact (ht j (by simpa [hzs] using hj)).2) (by simpa using hz1)
  simp only [Nat.add_zero] at hst
  simp [Builtin.clear_, run_underlying Tryz.underlying40, hz0, Value.cells, hzc, hst]
set_option maxHeartbeats 3200000 in
theorem delete_fl {g off cap n : Nat} {l : List Fl} (hr : RowOf Fl.enc 7 w (.slice (some ⟨g, off, none⟩) (n + 1) cap) l) (hn : l.length = n + 1) (i : Nat) (hi : i < n + 1) (hl : n ≤ 1000) :
    Calls Tryz.prog 54 #[.slice (some ⟨g, off, none⟩) (n + 1) cap, .int .i64 (i : Int), .int .i64 ((i : Int) + 1)] w fun e w' => e = .returned (.slice (some ⟨g, off, none⟩) n cap) ∧ RowOf Fl.enc 7 w' (.slice (some ⟨g, off, none⟩) n cap) (l.eraseIdx i) ∧ Chg w w' [g] := by
  have HR := Lib.hid hr
  obtain ⟨g', off', cap', hv, h1, h2, h3, h4, h5⟩ := QRow.form hr (by omega)
  obtain ⟨⟨rfl, rfl⟩, -, rfl⟩ : (g = g' ∧ off = off') ∧ n + 1 = l.length ∧ cap = cap' := by simpa using hv
  rw [hn] at h1
  have HN := Lib.hid hn
  have i1 : (i : Int) ≤ (i : Int) + 1 := by omega
  have i2 : (i : Int) + 1 ≤ (n : Int) + 1 := by omega
  have i4 : (i : Int) ≤ (n : Int) := by omega
  have i3 : ¬ (i : Int) = (i : Int) + 1 := by omega
  clear hr hv h3 h4 hn
  go_enter Tryz.func54, Tryz.ntmps54
  go_wp2_with fail
  have j1 : (i : Int) ≤ (cap : Int) := by omega
  have j2 : (i : Int) + 1 ≤ (cap : Int) := by omega
  have j3 : (0 : Int) ≤ (i : Int) + 1 := by omega
  have j4 : ((i : Int) + 1).toNat = i + 1 := by omega
  obtain ⟨A2, hA2⟩ : ∃ A2 : Addr, (if cap = i + 1 then (some ⟨g, off, none⟩ : Option Addr) else some ⟨g, off + (i + 1) * 7, none⟩) = some A2 := by split <;> exact ⟨_, rfl⟩
  -- the cells that move to the left
  obtain ⟨e1, e2⟩ := flat_split Fl.enc Fl.size (l := l) (i := i) (by rw [HN.out]; exact hi)
  obtain ⟨news, hnews⟩ : ∃ news, news = flat Fl.enc (l.drop (i + 1)) := ⟨_, rfl⟩
  have hnl : news.length = (n - i) * 7 := by rw [hnews, flat_len Fl.enc Fl.size, List.length_drop, HN.out]; congr 1; omega
  obtain ⟨g', off', cap', hv, h1', h2', h3, h4, h5'⟩ := QRow.form HR.out (by rw [HN.out]; omega)
  obtain ⟨⟨rfl, rfl⟩, -, rfl⟩ : (g = g' ∧ off = off') ∧ n + 1 = l.length ∧ cap = cap' := by simpa using hv
  have hsrc : ∀ j u, news[j]? = some u → w.drew.cell? (A2.add j) = some u := by
    intro j u hu
    have hj := (List.getElem?_eq_some_iff.1 hu).1
    by_cases hc : cap = i + 1
    · have : news.length = 0 := by rw [hnl]; have : n - i = 0 := by omega
                                   rw [this]
      omega
    · rw [if_neg hc] at hA2
      obtain rfl := Option.some.inj hA2
      rw [Addr.add_mid]
      have := h3 (i * 7 + 7 + j) u (by rw [e1, List.getElem?_append_right (by rw [List.length_append, e2, Array.length_toList, Fl.size]; omega), List.length_append, e2, Array.length_toList, Fl.size, Nat.add_sub_cancel_left, ← hnews]; exact hu)
      rw [show off + (i + 1) * 7 + j = off + (i * 7 + 7 + j) by omega]
      exact this
  have hsp : ∀ j, j < news.length → (w.drew.cell? ⟨g, off + i * 7 + j, none⟩).isSome = true ∧ w.drew.frozen? ⟨g, off + i * 7 + j, none⟩ = false := by
    intro j hj
    rw [hnl] at hj
    have := h4 (i * 7 + j) (by omega)
    rwa [← Nat.add_assoc] at this
  have hone : ∀ u ∈ news, u.oneCell' = true := by rw [hnews]; exact flat_oneCell Fl.enc Fl.one _
  obtain ⟨ifl, hif, hf0, hf1, hf2⟩ := info_parts Tryz.infoFl
  have HS := Lib.hid hsrc
  have HSp := Lib.hid hsp
  have HOne := Lib.hid hone
  have HNews := Lib.hid hnews
  have HNL := Lib.hid hnl
  have H3 := Lib.hid h3
  have H4 := Lib.hid h4
  have HE1 := Lib.hid e1
  have HE2 := Lib.hid e2
  clear hsrc hsp hone hnews hnl h3 h4 e1 e2 hv
  have hcf : i + (n - i) = n := by omega
  have hmc : (n + 1 - (i + 1)) = n - i := by omega
  go_region_law (refine step_append_room (by rfl) (.tmp 22) (.tmp 25) 40 (by rfl) 66 ifl 7 Tryz.underlying40 hif hf1 g off i cap (by simp [Act.eval, Act.put]) A2 (n - i) (cap - (i + 1)) news (by simp [Act.eval, Act.put]) HNL.out HS.out HOne.out (by omega) HSp.out ?_)
  obtain ⟨W1, hW1⟩ : ∃ W1, W1 = w.drew.setCells g (off + i * 7) news := ⟨_, rfl⟩
  have hth : W1.there g (off + n * 7) 7 := by
    rw [hW1]
    refine World.there_setCells (fun j hj => ?_) _ _ _
    have hle : (n + 1) * 7 ≤ cap * 7 := Nat.mul_le_mul_right _ h1
    have := H4.out (n * 7 + j) (by omega)
    rwa [← Nat.add_assoc] at this
  have hclr := fun ty => run_clear_fl W1 ty g (off + n * 7) (cap - n) hth
  have hcn : ¬ cap = n := by omega
  have j5 : (n : Int) ≤ (n : Int) + 1 := by omega
  have j6 : (n : Int) + 1 ≤ (cap : Int) := by omega
  have j7 : (n : Int) ≤ (cap : Int) := by omega
  have j8 : n + 1 - n = 1 := by omega
  rw [← hW1]
  have HW1 := Lib.hid hW1
  clear hW1 hth
  go_wp2_with fail
  go_ret
  have hil : i < l.length := by rw [HN.out]; exact hi
  have hq : QRow w.drew 7 (.slice (some ⟨g, off, none⟩) (n + 1) cap) (n + 1) (flat Fl.enc (l.take i) ++ (Fl.enc (l[i]'hil)).toList ++ flat Fl.enc (l.drop (i + 1))) := by
    have := HR.out
    unfold RowOf at this
    rw [HN.out, HE1.out] at this
    exact this.chg (Chg.refl w []).drew (by simp)
  have hcl : (flat Fl.enc (l.drop (i + 1))).length = (n - i) * 7 := by rw [← HNews.out]; exact HNL.out
  refine ⟨rfl, ?_, ?_⟩
  · have hcut := hq.cut HE2.out (by rw [Array.length_toList]; rfl) (z := zFl.enc.toList) rfl rfl
    rw [HE2.out, hcl, ← HNews.out, ← HW1.out, show off + i * 7 + (n - i) * 7 = off + n * 7 by omega] at hcut
    unfold RowOf
    rw [List.eraseIdx_eq_take_drop_succ, flat_append, List.length_append, List.length_take, List.length_drop, HN.out, ← HNews.out, show min i (n + 1) + (n + 1 - (i + 1)) = n by omega]
    exact hcut
  · rw [HW1.out]
    exact ((((Chg.refl w [g]).drew).trans (Chg.cells g news (off + i * 7) _) fun b hb => .inl hb).trans (Chg.cells g _ (off + n * 7) _) fun b hb => .inl hb)
end
end Go.Proofs.YtcepfhnlbnlnhaaGreatDoor
