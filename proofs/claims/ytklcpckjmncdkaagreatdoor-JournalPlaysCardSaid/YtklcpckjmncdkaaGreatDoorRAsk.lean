/- THE WALK of the document's Ask (Cut). -/
import Derived.Test.YtklcpckjmncdkaaGreatDoorRDiskM
import Derived.Deep.RegionLawGrows
namespace Go.Proofs.YtklcpckjmncdkaaGreatDoor
set_option maxRecDepth 100000
open Go.RowKit
attribute [local go_sem ↓] Go.wp_at_zero Go.wp_at_succ
section
variable {w : World} {g : Nat} {D : Dk}
theorem IntRow.snoc {w : World} {v : Value} {l : List Int} {k : Int} (h : w.ownsRow 0 3 1 v (l.length + 1) ((l.map (Value.int .i64)) ++ [.int .i64 k])) : IntRow w v (l ++ [k]) := by
  unfold IntRow; simpa using h
theorem one_cellI (w : World) (u : Value) (o : TypeId) : ∀ j x, [u][j]? = some x → (w.alloc (.cells #[u] o)).cell? ((⟨w.heap.size, 0, none⟩ : Addr).add j) = some x := by
  intro j x hj
  match j, hj with
  | 0, hj => simp at hj; subst hj; simp [Addr.add]
theorem take_snocI (l : List Int) (k : Nat) (h : k < l.length) : l.take (k + 1) = l.take k ++ [l[k]] := by
  rw [List.take_succ_eq_append_getElem h]
theorem IntRow.of_base {w : World} {B : Nat} {v : Value} {l : List Int} (h : w.ownsRow B 3 1 v l.length (l.map (Value.int .i64))) : IntRow w v l := by
  refine ⟨h.1, ?_⟩
  rcases h.2 with h | ⟨g', cap, cur, hv, _, r⟩
  · exact .inl h
  · exact .inr ⟨g', cap, cur, hv, Nat.zero_le _, r⟩
theorem IntRow.apart {w : World} {v : Value} {l : List Int} (h : IntRow w v l) {g : Nat} {t : TypeId} {cs : Array Value} (hg : Blk w g t cs) (ht : t ≠ 3) : some g ≠ v.ownBlock := by
  rcases h.2 with ⟨rfl, _⟩ | ⟨g', cap, cur, rfl, _, hh, _⟩
  · simp [Value.ownBlock]
  · intro e
    have : g = g' := by simpa [Value.ownBlock] using e
    subst this
    exact Blk.ne_ (t := 3) hh hg (Ne.symm ht) rfl
set_option maxHeartbeats 3200000 in
theorem rask_any (h : RDiskAt w g D) {n : Int} (hn : I64 n) {v : Value} {ks : List Int} (hk : Ints w g v ks) (h64 : ∀ k ∈ ks, I64 k) (hlen : ks.length ≤ 1000000) :
    Calls Tryz.prog 61 #[.pointer (some ⟨g, 0, none⟩), .int .i64 n, v] w fun e w' => e = .returned (.tuple #[]) ∧ RDiskAt w' g (D.doCut n ks) ∧ w.grownBy w' (some g) := by
  obtain ⟨i0, hi0, hz0, hz1, hz2⟩ := info_parts Tryz.infoInt
  have okc := h.ok.doCut hn h64
  obtain ⟨⟨kv, hb, hr⟩, ok⟩ := h
  obtain ⟨A, c, rfl, hcell⟩ := hk
  obtain ⟨c0, c1, c2, c3, c4, c5, c6, c7, c8, c9⟩ := rdk_cells hb
  have hf := fun i => hb.frozen i
  have hlt := hb.lt
  obtain ⟨W, hWb, hWg, hWc⟩ : ∃ W, W = (if 0 < n then ((w.setCell ⟨g, 6, none⟩ (.int .i64 0)).setCell ⟨g, 6, none⟩ (.int .i64 n)).setCell ⟨g, 7, none⟩ (.slice none 0 0) else (w.setCell ⟨g, 6, none⟩ (.int .i64 0)).setCell ⟨g, 7, none⟩ (.slice none 0 0)) ∧
      w.grownBy W (some g) ∧ Blk W g 95 (rdkCells { D with cut := n.toNat, keep := [] } (.slice none 0 0)) := by
    refine ⟨_, rfl, ?_, ?_⟩
    · split
      · exact only_put (only_put (only_put (only_refl _ _) _ _) _ _) _ _
      · exact only_put (only_put (only_refl _ _) _ _) _ _
    · split
      · have e : n = ((n.toNat : Nat) : Int) := by omega
        have hbb := ((hb.put 6 (.int .i64 0)).put 6 (.int .i64 n)).put 7 (.slice none 0 0)
        rw [e] at hbb
        have e2 : ((n.toNat : Int)).toNat = n.toNat := by omega
        rw [e, e2]
        exact hbb
      · have hbb := (hb.put 6 (.int .i64 0)).put 7 (.slice none 0 0)
        rw [show n.toNat = 0 from by omega]
        exact hbb
  have HW := Lib.hid hWb
  clear hWb
  by_cases h0 : 0 < n
  · rw [if_pos h0] at HW
    go_enter Tryz.func61, Tryz.ntmps61
    go_wp2_with fail
    rw [← HW.out]
    clear c0 c1 c2 c3 c4 c5 c6 c7 c8 c9 hf
    go_loopw [6] (fun i wr => ∃ m : Nat, m ≤ ks.length ∧ i = .int .i64 (m : Int) ∧ w.grownBy wr (some g) ∧ ∃ A' c', Blk wr g 95 (rdkCells { D with cut := n.toNat, keep := [] } (.slice A' m c')) ∧ wr.ownsRow w.heap.size 3 1 (.slice A' m c') (ks.take m).length ((ks.take m).map (Value.int .i64))) (fun i _ => ks.length - (intOf i).toNat)
    case atStart => exact ⟨0, Nat.zero_le _, rfl, hWg, none, 0, hWc, World.ownsRow_nil _ _ _ _⟩
    case round =>
      obtain ⟨m, hm, rfl, hg, A', c', hb1, hr0⟩ := hrel
      have hr1 := IntRow.of_base hr0
      by_cases hlt2 : m < ks.length
      · obtain ⟨b, off, rfl, hne, hc⟩ := hcell m hlt2
        have hc' := hg.cell hc (by simpa using hne)
        have htk := Lib.hid (take_snocI ks m hlt2)
        have hwlt := hg.size
        obtain ⟨d0, d1, d2, d3, d4, d5, d6, d7, d8, d9⟩ := rdk_cells hb1
        have hf1 := fun i => hb1.frozen i
        generalize ks[m] = k0 at *
        have hlen : (ks.take m).length = m := by rw [List.length_take]; omega
        have hown : wr.ownsRow w.heap.size 3 1 (.slice A' m c') m ((ks.take m).map (Value.int .i64)) := by have h' := hr0; rwa [hlen] at h'
        have d7' : ∀ o, (wr.alloc o).cell? ⟨g, 7, none⟩ = some (.slice A' m c') := fun o => by rw [World.cell?_alloc_lt _ _ _ (by show g < _; omega)]; exact d7
        clear hcell hc hlen
        have hap := hr1.apart hb1 (by decide)
        have hap' : ∀ o, (Value.slice A' m c').ownBlock = o → some g ≠ o := fun o h => h ▸ hap
        have hap'' : ∀ k, (Value.slice A' m c').ownBlock = some k → k ≠ g := fun k h e => hap (by rw [h, e])
        have hap3 := Lib.hid hap''
        have hap4 := Lib.hid hap
        clear hap hap' hap''
        go_wp2_with fail
        go_region_law (refine step_append_lies _ (by rfl) (.tmp 29) (.tmp 34) 62 (by rfl) w.heap.size 3 i0 _ 1 8 Tryz.underlying62 hi0 hz0 hz1 hz2 rfl (by decide) (.slice A' m c') m ((ks.take m).map (Value.int .i64)) (by simp [Act.eval]) (hown.alloc _) ⟨wr.heap.size, 0, none⟩ 1 1 [.int .i64 k0] (by simp [Act.eval]) rfl (one_cellI _ _ _) (by intro u hu; simp at hu; subst hu; rfl) (by omega) (by unfold maxLen; omega) (by omega) (by simp; omega) (wr.heap.size + 1) (by simp) ?_; intro g1 cap w1 hown1 hg1 hat1 hlt1; have hb2 := (Blk.alloc (Blk.drew hb1) (.cells #[.int .i64 k0] 3)).grown hg1 hap4.out; have e7 : w1.cell? ⟨g, 7, none⟩ = some (.slice A' m c') := hb2.cell 7; have f7 := hb2.frozen 7)
        all_goals
          go_wp2_with fail
          go_roundw
          case rel =>
            have hl : (ks.take m).length = m := by rw [List.length_take]; omega
            have hl2 : (ks.take (m + 1)).length = m + 1 := by rw [List.length_take]; omega
            have hrow : w1.ownsRow w.heap.size 3 1 (.slice (some ⟨g1, 0, none⟩) (m + 1) cap) (ks.take (m + 1)).length ((ks.take (m + 1)).map (Value.int .i64)) := by
              rw [hl2, htk.out, List.map_append]; exact hown1
            have hgg : w.grownBy w1 (some g) := only_own (only_alloc (only_drew hg) (.cells #[.int .i64 k0] 3)) hg1 (fun k hk => .inr (hown.lt k hk).1)
            refine ⟨m + 1, by omega, by go_num, only_put hgg _ _, some ⟨g1, 0, none⟩, cap, hb2.put 7 _, hrow.kept (only_put (only_refl w1 (some g)) 7 _) (.inr fun e => ?_)⟩
            exact (IntRow.of_base hrow).apart hb2 (by decide) e.symm
          case measure => simp [intOf]; omega
      · obtain rfl : m = ks.length := by omega
        go_wp2_with fail
        go_end0
        rw [List.take_length] at hr1
        exact ⟨rfl, ⟨⟨_, hb1, hr1⟩, okc⟩, hg⟩
  · rw [if_neg h0] at HW
    go_enter Tryz.func61, Tryz.ntmps61
    go_wp2_with fail
    rw [← HW.out]
    clear c0 c1 c2 c3 c4 c5 c6 c7 c8 c9 hf
    go_loopw [6] (fun i wr => ∃ m : Nat, m ≤ ks.length ∧ i = .int .i64 (m : Int) ∧ w.grownBy wr (some g) ∧ ∃ A' c', Blk wr g 95 (rdkCells { D with cut := n.toNat, keep := [] } (.slice A' m c')) ∧ wr.ownsRow w.heap.size 3 1 (.slice A' m c') (ks.take m).length ((ks.take m).map (Value.int .i64))) (fun i _ => ks.length - (intOf i).toNat)
    case atStart => exact ⟨0, Nat.zero_le _, rfl, hWg, none, 0, hWc, World.ownsRow_nil _ _ _ _⟩
    case round =>
      obtain ⟨m, hm, rfl, hg, A', c', hb1, hr0⟩ := hrel
      have hr1 := IntRow.of_base hr0
      by_cases hlt2 : m < ks.length
      · obtain ⟨b, off, rfl, hne, hc⟩ := hcell m hlt2
        have hc' := hg.cell hc (by simpa using hne)
        have htk := Lib.hid (take_snocI ks m hlt2)
        have hwlt := hg.size
        obtain ⟨d0, d1, d2, d3, d4, d5, d6, d7, d8, d9⟩ := rdk_cells hb1
        have hf1 := fun i => hb1.frozen i
        generalize ks[m] = k0 at *
        have hlen : (ks.take m).length = m := by rw [List.length_take]; omega
        have hown : wr.ownsRow w.heap.size 3 1 (.slice A' m c') m ((ks.take m).map (Value.int .i64)) := by have h' := hr0; rwa [hlen] at h'
        have d7' : ∀ o, (wr.alloc o).cell? ⟨g, 7, none⟩ = some (.slice A' m c') := fun o => by rw [World.cell?_alloc_lt _ _ _ (by show g < _; omega)]; exact d7
        clear hcell hc hlen
        have hap := hr1.apart hb1 (by decide)
        have hap' : ∀ o, (Value.slice A' m c').ownBlock = o → some g ≠ o := fun o h => h ▸ hap
        have hap'' : ∀ k, (Value.slice A' m c').ownBlock = some k → k ≠ g := fun k h e => hap (by rw [h, e])
        have hap3 := Lib.hid hap''
        have hap4 := Lib.hid hap
        clear hap hap' hap''
        go_wp2_with fail
        go_region_law (refine step_append_lies _ (by rfl) (.tmp 29) (.tmp 34) 62 (by rfl) w.heap.size 3 i0 _ 1 8 Tryz.underlying62 hi0 hz0 hz1 hz2 rfl (by decide) (.slice A' m c') m ((ks.take m).map (Value.int .i64)) (by simp [Act.eval]) (hown.alloc _) ⟨wr.heap.size, 0, none⟩ 1 1 [.int .i64 k0] (by simp [Act.eval]) rfl (one_cellI _ _ _) (by intro u hu; simp at hu; subst hu; rfl) (by omega) (by unfold maxLen; omega) (by omega) (by simp; omega) (wr.heap.size + 1) (by simp) ?_; intro g1 cap w1 hown1 hg1 hat1 hlt1; have hb2 := (Blk.alloc (Blk.drew hb1) (.cells #[.int .i64 k0] 3)).grown hg1 hap4.out; have e7 : w1.cell? ⟨g, 7, none⟩ = some (.slice A' m c') := hb2.cell 7; have f7 := hb2.frozen 7)
        all_goals
          go_wp2_with fail
          go_roundw
          case rel =>
            have hl : (ks.take m).length = m := by rw [List.length_take]; omega
            have hl2 : (ks.take (m + 1)).length = m + 1 := by rw [List.length_take]; omega
            have hrow : w1.ownsRow w.heap.size 3 1 (.slice (some ⟨g1, 0, none⟩) (m + 1) cap) (ks.take (m + 1)).length ((ks.take (m + 1)).map (Value.int .i64)) := by
              rw [hl2, htk.out, List.map_append]; exact hown1
            have hgg : w.grownBy w1 (some g) := only_own (only_alloc (only_drew hg) (.cells #[.int .i64 k0] 3)) hg1 (fun k hk => .inr (hown.lt k hk).1)
            refine ⟨m + 1, by omega, by go_num, only_put hgg _ _, some ⟨g1, 0, none⟩, cap, hb2.put 7 _, hrow.kept (only_put (only_refl w1 (some g)) 7 _) (.inr fun e => ?_)⟩
            exact (IntRow.of_base hrow).apart hb2 (by decide) e.symm
          case measure => simp [intOf]; omega
      · obtain rfl : m = ks.length := by omega
        go_wp2_with fail
        go_end0
        rw [List.take_length] at hr1
        exact ⟨rfl, ⟨⟨_, hb1, hr1⟩, okc⟩, hg⟩
end
end Go.Proofs.YtklcpckjmncdkaaGreatDoor
