/- THE WALKS of slices.Clone, Cut, Crash and New. -/
import Derived.Test.YtklcpckjmncdkaaGreatDoorDiskP
import Derived.Deep.AppendLies
import Derived.Lib.LazyBuf
namespace Go.Proofs.YtklcpckjmncdkaaGreatDoor
set_option maxRecDepth 100000
open Go.RowKit

theorem Tryz.infoInt : (Tryz.prog.info? 3).map (fun i => (i.zero, i.size, i.bytes)) = some (some (.int .i64 0), 1, 8) := by kernel_rfl

theorem add_off (b off j : Nat) : (⟨b, off, none⟩ : Addr).add j = ⟨b, off + j, none⟩ := by unfold Addr.add; split <;> simp_all
/-- What Clone leaves: a row of the call's own, with the same ints. -/
def IsClone (ks : List Int) (w : World) (e : Ending) (w' : World) : Prop := ∃ A c, e = .returned (.slice A ks.length c) ∧ IntRow w' (.slice A ks.length c) ks ∧ w.grownBy w' none
theorem IntRow.form {w : World} {v : Value} {l : List Int} (h : IntRow w v l) : ∃ A c, v = .slice A l.length c := by
  rcases h.2 with ⟨rfl, h0⟩ | ⟨g', cap, cur, rfl, _⟩
  · exact ⟨none, 0, by rw [h0]⟩
  · exact ⟨_, _, rfl⟩
section
variable {w : World} {g : Nat} {D : Dk}
theorem Ints.newsAt {v : Value} {a : Addr} {c : Nat} {ks : List Int} (h : Ints w g v ks) (hv : v = .slice (some a) ks.length c) (o : Obj) :
    ∀ j u, (ks.map (Value.int .i64))[j]? = some u → (w.alloc o).cell? (a.add j) = some u := by
  intro j u hu
  obtain ⟨A, c', rfl, hc⟩ := h
  injection hv with hA
  subst hA
  rw [List.getElem?_map] at hu
  obtain ⟨k, hk, rfl⟩ := Option.map_eq_some_iff.1 hu
  obtain ⟨hj, rfl⟩ := List.getElem?_eq_some_iff.1 hk
  obtain ⟨b, off, ha, _, hcell⟩ := hc j hj
  injection ha with ha
  subst ha
  rw [add_off, World.cell?_alloc_lt _ _ _ (World.block_lt_of_cell? w _ hcell)]
  exact hcell
theorem ints_cells (ks : List Int) : ∀ u ∈ ks.map (Value.int .i64), u.oneCell' = true := by
  intro u hu
  obtain ⟨k, _, rfl⟩ := List.mem_map.1 hu
  rfl
set_option maxHeartbeats 800000 in
theorem clone_any {v : Value} {ks : List Int} (hk : Ints w g v ks) (hlen : ks.length ≤ 17592186044416) : Calls Tryz.prog 34 #[v] w (IsClone ks w) := by
  obtain ⟨i0, hi0, hz0, hz1, hz2⟩ := info_parts Tryz.infoInt
  have hk' := hk
  obtain ⟨A, c, rfl, hcell⟩ := hk
  have heq := fun a n c w => Lib.run_eql_slice_nil (P := Tryz.prog) w 62 3 a n c 0 0 Tryz.underlying62
  rcases A with _ | a
  · have hn : ks = [] := by
      rcases ks with _ | ⟨k, ks⟩
      · rfl
      · obtain ⟨b, off, h, _⟩ := hcell 0 (by simp)
        cases h
    subst hn
    go_enter Tryz.func34, Tryz.ntmps34
    go_wp2_with fail
    go_ret
    exact ⟨none, 0, rfl, IntRow.nil _, only_refl _ _⟩
  · have hnews := hk'.newsAt (v := .slice (some a) ks.length c) rfl (.cells #[] 3)
    clear hcell hk'
    go_enter Tryz.func34, Tryz.ntmps34
    go_wp2_with (at_builtin; refine wpList_append_own _ rfl _ _ 62 rfl 0 3 i0 _ 1 8 Tryz.underlying62 hi0 hz0 hz1 hz2 rfl (by decide) (.slice (some ⟨w.heap.size, 0, none⟩) 0 0) 0 [] rfl (World.ownsRow_made w #[] 0 (Nat.zero_le _) (by decide) rfl) a ks.length c (ks.map (Value.int .i64)) rfl (by simp) hnews (ints_cells ks) (by unfold maxLen; omega) (by omega) (Nat.zero_le _) ?_; intro v' w1 hown1 hg1 _)
    go_ret
    have hrow : IntRow w1 v' ks := by unfold IntRow; simpa using hown1
    obtain ⟨A', c', rfl⟩ := hrow.form
    refine ⟨A', c', rfl, hrow, ?_⟩
    have h1 : w.grownBy (w.alloc (.cells #[] 3)) none := only_alloc (only_refl _ _) _
    exact ⟨hg1.os.trans h1.os, hg1.tape.trans h1.tape, hg1.output.trans h1.output, Nat.le_trans h1.size hg1.size, fun i hi _ => (hg1.block i (by simp; omega) (by simp [Value.ownBlock]; omega)).trans (h1.block i hi (by simp))⟩

set_option maxHeartbeats 800000 in
theorem cut_any (h : DiskAt w g D) {n : Int} (hn : I64 n) {v : Value} {ks : List Int} (hk : Ints w g v ks) (h64 : ∀ k ∈ ks, I64 k) (hlen : ks.length ≤ 17592186044416) :
    Calls Tryz.prog 8 #[.pointer (some ⟨g, 0, none⟩), .int .i64 n, v] w fun e w' => e = .returned (.tuple #[]) ∧ DiskAt w' g (D.doCut n ks) ∧ w.grownBy w' (some g) := by
  have hfin : ∀ m : Nat, m = n.toNat → ∀ v' W, IntRow W v' ks → w.grownBy W none → DiskAt ((W.setCell ⟨g, 6, none⟩ (.int .i64 (m : Int))).setCell ⟨g, 7, none⟩ v') g (D.doCut n ks) ∧ w.grownBy ((W.setCell ⟨g, 6, none⟩ (.int .i64 (m : Int))).setCell ⟨g, 7, none⟩ v') (some g) := by
    intro m hm v' W hr' ho
    obtain ⟨⟨kv, hb, hr⟩, ok⟩ := h
    have hbW := hb.grown ho (by simp)
    have hW : w.grownBy W (some g) := only_own (only_refl w (some g)) ho (by simp)
    refine ⟨⟨⟨v', ?_, hr'.far hbW (by decide) (only_put (only_put (only_refl _ _) _ _) _ _)⟩, ok.doCut hn h64⟩, only_put (only_put hW _ _) _ _⟩
    have := (hbW.put 6 (.int .i64 (m : Int))).put 7 v'
    unfold Dk.doCut
    rw [← hm]
    exact this
  have hlt := h.lt
  have hcl := Lib.hid (clone_any hk hlen)
  have Hfin := Lib.hid hfin
  have hst : ∀ W, w.grownBy W none → W.frozen? ⟨g, 6, none⟩ = false ∧ W.frozen? ⟨g, 7, none⟩ = false ∧ W.cell? ⟨g, 6, none⟩ = some (.int .i64 (D.cut : Int)) ∧ ∃ kv, W.cell? ⟨g, 7, none⟩ = some kv := by
    intro W ho
    obtain ⟨⟨kv, hb, hr⟩, ok⟩ := h
    have hbW := hb.grown ho (by simp)
    exact ⟨hbW.frozen 6, hbW.frozen 7, hbW.cell 6, kv, hbW.cell 7⟩
  have Hst := Lib.hid hst
  clear hfin hst
  by_cases h0 : 0 < n
  · obtain ⟨m, rfl⟩ := Int.eq_ofNat_of_zero_le (Int.le_of_lt h0)
    have h0' : 0 < m := by omega
    go_enter Tryz.func8, Tryz.ntmps8
    go_wp2_with fail
    refine (hcl.out).mono ?_
    rintro e w1 ⟨A', c', rfl, hr1, ho1⟩
    obtain ⟨f6, f7, c6, kv, c7⟩ := Hst.out w1 ho1
    go_wp2_with fail
    go_end0
    exact ⟨rfl, Hfin.out m (by simp) _ w1 hr1 ho1⟩
  · go_enter Tryz.func8, Tryz.ntmps8
    go_wp2_with fail
    refine (hcl.out).mono ?_
    rintro e w1 ⟨A', c', rfl, hr1, ho1⟩
    obtain ⟨f6, f7, c6, kv, c7⟩ := Hst.out w1 ho1
    go_wp2_with fail
    go_end0
    exact ⟨rfl, Hfin.out 0 (by omega) _ w1 hr1 ho1⟩

set_option maxHeartbeats 800000 in
theorem crash_any (h : DiskAt w g D) {v : Value} {ks : List Int} (hk : Ints w g v ks) (h64 : ∀ k ∈ ks, I64 k) :
    Calls Tryz.prog 32 #[.pointer (some ⟨g, 0, none⟩), v] w fun e w' => e = .returned (.tuple #[]) ∧ DiskAt w' g (D.crash ks) ∧ w.grownBy w' (some g) := by
  have hl := Lib.hid (lose_any h hk h64)
  have hc5 : w.cell? ⟨g, 5, none⟩ = some (.bool D.off) := by obtain ⟨⟨kv, hb, hr⟩, ok⟩ := h; exact hb.cell 5
  cases ho : D.off with
  | true =>
    have e : D.crash ks = D.on := by simp [Dk.crash, ho]
    rw [e]
    rw [ho] at hc5
    have Hon := Lib.hid (on_any h)
    clear e ho
    go_enter Tryz.func32, Tryz.ntmps32
    go_wp2_with fail
    refine (Hon.out).mono ?_
    rintro e w1 ⟨rfl, hd1, ho1⟩
    go_wp2_with fail
    go_end0
    exact ⟨rfl, hd1, ho1⟩
  | false =>
    have e : D.crash ks = (D.lose ks).on := by simp [Dk.crash, ho]
    rw [e]
    rw [ho] at hc5
    clear e ho
    go_enter Tryz.func32, Tryz.ntmps32
    go_wp2_with fail
    refine (hl.out).mono ?_
    rintro e w1 ⟨rfl, hd1, ho1⟩
    clear hc5
    go_wp2_with fail
    refine (on_any hd1).mono ?_
    rintro e w2 ⟨rfl, hd2, ho2⟩
    go_wp2_with fail
    go_end0
    exact ⟨rfl, hd2, only_trans ho1 ho2⟩

/-- What New leaves. -/
def IsDisk (D : Dk) (w : World) (e : Ending) (w' : World) : Prop := ∃ g, e = .returned (.pointer (some ⟨g, 0, none⟩)) ∧ w.heap.size ≤ g ∧ DiskAt w' g D ∧ w.grownBy w' none
set_option maxHeartbeats 800000 in
theorem new_any (n : Int) (w : World) : Calls Tryz.prog 6 #[.int .i64 n] w (IsDisk (Dk.new n) w) := by
  have hfin : ∀ m : Int, m = max 0 (min n 16777216) → IsDisk (Dk.new n) w (.returned (.pointer (some ⟨w.heap.size, 0, none⟩)))
      (w.alloc (.cells #[.string ⟨#[]⟩, .int .i64 0, .string ⟨#[]⟩, .int .i64 0, .int .i64 m, .bool false, .int .i64 0, .slice none 0 0, .int .i64 0, .bool false] 79)) := by
    intro m hm
    refine ⟨w.heap.size, rfl, Nat.le_refl _, ⟨⟨.slice none 0 0, ?_, IntRow.nil _⟩, Dk.new_ok n⟩, only_alloc (only_refl _ _) _⟩
    have e : ((Dk.new n).lim : Int) = m := by simp only [Dk.new]; omega
    unfold dkCells
    rw [e]
    exact Blk.new _ _ _
  by_cases h1 : n ≤ 16777216
  · by_cases h0 : 0 < n
    · have H := Lib.hid (hfin n (by omega))
      clear hfin
      go_enter Tryz.func6, Tryz.ntmps6
      go_wp2_with fail
      go_ret
      exact H.out
    · have H := Lib.hid (hfin 0 (by omega))
      clear hfin
      go_enter Tryz.func6, Tryz.ntmps6
      go_wp2_with fail
      go_ret
      exact H.out
  · have H := Lib.hid (hfin 16777216 (by omega))
    clear hfin
    go_enter Tryz.func6, Tryz.ntmps6
    go_wp2_with fail
    go_ret
    exact H.out
end
end Go.Proofs.YtklcpckjmncdkaaGreatDoor
