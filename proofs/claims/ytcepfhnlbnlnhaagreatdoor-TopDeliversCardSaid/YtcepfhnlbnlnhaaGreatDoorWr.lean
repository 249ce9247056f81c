/- THE WALKS of the packet writer's builder, which lies in a struct: copyCheck, WriteString, Len. -/
import Derived.Test.YtcepfhnlbnlnhaaGreatDoorBaseW
import Derived.Lib.AppendStr
import Derived.Lib.Builder
import Derived.Lib.UnsafeStr
import Derived.Lib.OthersKept
namespace Go.Proofs.YtcepfhnlbnlnhaaGreatDoor
set_option maxRecDepth 100000
open Go.RowKit

/-- A writer in memory: its bytes, its code. -/
structure WrAt (w : World) (b : Nat) (l : List UInt8) (c : Nat) : Prop where
  at_ : ∃ p v, (p = .pointer none ∨ p = .pointer (some ⟨b, 0, none⟩)) ∧ Blk w b 100 #[p, v, .int .u8 (c : Int)] ∧ BRow w b v l
/-- The same, its address noted. -/
structure WrUs (w : World) (b : Nat) (l : List UInt8) (c : Nat) (v : Value) : Prop where
  blk : Blk w b 100 #[.pointer (some ⟨b, 0, none⟩), v, .int .u8 (c : Int)]
  row : BRow w b v l
theorem WrUs.wr {w : World} {b c : Nat} {l : List UInt8} {v : Value} (h : WrUs w b l c v) : WrAt w b l c := ⟨_, v, .inr rfl, h.blk, h.row⟩
theorem Lk.put {w : World} {pb i : Nat} {u : Value} {row : Option Nat} : Lk row pb w (w.setCell ⟨pb, i, none⟩ u) :=
  ⟨rfl, rfl, rfl, by simp [World.setCell], fun k _ hk _ h2 _ => (Below.heap_setCell w ⟨pb, i, none⟩ u k h2).trans hk⟩
theorem Lk.of_own {w w' : World} {pb n : Nat} {v : Value} {xs : List Value} (hg : w.grownBy w' v.ownBlock) (hr : w.ownsRow pb 5 1 v n xs) : Lk none pb w w' :=
  ⟨hg.os, hg.tape, hg.output, hg.size, fun k o hk _ h2 h3 => by
    refine (hg.block k (Array.getElem?_eq_some_iff.1 hk).1 ?_).trans hk
    intro e
    rcases hr.2 with ⟨rfl, _⟩ | ⟨g, cap, cur, rfl, hb, hh, _⟩
    · simp [Value.ownBlock] at e
    · simp only [Value.ownBlock, Option.some.injEq] at e
      subst e
      rcases h3 with h3 | h3
      · omega
      · rw [hh] at hk
        injection hk with hk
        exact h3 _ _ hk.symm⟩
theorem BRow.lkPut {w : World} {b i : Nat} {v u : Value} {l : List UInt8} {cs : Array Value} (h : BRow w b v l) (hb : Blk w b 100 cs) : BRow (w.setCell ⟨b, i, none⟩ u) b v l := by
  refine World.ownsRow.kept h (only_put (only_refl w (some b)) i u) ?_
  rcases h.2 with ⟨rfl, _⟩ | ⟨g, cap, cur, rfl, _, hh, _⟩
  · exact .inl rfl
  · exact .inr fun e => Blk.ne_ (t := 5) hh hb (by decide) (by simpa [Value.ownBlock] using e)

theorem Tryz.infoBuilder : (Tryz.prog.info? 98).map (fun i => (i.size)) = some 2 := by kernel_rfl
section
variable {w : World} {b c : Nat} {l : List UInt8}
set_option maxHeartbeats 1600000 in
theorem wcpy_used {v : Value} (h : WrUs w b l c v) : Calls Tryz.prog 127 #[.pointer (some ⟨b, 0, none⟩)] w fun e w' => e = .returned (.tuple #[]) ∧ w' = w := by
  obtain ⟨j, hj, _⟩ := Option.map_eq_some_iff.1 Tryz.infoBuilder
  have h0 := h.blk.cell 0
  go_enter Tryz.func127, Tryz.ntmps127
  go_wp2
  rw [Lib.run_neq_ptr_same w _ Tryz.underlying96 hj]
  go_wp2
  go_end0
  exact ⟨rfl, rfl⟩
set_option maxHeartbeats 1600000 in
theorem wcpy_fresh {v : Value} (hb : Blk w b 100 #[.pointer none, v, .int .u8 (c : Int)]) : Calls Tryz.prog 127 #[.pointer (some ⟨b, 0, none⟩)] w fun e w' => e = .returned (.tuple #[]) ∧ w' = w.setCell ⟨b, 0, none⟩ (.pointer (some ⟨b, 0, none⟩)) := by
  obtain ⟨j, hj, hjs⟩ := Option.map_eq_some_iff.1 Tryz.infoBuilder
  have h0 := hb.cell 0
  have hf := hb.frozen 0
  have hsh : w.shape? b = some (100, 3) := by
    unfold Blk at hb
    simp [World.shape?, hb]
  have ext := @run_callFunc_extern Tryz.prog 135 _ Extern.AbiNoEscape.same Tryz.func135 (by kernel_rfl) (by kernel_rfl) (by kernel_rfl) (by kernel_rfl)
  go_enter Tryz.func127, Tryz.ntmps127
  go_wp2
  rw [Lib.run_to_unsafe w ⟨b, 0, none⟩ Tryz.underlying96 Tryz.underlying194 hj (by rw [hjs]; decide) hsh (by show 0 < 3; decide)]
  simp only [Result.andThen]
  rw [Oper.upon_value]
  go_wp2
  rw [Lib.run_noEscape]
  simp only [Result.andThen]
  rw [Oper.upon_value]
  go_wp2
  rw [Lib.run_from_unsafe w ⟨b, 0, none⟩ Tryz.underlying194 Tryz.underlying96 hj hsh (by kernel_rfl)]
  simp only [Result.andThen]
  rw [Oper.upon_value]
  go_wp2
  go_end0
  exact ⟨rfl, rfl⟩
theorem wcpy_any (h : WrAt w b l c) : Calls Tryz.prog 127 #[.pointer (some ⟨b, 0, none⟩)] w fun e w' => e = .returned (.tuple #[]) ∧ (∃ v, WrUs w' b l c v) ∧ Lk none b w w' := by
  obtain ⟨p, v, hp, hb, hr⟩ := h.at_
  rcases hp with rfl | rfl
  · refine (wcpy_fresh hb).mono ?_
    rintro e w' ⟨rfl, rfl⟩
    exact ⟨rfl, ⟨v, hb.put 0 _, hr.lkPut hb⟩, Lk.put⟩
  · refine (wcpy_used (v := v) (l := l) ⟨hb, hr⟩).mono ?_
    rintro e w' ⟨rfl, rfl⟩
    exact ⟨rfl, ⟨v, hb, hr⟩, Lk.refl _ _ _⟩
theorem u8_cells (s : ByteArray) : Lib.strCells s = s.data.toList.map fun b => Value.int .u8 (b.toNat : Int) := rfl
set_option maxHeartbeats 3200000 in
theorem wwrite_any (h : WrAt w b l c) (s : ByteArray) (hlen : l.length + s.size ≤ 100000000) :
    Calls Tryz.prog 109 #[.pointer (some ⟨b, 0, none⟩), .string s] w fun e w' => e = .returned (.tuple #[.int .i64 (s.size : Int), .nilIface]) ∧ WrAt w' b (l ++ s.data.toList) c ∧ Lk none b w w' := by
  obtain ⟨i0, hi, hz0, hz1, hz2⟩ := info_parts Tryz.infoU8
  have HC := Lib.hid (wcpy_any h)
  have hm : maxLen = 9223372036854775807 := rfl
  go_enter Tryz.func109, Tryz.ntmps109
  go_wp2_with fail
  refine HC.out.mono ?_
  rintro e w1 ⟨rfl, ⟨v, hu1⟩, hk1⟩
  have hbl := hu1.blk
  have hrow := hu1.row
  unfold BRow at hrow
  have c0 := hbl.cell 0
  have c1 := hbl.cell 1
  have hbw := hbl.lt
  go_wp2_with (at_builtin; refine Lib.wpList_append_own_string _ rfl _ _ 36 9 rfl b 5 i0 Tryz.underlying36 Tryz.underlying9 hi hz0 hz1 hz2 _ _ _ rfl hrow s rfl ?c3 ?c4 ?c5 ?_)
  case c3 => omega
  case c4 => omega
  case c5 => omega
  intro v' w2 hown' hgrow _
  have hne : some b ≠ v.ownBlock := by
    rcases hrow.2 with ⟨rfl, _⟩ | ⟨g, cap, cur, rfl, _, hh, _⟩
    · simp [Value.ownBlock]
    · exact fun e => Blk.ne_ (t := 5) hh hbl (by decide) (by simpa [Value.ownBlock] using e.symm)
  have hb2 := hbl.grown hgrow hne
  have d0 := hb2.cell 0
  have d1 := hb2.cell 1
  have f1 := hb2.frozen 1
  have hrow2 : BRow w2 b v' (l ++ s.data.toList) := by
    unfold BRow
    rw [List.length_append, List.map_append, ← size_list s, ← u8_cells]
    exact hown'
  have hk2 := Lk.of_own hgrow hrow
  obtain ⟨ao, n', cap, rfl⟩ : ∃ ao n' cap, v' = .slice ao n' cap := by
    rcases hown'.2 with ⟨hv, _⟩ | ⟨g, cap, cur, hv, _⟩
    · exact ⟨_, _, _, hv⟩
    · exact ⟨_, _, _, hv⟩
  go_wp2_with fail
  go_ret2
  exact ⟨rfl, ⟨_, _, .inr rfl, hb2.put 1 _, hrow2.lkPut hb2⟩, (hk1.trans hk2).trans Lk.put⟩
theorem WrAt.cells (h : WrAt w b l c) : w.cell? ⟨b, 2, none⟩ = some (.int .u8 (c : Int)) := by
  obtain ⟨p, v, hp, hb, hr⟩ := h.at_
  exact hb.cell 2
set_option maxHeartbeats 800000 in
theorem wfail_any (h : WrAt w b l c) (d : Nat) : Calls Tryz.prog 41 #[.pointer (some ⟨b, 0, none⟩), .int .u8 (d : Int)] w fun e w' => e = .returned (.tuple #[]) ∧ WrAt w' b l (if c = 0 then d else c) ∧ Lk none b w w' := by
  obtain ⟨p, v, hp, hb, hr⟩ := h.at_
  have c2 := hb.cell 2
  have f2 := hb.frozen 2
  by_cases h0 : c = 0
  · subst h0
    rw [if_pos rfl]
    go_enter Tryz.func41, Tryz.ntmps41
    go_wp2_with fail
    go_end0
    exact ⟨rfl, ⟨p, v, hp, hb.put 2 _, hr.lkPut hb⟩, Lk.put⟩
  · rw [if_neg h0]
    have h0b : ((c : Int) == 0) = false := by simp [h0]
    go_enter Tryz.func41, Tryz.ntmps41
    go_wp2_with fail
    go_end0
    exact ⟨rfl, h, Lk.refl _ _ _⟩
set_option maxHeartbeats 800000 in
theorem wpart_any (h : WrAt w b l c) (s : ByteArray) (d : Nat) (hlen : l.length + s.size ≤ 100000000) : Calls Tryz.prog 79 #[.pointer (some ⟨b, 0, none⟩), .string s, .int .u8 (d : Int)] w fun e w' => e = .returned (.tuple #[]) ∧ WrAt w' b (l ++ s.data.toList) (if c = 0 then d else c) ∧ Lk none b w w' := by
  have HF := Lib.hid (wfail_any h d)
  generalize (if c = 0 then d else c) = c' at *
  go_enter Tryz.func79, Tryz.ntmps79
  go_wp2_with fail
  refine HF.out.mono ?_
  rintro e w1 ⟨rfl, h1, hk1⟩
  have HW := Lib.hid (wwrite_any h1 s hlen)
  go_wp2_with fail
  refine HW.out.mono ?_
  rintro e w2 ⟨rfl, h2, hk2⟩
  go_wp2_with fail
  go_end0
  exact ⟨rfl, h2, hk1.trans hk2⟩
set_option maxHeartbeats 800000 in
theorem wlen_any (h : WrAt w b l c) : Calls Tryz.prog 44 #[.pointer (some ⟨b, 0, none⟩)] w fun e w' => e = .returned (.int .i64 (l.length : Int)) ∧ w = w' := by
  obtain ⟨p, v, hp, hb, hr⟩ := h.at_
  have c1 := hb.cell 1
  unfold BRow at hr
  obtain ⟨ao, cap, rfl⟩ : ∃ ao cap, v = .slice ao l.length cap := by
    rcases hr.2 with ⟨hv, h0⟩ | ⟨g, cap, cur, hv, _⟩
    · exact ⟨none, 0, by rw [hv, h0]⟩
    · exact ⟨_, _, hv⟩
  go_enter Tryz.func44, Tryz.ntmps44
  go_wp2_with fail
  go_ret
  exact ⟨rfl, rfl⟩
set_option maxHeartbeats 1600000 in
theorem wstring_any (h : WrAt w b l c) (h0 : l ≠ []) : Calls Tryz.prog 47 #[.pointer (some ⟨b, 0, none⟩)] w fun e w' => e = .returned (.string ⟨l.toArray⟩) ∧ Lk none b w w' := by
  obtain ⟨p, v, hp, hb, hr⟩ := h.at_
  have c1 : w.drew.cell? ⟨b, 1, none⟩ = some v := hb.cell 1
  unfold BRow at hr
  have hl0 : l.length ≠ 0 := by simpa using h0
  obtain ⟨g, cap, cur, rfl, hbg, hg, hnc, hcm, hcs, htake⟩ : ∃ g cap cur, v = .slice (some ⟨g, 0, none⟩) l.length cap ∧ b ≤ g ∧ w.heap[g]? = some (.cells cur 5 (0, 0)) ∧ l.length ≤ cap ∧ cap ≤ maxLen ∧ cur.size = cap * 1 ∧ cur.toList.take (l.length * 1) = l.map fun b => Value.int .u8 (b.toNat : Int) := by
    rcases hr.2 with ⟨_, hz⟩ | ⟨g, cap, cur, hv, r⟩
    · exact absurd hz hl0
    · exact ⟨g, cap, cur, hv, r⟩
  have hSD : (Builtin.unsafeSliceData_ #[36] 119 #[.slice (some ⟨g, 0, none⟩) l.length cap]).run Tryz.prog w.drew = .ok (.pointer (some ⟨g, 0, none⟩)) w.drew :=
    Lib.run_unsafeSliceData_row _ _ _ _ _ _ (by omega)
  have hUS : (Builtin.unsafeString_ #[119, 3] 9 #[.pointer (some ⟨g, 0, none⟩), .int .i64 l.length]).run Tryz.prog w.drew = .ok (.string ⟨l.toArray⟩) (w.drew.freeze ⟨g, 0, none⟩ l.length) := by
    refine Lib.run_unsafeString_row w.drew 119 3 9 5 Tryz.underlying119 (by kernel_rfl) g cur.size (by have hg' : w.drew.heap[g]? = some (.cells cur 5 (0, 0)) := hg; simp [World.shape?, hg']) l h0 (by omega) (by unfold maxLen at hcm; omega) ?_
    intro j x hx
    exact World.ownsRow.cells hr (g := g) rfl j (.int .u8 x.toNat) (by simp [hx])
  go_enter Tryz.func47, Tryz.ntmps47
  go_wp2_with fail
  go_region
  all_goals (go_wp2_with fail)
  all_goals go_ret
  all_goals exact ⟨rfl, Lk.of_builder (Lib.below_freeze (Below.drew (Below.refl b w)) (p := ⟨g, 0, none⟩) hbg _) (((Lib.OthersKept.refl _ _ w).drew).freeze ⟨g, 0, none⟩ _ ⟨cur, _, hg⟩)⟩
end
end Go.Proofs.YtcepfhnlbnlnhaaGreatDoor
