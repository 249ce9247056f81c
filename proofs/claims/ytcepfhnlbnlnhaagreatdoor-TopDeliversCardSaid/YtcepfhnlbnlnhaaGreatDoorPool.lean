/- A map[int]bool as a set; THE WALKS of ids.Pool. -/
import Derived.Test.YtcepfhnlbnlnhaaGreatDoorRow
import Derived.Test.YtcepfhnlbnlnhaaGreatDoorKeys
import Derived.Maps.OwnSet
import Derived.Maps.Views
namespace Go.Proofs.YtcepfhnlbnlnhaaGreatDoor
set_option maxRecDepth 100000
open Go.RowKit Go.Maps

def I64 (k : Int) : Prop := -9223372036854775808 ≤ k ∧ k ≤ 9223372036854775807
theorem keyInt : Keyed Tryz.prog 3 := int_keyed Tryz.underlying3
theorem zeroBool (w : World) : (zeroValue 4).run Tryz.prog w = .ok (.bool false) w := by kernel_rfl
theorem wf_of {v : Int} (hv : I64 v) : (Lit.int .i64 v).wf = true := WalkArith.wf_i64 hv
theorem ownsMap_tight {H : Type} {P : Program} {k : TypeId} {R : Value → Option (DataW H × List MemPlace)} {w : World} {b n : Nat} {D : DataW H} (h : w.ownsMap P k R b n D) : w.ownsMap P k R b (Maps.size D) D := by
  obtain ⟨es, clock, hb, F, _, rfl⟩ := h
  refine ⟨es, clock, hb, F, ?_, rfl⟩
  simp [Maps.size, length_sorted]
/-- Block b is a map in which just each of U is true. -/
def SetAt (w : World) (b : Nat) (U : List Int) : Prop :=
  ∃ D : DataW Unit, w.ownsMap Tryz.prog 3 (plainElem Tryz.prog 4) b (Maps.size D) D ∧ (∀ m, Maps.has D (.int .i64 m) = decide (m ∈ U)) ∧
    (∀ m ∈ U, D.atKey (.int .i64 m) (.lit (.bool false)) = .lit (.bool true)) ∧ Maps.size D = U.length ∧ U.Nodup
section
variable {w : World} {b : Nat} {U : List Int}
theorem SetAt.made (w : World) : SetAt (w.alloc (.map #[] 0)) w.heap.size [] := ⟨.map [], World.ownsMap_made _ _ _ _, fun m => by simp [Maps.has], fun m hm => by simp at hm, rfl, List.Pairwise.nil⟩
theorem SetAt.lt (h : SetAt w b U) : b < w.heap.size := by obtain ⟨D, h, _⟩ := h; exact h.lt
theorem SetAt.chg {w' : World} {S : List Nat} (h : SetAt w b U) (hc : Chg w w' S) (hb : b ∉ S) : SetAt w' b U := by
  have hk := hc.block b h.lt hb
  obtain ⟨D, ⟨es, clock, h1, h2⟩, h3⟩ := h
  exact ⟨D, ⟨es, clock, hk.trans h1, h2⟩, h3⟩
theorem SetAt.perm {U' : List Int} (h : SetAt w b U) (hp : U.Perm U') : SetAt w b U' := by
  obtain ⟨D, h1, h2, h3, h4, h5⟩ := h
  exact ⟨D, h1, fun m => by rw [h2 m]; exact decide_eq_decide.2 hp.mem_iff, fun m hm => h3 m (hp.mem_iff.2 hm), h4.trans hp.length_eq, hp.nodup_iff.1 h5⟩
theorem SetAt.nodup (h : SetAt w b U) : U.Nodup := by obtain ⟨D, _, _, _, _, h⟩ := h; exact h
theorem SetAt.look (h : SetAt w b U) {m : Int} (h64 : I64 m) : (Instr.lookup 79 (.map (some b)) (.int .i64 m) false).run Tryz.prog w = .ok (.bool (decide (m ∈ U))) w := by
  obtain ⟨D, h2, hh, h3, _⟩ := h
  obtain ⟨v, ps, hrun, hv⟩ := h2.lookup keyInt Tryz.underlying79 (zeroBool w) (plainElem_bool Tryz.underlying4 false) (keyOf_int_mk Tryz.underlying3 (wf_of h64))
  have hat : D.atKey (.int .i64 m) (.lit (.bool false)) = .lit (.bool (decide (m ∈ U))) := by
    by_cases hm : m ∈ U
    · rw [h3 m hm, decide_eq_true hm]
    · rw [atKey_of_not_has (by rw [hh m]; exact decide_eq_false hm), decide_eq_false hm]
  rw [hat] at hv
  have : v = .bool (decide (m ∈ U)) := by
    unfold plainElem at hv
    rw [Tryz.underlying4] at hv
    cases v <;> simp at hv
    rw [hv.1]
  rw [hrun, this]
theorem SetAt.put (h : SetAt w b U) (hl : U.length < 1000000) {m : Int} (h64 : I64 m) (hm : m ∉ U) : ∃ w', (Instr.mapUpdate 79 (.map (some b)) (.int .i64 m) (.bool true)).run Tryz.prog w = .ok () w' ∧ SetAt w' b (U ++ [m]) ∧ Chg w w' [b] := by
  obtain ⟨D, h2, hh, h3, h4, h5⟩ := h
  have hk : WideAt.IsKeyLit (.int .i64 m) := trivial
  have ht := World.ownsMap.tidy h2 keyInt
  obtain ⟨w', hr, ho, hg⟩ := h2.update keyInt Tryz.underlying79 (by rw [h4]; unfold maxLen; omega) (keyOf_int_mk Tryz.underlying3 (wf_of h64)) (plainElem_bool Tryz.underlying4 true)
  refine ⟨w', hr, ⟨_, ownsMap_tight ho, fun x => ?_, fun x hx => ?_, ?_, ?_⟩, Chg.of_grown hg⟩
  · by_cases he : x = m
    · subst he
      rw [has_put_same ht.isMap hk]
      exact (decide_eq_true (by simp)).symm
    · rw [has_put_other (fun e => he (by injection e)), hh x]
      exact decide_eq_decide.2 (by simp [he])
  · by_cases he : x = m
    · subst he; exact atKey_put_same ht.isMap hk _ _
    · rw [atKey_put_other (fun e => he (by injection e))]
      rcases List.mem_append.1 hx with h | h
      · exact h3 x h
      · exact absurd (by simpa using h) he
  · rw [size_put ht, hh m, decide_eq_false hm, h4]
    simp
  · rw [List.nodup_append]
    exact ⟨h5, by simp, fun x hx y hy => by obtain rfl : y = m := by simpa using hy
                                            exact fun e => hm (e ▸ hx)⟩
theorem SetAt.drop (h : SetAt w b U) {m : Int} (h64 : I64 m) (hm : m ∈ U) (ty : TypeId) : ∃ w', (Builtin.delete_ #[79, 3] ty #[.map (some b), .int .i64 m]).run Tryz.prog w = .ok (.tuple #[]) w' ∧ SetAt w' b (U.erase m) ∧ Chg w w' [b] := by
  obtain ⟨D, h2, hh, h3, h4, h5⟩ := h
  have ht := World.ownsMap.tidy h2 keyInt
  obtain ⟨w', hr, ho, hg⟩ := h2.drop keyInt Tryz.underlying79 (keyOf_int_mk Tryz.underlying3 (wf_of h64)) ty
  refine ⟨w', hr, ⟨_, ownsMap_tight ho, fun x => ?_, fun x hx => ?_, ?_, h5.erase _⟩, Chg.of_grown hg.grown⟩
  · by_cases he : x = m
    · subst he
      rw [has_del_same]
      exact (decide_eq_false (by rw [h5.mem_erase_iff]; simp)).symm
    · rw [has_del_other (fun e => he (by injection e)), hh x]
      exact decide_eq_decide.2 (by rw [h5.mem_erase_iff]; simp [he])
  · rw [h5.mem_erase_iff] at hx
    rw [atKey_del_other (fun e => hx.1 (by injection e))]
    exact h3 x hx.2
  · have := size_del (k := .int .i64 m) ht
    rw [hh m, decide_eq_true hm, if_pos rfl] at this
    rw [List.length_erase_of_mem hm]
    omega
theorem SetAt.len (h : SetAt w b U) (ty : TypeId) : (Builtin.len_ #[79] ty #[.map (some b)]).run Tryz.prog w = .ok (.int .i64 (U.length : Int)) w := by
  obtain ⟨D, h2, _, _, h4, _⟩ := h
  have := h2.len Tryz.underlying79 ty
  rwa [h4] at this
/-- A pool of identifiers. -/
structure PoolAt (w : World) (pb mb : Nat) (most taken : Nat) (U : List Int) : Prop where
  blk : Blk w pb 81 #[.int .i64 (most : Int), .int .i64 (taken : Int), .map (some mb)]
  set : SetAt w mb U
theorem PoolAt.ne {pb mb most taken : Nat} (h : PoolAt w pb mb most taken U) : pb ≠ mb := by
  rintro rfl
  obtain ⟨D, ⟨es, clock, h1, h2⟩, h3⟩ := h.set
  have := h.blk
  unfold Blk at this
  rw [h1] at this
  cases this
theorem PoolAt.chg {w' : World} {S : List Nat} {pb mb most taken : Nat} (h : PoolAt w pb mb most taken U) (hc : Chg w w' S) (h1 : pb ∉ S) (h2 : mb ∉ S) : PoolAt w' pb mb most taken U := ⟨h.blk.chg hc h1, h.set.chg hc h2⟩
set_option maxHeartbeats 1600000 in
theorem pool_new (n : Int) (m : Nat) (hm : max 1 (min n 64) = (m : Int)) : Calls Tryz.prog 19 #[.int .i64 n] w fun e w' => ∃ pb mb, e = .returned (.pointer (some ⟨pb, 0, none⟩)) ∧ w.heap.size ≤ pb ∧ w.heap.size ≤ mb ∧ PoolAt w' pb mb m 0 [] ∧ Chg w w' [] := by
  have hmm := @run_makeMap Tryz.prog
  go_enter Tryz.func19, Tryz.ntmps19
  go_wp2_with fail
  go_ret
  have hb := Blk.new (w.alloc (.map #[] 0)) 81 #[.int .i64 (m : Int), .int .i64 0, .map (some w.heap.size)]
  have hs : (w.alloc (.map #[] 0)).heap.size = w.heap.size + 1 := by simp
  rw [hs] at hb
  exact ⟨w.heap.size + 1, w.heap.size, rfl, by omega, Nat.le_refl _, ⟨hb, (SetAt.made w).chg ((Chg.refl _ []).alloc _) (by simp)⟩, ((Chg.refl w []).alloc _).alloc _⟩
set_option maxHeartbeats 1600000 in
theorem pool_left {pb mb most taken : Nat} (h : PoolAt w pb mb most taken U) (hle : most ≤ 64) (hU : U.length ≤ 64) :
    Calls Tryz.prog 52 #[.pointer (some ⟨pb, 0, none⟩)] w fun e w' => (∃ n, w' = w.drewN n) ∧ e = .returned (.int .i64 ((most : Int) - (U.length : Int))) := by
  have p0 := h.blk.cell 0
  have p2 := h.blk.cell 2
  have hlen : ∀ n ty, (Builtin.len_ #[79] ty #[.map (some mb)]).run Tryz.prog (w.drewN n) = .ok (.int .i64 (U.length : Int)) (w.drewN n) := fun n ty => (h.set.chg ((Chg.refl w []).drewN n) (by simp)).len ty
  have hwr : IntKind.i64.wrap ((most : Int) - (U.length : Int)) = (most : Int) - (U.length : Int) := IntWalk.i64_in _ (by omega)
  go_enter Tryz.func52, Tryz.ntmps52
  go_wp2_with fail
  go_quiet (fail)
  go_wp2_with fail
  go_ret
  exact ⟨⟨_, rfl⟩, rfl⟩
set_option maxHeartbeats 1600000 in
theorem pool_take {pb mb most taken : Nat} (h : PoolAt w pb mb most taken U) (hle : most ≤ 64) (hU : U.length < most) (ht : taken < 60000) (hn : ((taken : Int) + 1) ∉ U) :
    Calls Tryz.prog 33 #[.pointer (some ⟨pb, 0, none⟩)] w fun e w' => e = .returned (.tuple #[.int .i64 ((taken : Int) + 1), .int .u8 0]) ∧ PoolAt w' pb mb most (taken + 1) (U ++ [(taken : Int) + 1]) ∧ Chg w w' [pb, mb] := by
  have p0 := h.blk.cell 0
  have p1 := h.blk.cell 1
  have p2 := h.blk.cell 2
  have f1 := h.blk.frozen 1
  have hlt := h.blk.lt
  have HL := Lib.hid (pool_left h hle (by omega))
  have hem : (taken : Int) % 65535 = (taken : Int) := by omega
  have hd : ¬ (most : Int) - (U.length : Int) = 0 := by omega
  go_enter Tryz.func33, Tryz.ntmps33
  go_wp2_with (go_at_call 52; refine HL.out.mono ?_; rintro e w1 ⟨⟨n1, rfl⟩, rfl⟩)
  obtain ⟨w0, hw0⟩ : ∃ w0, w0 = w.drewN n1 := ⟨_, rfl⟩
  have hp0 : PoolAt w0 pb mb most taken U := h.chg (hw0 ▸ (Chg.refl w []).drewN n1) (by simp) (by simp)
  have hc0 : Chg w w0 [pb, mb] := hw0 ▸ (Chg.refl w [pb, mb]).drewN n1
  rw [← hw0]
  have HP0 := Lib.hid hp0
  have HC0 := Lib.hid hc0
  have HN := Lib.hid hn
  clear hw0 hp0 hc0 p0 p1 p2 f1 h HL hn
  go_loopw [11] (fun _ wr => wr = w0) (fun _ _ => 0)
  case atStart => rfl
  case round =>
    subst hrel
    have p1 := HP0.out.blk.cell 1
    have p2 := HP0.out.blk.cell 2
    have f1 := HP0.out.blk.frozen 1
    have hb1 := HP0.out.blk.put 1 (.int .i64 ((taken : Int) + 1))
    have hs1 : SetAt (wr.setCell ⟨pb, 1, none⟩ (.int .i64 ((taken : Int) + 1))) mb U := HP0.out.set.chg ((Chg.refl wr [pb]).put _ (.inl (by simp)) _) (by have := HP0.out.ne; simp; omega)
    have hc1 : Chg wr (wr.setCell ⟨pb, 1, none⟩ (.int .i64 ((taken : Int) + 1))) [pb, mb] := (Chg.refl wr _).put _ (.inl (by simp)) _
    have q1 := hb1.cell 1
    have q2 := hb1.cell 2
    have hlook : ∀ n, (Instr.lookup 79 (.map (some mb)) (.int .i64 ((taken : Int) + 1)) false).run Tryz.prog ((wr.setCell ⟨pb, 1, none⟩ (.int .i64 ((taken : Int) + 1))).drewN n) = .ok (.bool false) ((wr.setCell ⟨pb, 1, none⟩ (.int .i64 ((taken : Int) + 1))).drewN n) := fun n => by
      have := (hs1.chg ((Chg.refl _ []).drewN n) (by simp)).look (m := (taken : Int) + 1) ⟨by omega, by omega⟩
      rwa [decide_eq_false HN.out] at this
    have HB1 := Lib.hid hb1
    have HS1 := Lib.hid hs1
    have HC1 := Lib.hid hc1
    clear hb1 hs1 hc1
    go_wp2_with fail
    go_quiet (fail)
    go_wp2_with fail
    obtain ⟨W5, hW5⟩ : ∃ W5, W5 = (wr.setCell ⟨pb, 1, none⟩ (.int .i64 ((taken : Int) + 1))).drewN nq := ⟨_, rfl⟩
    have hc5 : Chg wr W5 [pb, mb] := hW5 ▸ HC1.out.drewN nq
    have hb5 : Blk W5 pb 81 #[.int .i64 (most : Int), .int .i64 ((taken : Int) + 1), .map (some mb)] := hW5 ▸ HB1.out.drewN nq
    have hs5 : SetAt W5 mb U := hW5 ▸ HS1.out.chg ((Chg.refl _ []).drewN nq) (by simp)
    rw [← hW5]
    clear hW5 hlook HB1 HS1 HC1 q1 q2 p1 p2 f1
    have q1 : W5.cell? ⟨pb, 1, none⟩ = some (.int .i64 ((taken : Int) + 1)) := hb5.cell 1
    have q2 : W5.cell? ⟨pb, 2, none⟩ = some (.map (some mb)) := hb5.cell 2
    obtain ⟨w7, hput, hs7, hc7⟩ := (hs5.chg (Chg.refl _ []).drew (by simp)).put (by omega) (m := (taken : Int) + 1) ⟨by omega, by omega⟩ HN.out
    have hb7 := (hb5.drew).chg hc7 (by have := HP0.out.ne; simp; omega)
    have r1 : w7.cell? ⟨pb, 1, none⟩ = some (.int .i64 ((taken : Int) + 1)) := hb7.cell 1
    have r2 : w7.cell? ⟨pb, 2, none⟩ = some (.map (some mb)) := hb7.cell 2
    have HS7 := Lib.hid hs7
    have HC7 := Lib.hid (((HC0.out.trans hc5 fun b hb => .inl hb).drew).trans hc7 fun b hb => .inl (by simp at hb; simp [hb]))
    have HB7 := Lib.hid hb7
    clear hs7 hc7 hb7 hb5 hs5 hc5
    go_region_held3 (fun w' => w'.cell? ⟨pb, 1, none⟩ = some (.int .i64 ((taken : Int) + 1)) ∧ w'.cell? ⟨pb, 2, none⟩ = some (.map (some mb))) (first | go_keep | assumption | exact ⟨by assumption, by assumption⟩) (fail)
    go_wp2_with fail
    go_ret2
    exact ⟨rfl, ⟨by rw [show ((taken + 1 : Nat) : Int) = (taken : Int) + 1 from rfl]; exact HB7.out, HS7.out⟩, HC7.out⟩
set_option maxHeartbeats 1600000 in
theorem pool_claim {pb mb most taken : Nat} (h : PoolAt w pb mb most taken U) (hle : most ≤ 64) (hU : U.length < most) {id : Int} (h1 : 1 ≤ id) (h2 : id ≤ 65535) (hn : id ∉ U) :
    Calls Tryz.prog 53 #[.pointer (some ⟨pb, 0, none⟩), .int .i64 id] w fun e w' => e = .returned (.int .u8 0) ∧ PoolAt w' pb mb most taken (U ++ [id]) ∧ Chg w w' [pb, mb] := by
  have p2 := h.blk.cell 2
  have hlt := h.blk.lt
  have HL := Lib.hid (pool_left h hle (by omega))
  have i1 : ¬ id < 1 := by omega
  have i2 : ¬ 65535 < id := by omega
  have hd : ¬ (most : Int) - (U.length : Int) = 0 := by omega
  have hlook := h.set.look (m := id) ⟨by omega, by omega⟩
  rw [decide_eq_false hn] at hlook
  have HH := Lib.hid h
  have HN := Lib.hid hn
  clear h hn
  go_enter Tryz.func53, Tryz.ntmps53
  go_wp2_with fail
  refine HL.out.mono ?_
  rintro e w1 ⟨⟨n1, rfl⟩, rfl⟩
  obtain ⟨w7, hput, hs7, hc7⟩ := (HH.out.set.chg ((Chg.refl _ []).drewN n1) (by simp)).put (by omega) (m := id) ⟨by omega, by omega⟩ HN.out
  have hb7 := (HH.out.blk.drewN n1).chg hc7 (by have := HH.out.ne; simp; omega)
  have HS7 := Lib.hid hs7
  have HC7 := Lib.hid (((Chg.refl w [pb, mb]).drewN n1).trans hc7 fun b hb => .inl (by simp at hb; simp [hb]))
  have HB7 := Lib.hid hb7
  clear hs7 hc7 hb7
  go_wp2_with fail
  go_ret
  exact ⟨rfl, ⟨HB7.out, HS7.out⟩, HC7.out⟩
set_option maxHeartbeats 1600000 in
theorem pool_free {pb mb most taken : Nat} (h : PoolAt w pb mb most taken U) {id : Int} (h64 : I64 id) :
    Calls Tryz.prog 30 #[.pointer (some ⟨pb, 0, none⟩), .int .i64 id] w fun e w' => e = .returned (.bool (decide (id ∈ U))) ∧ PoolAt w' pb mb most taken (U.erase id) ∧ Chg w w' [pb, mb] := by
  have p2 := h.blk.cell 2
  have hlt := h.blk.lt
  have hlook := h.set.look (m := id) h64
  have HH := Lib.hid h
  by_cases hm : id ∈ U
  · rw [decide_eq_true hm] at hlook
    obtain ⟨w7, hdrop, hs7, hc7⟩ := h.set.drop h64 hm 0
    have hb7 := h.blk.chg hc7 (by have := h.ne; simp; omega)
    have HS7 := Lib.hid hs7
    have HC7 := Lib.hid (hc7.mono (T := [pb, mb]) fun b hb => .inl (by simp at hb; simp [hb]))
    have HB7 := Lib.hid hb7
    have HM := Lib.hid hm
    clear hs7 hc7 hb7 h hm
    go_enter Tryz.func30, Tryz.ntmps30
    go_wp2_with fail
    go_ret
    exact ⟨by rw [decide_eq_true HM.out]; rfl, ⟨HB7.out, HS7.out⟩, HC7.out⟩
  · rw [decide_eq_false hm] at hlook
    have HM := Lib.hid hm
    clear h hm
    go_enter Tryz.func30, Tryz.ntmps30
    go_wp2_with fail
    go_ret
    exact ⟨by rw [decide_eq_false HM.out]; rfl, by rw [List.erase_of_not_mem HM.out]; exact HH.out, Chg.refl _ _⟩
theorem pool_used {pb mb most taken : Nat} (h : PoolAt w pb mb most taken U) (hU : U.length ≤ 64) :
    Calls Tryz.prog 26 #[.pointer (some ⟨pb, 0, none⟩)] w fun e w' => ∃ (v : Value) (ss : List Int), e = .returned v ∧ ss.Perm U ∧ w'.ownsRow w.heap.size 3 1 v ss.length (ss.map (Value.int .i64)) ∧ Chg w w' [] := by
  obtain ⟨D, h2, hh, h3, h4, h5⟩ := h.set
  have hp : U.Perm (intKeys D) := CollectedI.perm (left := fun _ => false) ⟨h5, fun x => by rw [hh x]; simp⟩ h2 keyInt Tryz.underlying3 fun _ => rfl
  refine (used_keys pb mb (Maps.size D) _ _ D _ w h.blk h2 (by rw [h4]; unfold maxLen; omega) (by rw [h4]; omega)).mono fun e w' ⟨v, ss, he, hS, hrow, _, hb⟩ => ?_
  refine ⟨v, ss.mergeSort (fun x y => decide (x ≤ y)), he, ((List.mergeSort_perm ss _).trans hS).trans hp.symm, ?_, ⟨hb.os, hb.tape, hb.output, hb.size, fun k hk _ => hb.block k hk⟩⟩
  rw [List.length_mergeSort]
  exact hrow
end
end Go.Proofs.YtcepfhnlbnlnhaaGreatDoor
