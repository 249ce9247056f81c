/- THE WALKS of the packet's reader's body at the other kinds; of the packet's head. -/
import Derived.Test.YtcepfhnlbnlnhaaDoorGetD
namespace Go.Proofs.YtcepfhnlbnlnhaaDoor
set_option maxRecDepth 100000
open Go.RowKit

section
variable {w : World} {rb pb : Nat} {s : ByteArray}
theorem rend_gen {v : Value} (hb : Blk w rb 82 #[.string s, .int .i64 (s.size : Int)]) : Calls Tryd.prog 51 #[.pointer (some ⟨rb, 0, none⟩), v] w fun e w' => e = .returned (.tuple #[]) ∧ w.grownBy w' none := by
  have HL := Lib.hid (fun (W : World) (hb : Blk W rb 82 #[.string s, .int .i64 (s.size : Int)]) => rleft_any hb)
  rw [decide_eq_false (by omega : ¬ s.size < s.size)] at HL
  have HB := Lib.hid hb
  clear hb
  go_enter Tryd.func51, Tryd.ntmps51
  go_wp2_with fail
  refine (HL.out w HB.out).mono ?_
  rintro e w1 ⟨rfl, hg1⟩
  go_wp2_with fail
  refine (HL.out w1 (HB.out.grown hg1 (by simp))).mono ?_
  rintro e w2 ⟨rfl, hg2⟩
  go_wp2_with fail
  go_end0
  exact ⟨rfl, only_trans hg1 hg2⟩
set_option maxHeartbeats 1600000 in
theorem rbody_sub (hb : Rd w rb s 0) (id q : Nat) (t : ByteArray) (hA : SubAt s id q t) (hid : IdOk id) (hq : q ≤ 2) (hs : s.size ≤ 1000000) (htb : tbad t 0 = none) (hT : U8 w) (hp : Blk w pb 37 (pkZ 8 0 0 ⟨#[]⟩ ⟨#[]⟩ (.slice none 0 0))) (hT1 : ∀ g, g = 0 ∨ g = 1 → g ≠ rb ∧ g ≠ pb) :
    Calls Tryd.prog 34 #[.pointer (some ⟨rb, 0, none⟩), .pointer (some ⟨pb, 0, none⟩)] w fun e w' => e = .returned (.tuple #[]) ∧ ∃ v, Blk w' pb 37 (pkZ 8 0 id ⟨#[]⟩ ⟨#[]⟩ v) ∧ OneSub w' w.heap.size v t q ∧ Duo w w' rb pb := by
  have HB := Lib.hid (rlists_sub hb id q t hA hid hq hs htb hT hp hT1)
  have HL := Lib.hid (fun (W : World) (hb : Blk W rb 82 #[.string s, .int .i64 (s.size : Int)]) => rleft_any hb)
  rw [decide_eq_false (by omega : ¬ s.size < s.size)] at HL
  have c0 : w.cell? ⟨pb, 0, none⟩ = some (.int .i64 8) := hp.cell 0
  clear hA
  unfold Rd at HB
  go_enter Tryd.func34, Tryd.ntmps34
  go_wp2_with fail
  refine HB.out.mono ?_
  rintro e w1 ⟨rfl, v, hp1, ho1, h1, hD1⟩
  go_wp2_with fail
  refine (HL.out _ h1).mono ?_
  rintro e w2 ⟨rfl, hk2⟩
  go_wp2_with (go_at_call 33; refine must_true.mono ?_; rintro e w' ⟨rfl, rfl⟩)
  go_end0
  exact ⟨rfl, v, hp1.grown hk2 (by simp), World.ownsRow.kept ho1 hk2 (by cases v.ownBlock <;> simp), hD1.trans (Duo.of_none hk2)⟩
set_option maxHeartbeats 1600000 in
theorem rbody_puback (hb : Rd w rb s 0) (id : Nat) (hA : numAt s 0 2 = id ∧ s.size = 2) (hid : IdOk id) (hp : Blk w pb 37 (pkZ 4 0 0 ⟨#[]⟩ ⟨#[]⟩ (.slice none 0 0))) :
    Calls Tryd.prog 34 #[.pointer (some ⟨rb, 0, none⟩), .pointer (some ⟨pb, 0, none⟩)] w fun e w' => e = .returned (.tuple #[]) ∧ Blk w' pb 37 (pkZ 4 0 id ⟨#[]⟩ ⟨#[]⟩ (.slice none 0 0)) ∧ Duo w w' rb pb := by
  obtain ⟨hia, hsz⟩ := hA
  have hne : pb ≠ rb := Blk.ne_ hp hb (by decide)
  have hrp : rb ≠ pb := Ne.symm hne
  have HId := Lib.hid (rid_gen 0 (s := s) (by omega) (by omega) (by rw [hia]; have := hid.1; omega) hb)
  rw [hia] at HId
  have HL := Lib.hid (fun (W : World) (hb : Blk W rb 82 #[.string s, .int .i64 (s.size : Int)]) => rleft_any hb)
  rw [decide_eq_false (by omega : ¬ s.size < s.size)] at HL
  have HE := Lib.hid (fun (W : World) (v : Value) (hb : Blk W rb 82 #[.string s, .int .i64 (s.size : Int)]) => rend_gen (v := v) hb)
  have c0 : w.cell? ⟨pb, 0, none⟩ = some (.int .i64 4) := hp.cell 0
  rw [show 0 + 2 = s.size by omega] at HId
  clear hia hsz
  unfold Rd at HId
  go_enter Tryd.func34, Tryd.ntmps34
  go_wp2_with fail
  refine HId.out.mono ?_
  rintro e w1 ⟨rfl, h1, hk1⟩
  have hp1 := hp.grown hk1 (by simpa using hne)
  have d4 : w1.cell? ⟨pb, 4, none⟩ = some (.int .i64 0) := hp1.cell 4
  have f4 := hp1.frozen 4
  have hp2 : Blk (w1.setCell ⟨pb, 4, none⟩ (.int .i64 (id : Int))) pb 37 (pkZ 4 0 id ⟨#[]⟩ ⟨#[]⟩ (.slice none 0 0)) := hp1.put 4 (.int .i64 (id : Int))
  have h2 := Blk.far h1 (p := ⟨pb, 4, none⟩) hrp (.int .i64 (id : Int))
  have hD2 := (Duo.of_left (r := pb) hk1).trans (Duo.of_right (only_put (only_refl w1 (some pb)) 4 (.int .i64 (id : Int))))
  go_wp2_with fail
  refine (HE.out _ _ h2).mono ?_
  rintro e w3 ⟨rfl, hk3⟩
  go_wp2_with fail
  refine (HL.out _ (Blk.grown h2 hk3 (by simp))).mono ?_
  rintro e w4 ⟨rfl, hk4⟩
  go_wp2_with (go_at_call 33; refine must_true.mono ?_; rintro e w' ⟨rfl, rfl⟩)
  go_end0
  exact ⟨rfl, hp2.grown (only_trans hk3 hk4) (by simp), hD2.trans (Duo.of_none (only_trans hk3 hk4))⟩
set_option maxHeartbeats 1600000 in
theorem rbody_ping (hb : Rd w rb s 0) (hs : s.size = 0) (hp : Blk w pb 37 (pkZ 12 0 0 ⟨#[]⟩ ⟨#[]⟩ (.slice none 0 0))) :
    Calls Tryd.prog 34 #[.pointer (some ⟨rb, 0, none⟩), .pointer (some ⟨pb, 0, none⟩)] w fun e w' => e = .returned (.tuple #[]) ∧ Blk w' pb 37 (pkZ 12 0 0 ⟨#[]⟩ ⟨#[]⟩ (.slice none 0 0)) ∧ Duo w w' rb pb := by
  have HL := Lib.hid (fun (W : World) (hb : Blk W rb 82 #[.string s, .int .i64 ((0 : Nat) : Int)]) => rleft_any hb)
  rw [decide_eq_false (by omega : ¬ 0 < s.size)] at HL
  have c0 : w.cell? ⟨pb, 0, none⟩ = some (.int .i64 12) := hp.cell 0
  go_enter Tryd.func34, Tryd.ntmps34
  go_wp2_with fail
  refine (HL.out _ hb).mono ?_
  rintro e w4 ⟨rfl, hk4⟩
  go_wp2_with (go_at_call 33; refine must_true.mono ?_; rintro e w' ⟨rfl, rfl⟩)
  go_end0
  exact ⟨rfl, hp.grown hk4 (by simp), Duo.of_none hk4⟩
theorem pk_one (k q n : Int) (t b : ByteArray) (A : Option Addr) (l c : Nat) : (pkZ k q n t b (.slice A l c)).all (·.oneCell') = true := by simp [pkZ, Value.oneCell']
set_option maxHeartbeats 1600000 in
/-- A packet's head, where it is no Publish. -/
theorem head_gen (h k f : Nat) (hh : (h : Int) / 16 = (k : Int)) (hf : bits .and .i64 (h : Int) 15 = (f : Int)) (hk0 : k ≠ 0) (hk3 : k ≠ 3) (hfl : ∀ W, Calls Tryd.prog 10 #[.int .i64 (k : Int)] W fun e w' => e = .returned (.int .i64 (f : Int)) ∧ W = w') :
    Calls Tryd.prog 32 #[.int .i64 (h : Int)] w fun e w' => e = .returned (.agg (pkZ k 0 0 ⟨#[]⟩ ⟨#[]⟩ (.slice none 0 0))) ∧ w.grownBy w' none := by
  have hR1 := (Blk.new w 37 (ackZ 0 0)).alloc (.cells (ackZ 0 0) 37)
  have hP1 : Blk ((w.alloc (.cells (ackZ 0 0) 37)).alloc (.cells (ackZ 0 0) 37)) (w.heap.size + 1) 37 (ackZ 0 0) := by
    have h := Blk.new (w.alloc (.cells (ackZ 0 0) 37)) 37 (ackZ 0 0)
    rw [show (w.alloc (.cells (ackZ 0 0) 37)).heap.size = w.heap.size + 1 by simp] at h
    exact h
  have hg1 : w.grownBy ((w.alloc (.cells (ackZ 0 0) 37)).alloc (.cells (ackZ 0 0) 37)) none := only_alloc (only_alloc (only_refl w none) _) _
  have hP2 := hP1.rowed (ackZ k 0)
  have hR2 := hR1.rowFar (g := w.heap.size + 1) (by omega) (ackZ k 0)
  have hg2 := only_row hg1 (g := w.heap.size + 1) (by omega) (ackZ k 0)
  have c0 : (((w.alloc (.cells (ackZ 0 0) 37)).alloc (.cells (ackZ 0 0) 37)).setRow (w.heap.size + 1) (ackZ k 0)).cell? ⟨w.heap.size + 1, 0, none⟩ = some (.int .i64 (k : Int)) := hP2.cell 0
  have HQ := Lib.hid (hR2.rowed (ackZ k 0))
  have HF := Lib.hid (only_row hg2 (Nat.le_refl _) (ackZ k 0))
  have hone4 := Lib.hid (ack_one k 0)
  have HFl := Lib.hid hfl
  have e1 : ((k : Int) != 0) = true := by simp; omega
  have e2 : ((k : Int) != 3) = true := by simp; omega
  clear hg2 hg1 hfl
  unfold ackZ at hR1 hP1 hP2 hR2 c0
  go_enter Tryd.func32, Tryd.ntmps32
  go_wp2_with (first
    | (go_at_call 33; refine must_true.mono ?_; rintro e w' ⟨rfl, rfl⟩)
    | (go_at_call 10; refine (HFl.out _).mono ?_; rintro e w' ⟨rfl, rfl⟩)
    | (refine wpList_load_row (by rfl) 37 _ (by rfl) (w.heap.size + 1) (by rfl) 37 _ (0, 0) _ hP2 Tryd.underlying37 (by rfl) (by kernel_rfl) ?_)
    | (refine wpList_store_row (by rfl) 37 _ _ (by rfl) (w.heap.size + 1) (ackZ k 0) (by rfl) (by rfl) 37 _ hP1 (by kernel_rfl) (by rfl) hone4.out ?_; unfold ackZ)
    | (refine wpList_store_row (by rfl) 37 _ _ (by rfl) w.heap.size (ackZ k 0) (by rfl) (by rfl) 37 _ hR2 (by kernel_rfl) (by rfl) hone4.out ?_; unfold ackZ))
  refine bodyPost_ret (v := .agg (ackZ k 0)) ?_ rfl ?_
  · exact results_cell_row (p := 2) Tryd.results32 _ _ w.heap.size 37 (ackZ k 0) (0, 0) _ rfl HQ.out Tryd.underlying37 rfl (by kernel_rfl)
  · exact ⟨rfl, HF.out⟩
end
end Go.Proofs.YtcepfhnlbnlnhaaDoor
