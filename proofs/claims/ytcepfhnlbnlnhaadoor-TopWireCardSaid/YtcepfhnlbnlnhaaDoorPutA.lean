/- THE WALKS of the packet's writer: text, byte, id, props; prop.Put of none. -/
import Derived.Test.YtcepfhnlbnlnhaaDoorVar
import Derived.Test.YtcepfhnlbnlnhaaDoorReads4
namespace Go.Proofs.YtcepfhnlbnlnhaaDoor
set_option maxRecDepth 100000
open Go.RowKit

theorem U8.lk {w w' : World} {b : Nat} (h : U8 w) (k : Lk none b w w') (h1 : 0 < b) (h2 : 1 < b) : U8 w' := by
  have key : ∀ (g i : Nat) (v : Value), g < b → w.cell? ⟨g, i, none⟩ = some v → w'.cell? ⟨g, i, none⟩ = some v := by
    intro g i v hg hc
    have hlt := World.block_lt_of_cell? w _ hc
    have hk := k.block g _ (Array.getElem?_eq_getElem hlt) (by simp) (by omega) (.inl hg)
    rw [← hc]
    exact World.cell?_of_block (w := w) (a := ⟨g, i, none⟩) (hk.trans (Array.getElem?_eq_getElem hlt).symm)
  exact ⟨fun c hc => key _ _ _ h1 (h.1 c hc), fun i hi => ⟨key _ _ _ h2 (h.2 i hi).1, key _ _ _ h2 (h.2 i hi).2⟩⟩
theorem U8.small {w : World} (h : U8 w) : 0 < w.heap.size ∧ 1 < w.heap.size :=
  ⟨World.block_lt_of_cell? w _ (h.1 0 (by omega)), World.block_lt_of_cell? w _ (h.2 0 (by omega)).1⟩
theorem WrAt.lt {w : World} {b : Nat} {l : List UInt8} {c : Nat} (h : WrAt w b l c) : b < w.heap.size := by obtain ⟨p, v, hp, hb, hr⟩ := h.at_; exact hb.lt
def tputL (s : ByteArray) : List UInt8 := if tbad s 0 = none then be 2 s.size ++ s.data.toList else []
def tputC (s : ByteArray) : Nat := if tbad s 0 = none then 0 else 129
theorem tputV_eq (s : ByteArray) : tputV s = .tuple #[.string ⟨(tputL s).toArray⟩, .int .u8 (tputC s : Int)] := by
  unfold tputV tputL tputC
  split
  · congr 3
  · rfl
theorem tputL_len (s : ByteArray) : (tputL s).length ≤ 2 + s.size := by
  unfold tputL
  split
  · rw [List.length_append, be_length]; simp
  · simp
theorem bAt_kept {T e : TypeId} {B b : Nat} {p : Value} {bs : List Value} {w w' : World} (h : Lib.BuilderAtF T e B b p bs w) (hb : ∀ k, B ≤ k → k < w.heap.size → w'.heap[k]? = w.heap[k]?) : Lib.BuilderAtF T e B b p bs w' := by
  obtain ⟨hB, v, hk, hr, hne⟩ := h
  refine ⟨hB, v, (hb b hB (Array.getElem?_eq_some_iff.1 hk).1).trans hk, ⟨hr.1, hr.2.imp id ?_⟩, hne⟩
  rintro ⟨g, cap, cur, fz, hv, h0, hg, rest⟩
  exact ⟨g, cap, cur, fz, hv, h0, (hb g h0 (Array.getElem?_eq_some_iff.1 hg).1).trans hg, rest⟩
theorem isB_kept {T e : TypeId} {B b : Nat} {bs : List Value} {w w' : World} (h : Lib.IsBuilderF T e B b bs w) (hb : ∀ k, B ≤ k → k < w.heap.size → w'.heap[k]? = w.heap[k]?) : Lib.IsBuilderF T e B b bs w' :=
  h.imp (fun h => bAt_kept h hb) (fun h => bAt_kept h hb)
section
variable {w : World} {b c : Nat} {l : List UInt8}
theorem same_code (c : Nat) : (if c = 0 then 0 else c) = c := by split <;> omega
set_option maxHeartbeats 1600000 in
theorem wtext_any (h : WrAt w b l c) (s : ByteArray) (hs : s.size ≤ 65535) (hl : l.length ≤ 1000000) (hT : U8 w) : Calls Tryd.prog 35 #[.pointer (some ⟨b, 0, none⟩), .string s] w fun e w' => e = .returned (.tuple #[]) ∧ WrAt w' b (l ++ tputL s) (if c = 0 then tputC s else c) ∧ Lk none b w w' := by
  have hP := tput_any s hs hT
  rw [tputV_eq] at hP
  have hsz := tputL_len s
  generalize tputL s = q at *
  generalize tputC s = d at *
  have HP := Lib.hid hP
  clear hP
  have HW := Lib.hid (fun W (hw : WrAt W b l c) => wpart_any hw ⟨q.toArray⟩ d (by show _ + q.toArray.size ≤ _; simp; omega))
  generalize (if c = 0 then d else c) = cc at *
  go_enter Tryd.func35, Tryd.ntmps35
  go_wp2_with fail
  refine HP.out.mono ?_
  rintro e w1 ⟨rfl, hk1⟩
  go_wp2_with fail
  refine (HW.out w1 (h.grown hk1)).mono ?_
  rintro e w2 ⟨rfl, h2, hk2⟩
  go_wp2_with fail
  go_end0
  exact ⟨rfl, h2, (Lk.of_grown hk1 b).trans hk2⟩
set_option maxHeartbeats 1600000 in
theorem wbyte_any (h : WrAt w b l c) (n : Nat) (hn : n < 256) (hl : l.length ≤ 1000000) : Calls Tryd.prog 22 #[.pointer (some ⟨b, 0, none⟩), .int .i64 (n : Int)] w fun e w' => e = .returned (.tuple #[]) ∧ WrAt w' b (l ++ be 1 n) c ∧ Lk none b w w' := by
  have HF := Lib.hid (fixed_any 1 n (.inl rfl) (by simpa using hn) w)
  have hbl := be_length 1 n
  generalize be 1 n = q at *
  go_enter Tryd.func22, Tryd.ntmps22
  go_wp2_with fail
  refine HF.out.mono ?_
  rintro e w1 ⟨rfl, hb1⟩
  have hg1 := grown_below hb1 (Nat.le_refl _)
  have HP := Lib.hid (wpart_any (h.grown hg1) ⟨q.toArray⟩ 0 (by show _ + q.toArray.size ≤ _; simp; omega))
  go_wp2_with fail
  refine HP.out.mono ?_
  rintro e w2 ⟨rfl, h2, hk2⟩
  rw [same_code] at h2
  go_wp2_with fail
  go_end0
  exact ⟨rfl, by simpa using h2, (Lk.of_grown hg1 b).trans hk2⟩
set_option maxHeartbeats 1600000 in
theorem wtwo_gen (h : WrAt w b l c) (n : Nat) (hn : n < 65536) (hl : l.length ≤ 1000000) : Calls Tryd.prog 36 #[.pointer (some ⟨b, 0, none⟩), .int .i64 (n : Int)] w fun e w' => e = .returned (.tuple #[]) ∧ WrAt w' b (l ++ be 2 n) c ∧ Lk none b w w' := by
  have HF := Lib.hid (fixed_any 2 n (.inr (.inl rfl)) (by simpa using hn) w)
  have hbl := be_length 2 n
  generalize be 2 n = q at *
  go_enter Tryd.func36, Tryd.ntmps36
  go_wp2_with fail
  refine HF.out.mono ?_
  rintro e w1 ⟨rfl, hb1⟩
  have hg1 := grown_below hb1 (Nat.le_refl _)
  have HP := Lib.hid (wpart_any (h.grown hg1) ⟨q.toArray⟩ 0 (by show _ + q.toArray.size ≤ _; simp; omega))
  go_wp2_with fail
  refine HP.out.mono ?_
  rintro e w2 ⟨rfl, h2, hk2⟩
  rw [same_code] at h2
  go_wp2_with fail
  go_end0
  exact ⟨rfl, by simpa using h2, (Lk.of_grown hg1 b).trans hk2⟩
set_option maxHeartbeats 1600000 in
theorem wid_gen (h : WrAt w b l c) (n : Nat) (h1 : 1 ≤ n) (hn : n < 65536) (hl : l.length ≤ 1000000) : Calls Tryd.prog 25 #[.pointer (some ⟨b, 0, none⟩), .int .i64 (n : Int)] w fun e w' => e = .returned (.tuple #[]) ∧ WrAt w' b (l ++ be 2 n) c ∧ Lk none b w w' := by
  have HT := Lib.hid (wtwo_gen h n hn hl)
  have d1 : decide ((n : Int) < 1) = false := by simp; omega
  have d2 : decide ((65535 : Int) < (n : Int)) = false := by simp; omega
  have e1 : ¬ n = 0 := by omega
  have e2 : ¬ 65535 < n := by omega
  go_enter Tryd.func25, Tryd.ntmps25
  go_wp2_with fail
  refine HT.out.mono ?_
  rintro e w1 ⟨rfl, h2, hk2⟩
  go_wp2_with fail
  go_end0
  exact ⟨rfl, h2, hk2⟩
set_option maxHeartbeats 800000 in
theorem wqos_ok (v : Value) (q : Nat) (hq : q ≤ 2) : Calls Tryd.prog 11 #[v, .int .i64 (q : Int)] w fun e w' => e = .returned (.tuple #[]) ∧ w = w' := by
  have d1 : decide ((q : Int) < 0) = false := by simp
  have d2 : decide ((2 : Int) < (q : Int)) = false := by simp; omega
  have e2 : ¬ 2 < q := by omega
  go_enter Tryd.func11, Tryd.ntmps11
  go_wp2_with fail
  go_end0
  exact ⟨rfl, rfl⟩
theorem wsome_one (v : Value) : Calls Tryd.prog 44 #[v, .int .i64 1] w fun e w' => e = .returned (.tuple #[]) ∧ w = w' := by
  go_enter Tryd.func44, Tryd.ntmps44
  go_wp2_with fail
  go_end0
  exact ⟨rfl, rfl⟩
theorem bit_no (n : Int) : Calls Tryd.prog 13 #[.bool false, .int .i64 n] w fun e w' => e = .returned (.int .i64 0) ∧ w = w' := by
  go_enter Tryd.func13, Tryd.ntmps13
  go_wp2_with fail
  go_ret
  exact ⟨rfl, rfl⟩
/-! ### Properties: none -/
set_option maxHeartbeats 800000 in
theorem ixf_nil (f : Value) : Calls Tryd.prog 60 #[.slice none 0 0, f] w fun e w' => e = .returned (.int .i64 (-1)) ∧ w = w' := by
  go_enter Tryd.func60, Tryd.ntmps60
  go_wp2_with fail
  refine wp_loop_rounds 1 ?_
  rw [rounds_succ]
  go_wp2_with fail
  go_ret
  exact ⟨rfl, rfl⟩
theorem contains_nil (f : Value) : Calls Tryd.prog 40 #[.slice none 0 0, f] w fun e w' => e = .returned (.bool false) ∧ w = w' := by
  go_enter Tryd.func40, Tryd.ntmps40
  go_wp2_with fail
  refine (ixf_nil f).mono ?_
  rintro e w' ⟨rfl, rfl⟩
  go_wp2_with fail
  go_ret
  exact ⟨rfl, rfl⟩
set_option maxHeartbeats 800000 in
theorem blen_nil {g : Nat} (hb : Blk w g 54 #[.pointer none, .slice none 0 0]) : Calls Tryd.prog 15 #[.pointer (some ⟨g, 0, none⟩)] w fun e w' => e = .returned (.int .i64 0) ∧ w = w' := by
  have c1 := hb.cell 1
  go_enter Tryd.func15, Tryd.ntmps15
  go_wp2_with fail
  go_ret
  exact ⟨rfl, rfl⟩
set_option maxHeartbeats 3200000 in
theorem pput_nil : Calls Tryd.prog 39 #[.slice none 0 0] w fun e w' => e = .returned (.tuple #[.string ⟨#[0]⟩, .int .u8 0]) ∧ w.grownBy w' none := by
  have hB := Blk.new w 54 #[.pointer none, .slice none 0 0]
  have hI : Lib.IsBuilderF 54 5 w.heap.size w.heap.size (Lib.byteCells []) (w.alloc (.cells #[.pointer none, .slice none 0 0] 54)) := Lib.IsBuilderF.of (Lib.fresh_isBuilder 54 5 w)
  have hV := Lib.hid (fun W => vput_any (w := W) 0 (by omega))
  have hvi : vi 0 = [0] := rfl
  rw [hvi] at hV
  go_enter Tryd.func39, Tryd.ntmps39
  go_wp2_with fail
  refine wp_loop_rounds 1 ?_
  rw [rounds_succ]
  go_wp2_with (go_at_call 15; refine (blen_nil hB).mono ?_; rintro e w' ⟨rfl, rfl⟩)
  refine (hV.out _).mono ?_
  rintro e w1 ⟨rfl, hk1⟩
  have hI1 := isB_kept hI (w' := w1) (fun k _ h2 => hk1.block k h2 (by simp))
  have hs1 := hk1.size
  rw [show (w.alloc (.cells #[.pointer none, .slice none 0 0] 54)).heap.size = w.heap.size + 1 by simp] at hs1
  have HS := Lib.hid (bstr_any w.heap.size w.heap.size [] w1 hI1 (by omega))
  have hg1 : w.grownBy w1 none := only_trans (only_alloc (only_refl w none) _) hk1
  go_wp2_with fail
  refine HS.out.mono ?_
  rintro e w2 ⟨rfl, _, hb2, _⟩
  go_wp2_with fail
  go_ret2
  exact ⟨rfl, ⟨hb2.os.trans hg1.os, hb2.tape.trans hg1.tape, hb2.output.trans hg1.output, Nat.le_trans hg1.size hb2.size, fun i hi _ => (hb2.block i hi).trans (hg1.block i hi (by simp))⟩⟩
/-- Properties of none. -/
theorem wprops_nil (h : WrAt w b l c) (k : Int) (hl : l.length ≤ 1000000) : Calls Tryd.prog 23 #[.pointer (some ⟨b, 0, none⟩), .int .i64 k, .slice none 0 0] w fun e w' => e = .returned (.tuple #[]) ∧ WrAt w' b (l ++ [0]) c ∧ Lk none b w w' := by
  have hmf : ∀ (fn : Fn) (first cap : Array Value) (w : World), (Instr.makeFunc fn first cap).run Tryd.prog w = .ok (.func fn first cap) w := fun _ _ _ _ => rfl
  have h1 := h.allocR (.cells #[.int .i64 k] 28)
  have hk0 : Lk none b w (w.alloc (.cells #[.int .i64 k] 28)) := (Lk.refl none b w).allocR _
  have HP := Lib.hid (fun W => pput_nil (w := W))
  have HW := Lib.hid (fun W (hw : WrAt W b l c) => wpart_any hw ⟨#[0]⟩ 0 (by show _ + 1 ≤ _; omega))
  have HC := Lib.hid (fun W f => contains_nil (w := W) f)
  go_enter Tryd.func23, Tryd.ntmps23
  go_wp2_with fail
  refine (HP.out _).mono ?_
  rintro e w1 ⟨rfl, hk1⟩
  go_wp2_with fail
  refine (HW.out w1 (h1.grown hk1)).mono ?_
  rintro e w2 ⟨rfl, h2, hk2⟩
  rw [same_code] at h2
  go_wp2_with fail
  refine (HC.out _ _).mono ?_
  rintro e w' ⟨rfl, rfl⟩
  go_wp2_with fail
  go_end0
  exact ⟨rfl, h2, (hk0.trans (Lk.of_grown hk1 b)).trans hk2⟩
end
end Go.Proofs.YtcepfhnlbnlnhaaDoor
