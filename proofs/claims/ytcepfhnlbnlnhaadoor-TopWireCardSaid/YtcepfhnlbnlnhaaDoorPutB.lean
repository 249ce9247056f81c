/- THE WALKS of the packet's writer: publish, subs, lists, body. -/
import Derived.Test.YtcepfhnlbnlnhaaDoorPutA
import Derived.Deep.RegionHeld3
namespace Go.Proofs.YtcepfhnlbnlnhaaDoor
set_option maxRecDepth 100000
open Go.RowKit

/-- A packet's cells. -/
def pkZ (k q n : Int) (t p : ByteArray) (sv : Value) : Array Value :=
  #[.int .i64 k, .bool false, .bool false, .int .i64 q, .int .i64 n, .string t, .string p, .int .u8 0, .slice none 0 0, .slice none 0 0, .string ⟨#[]⟩, .bool false, .int .i64 0, .bool false, .string ⟨#[]⟩, .string ⟨#[]⟩, .int .i64 0,
    .bool false, .slice none 0 0, .bool false, .bool false, .string ⟨#[]⟩, .string ⟨#[]⟩, .bool false, sv, .slice none 0 0]
theorem pkZ_ack (k n : Int) : ackZ k n = pkZ k 0 n ⟨#[]⟩ ⟨#[]⟩ (.slice none 0 0) := rfl
/-- One subscription in memory. -/
def subZ (t : ByteArray) (q : Int) : Array Value := #[.string t, .int .i64 q, .bool false, .bool false, .int .i64 0]
theorem wrap_opts (q : Nat) (hq : q ≤ 2) : IntKind.i64.wrap (IntKind.i64.wrap (IntKind.i64.wrap (q : Int)) + IntKind.i64.wrap 0) = (q : Int) := by
  have : q = 0 ∨ q = 1 ∨ q = 2 := by omega
  rcases this with rfl | rfl | rfl <;> decide
section
variable {w : World} {b c : Nat} {l : List UInt8}
set_option maxHeartbeats 3200000 in
theorem wpublish_any (h : WrAt w b l c) (hT : U8 w) (q id : Nat) (t p : ByteArray) (hid : q ≠ 0 → IdOk id) (ht : t.size ≤ 100) (hp : p.size ≤ 1000) (hl : l.length ≤ 1000) :
    Calls Tryd.prog 24 #[.pointer (some ⟨b, 0, none⟩), .agg (pkZ 3 q id t p (.slice none 0 0))] w fun e w' => e = .returned (.tuple #[]) ∧ WrAt w' b (l ++ tputL t ++ (if q = 0 then [] else be 2 id) ++ [0] ++ p.data.toList) (if c = 0 then tputC t else c) ∧ Lk none b w w' := by
  have hbl := h.lt
  have HX : Blk (w.alloc (.cells (pkZ 3 q id t p (.slice none 0 0)) 37)) w.heap.size 37 (pkZ 3 q id t p (.slice none 0 0)) := Blk.new _ _ _
  have hk0 : Lk none b w (w.alloc (.cells (pkZ 3 q id t p (.slice none 0 0)) 37)) := (Lk.refl none b w).allocR _
  have HTx := Lib.hid (wtext_any (h.allocR (.cells (pkZ 3 q id t p (.slice none 0 0)) 37)) t (by omega) (by omega) (hT.kept (only_alloc (only_refl w none) _)))
  have htl := tputL_len t
  generalize (if c = 0 then tputC t else c) = cc at *
  generalize tputL t = tl at *
  generalize hil : (if q = 0 then [] else be 2 id) = il
  unfold pkZ at *
  go_enter Tryd.func24, Tryd.ntmps24
  go_wp2_with fail
  refine HTx.out.mono ?_
  rintro e w1 ⟨rfl, h1, hk1⟩
  have hX1 := hk1.blk HX (by simp) (by omega) (by decide)
  have x3 := hX1.cell 3
  by_cases hq : q = 0
  · have hq0 : ¬ (0 : Int) < (q : Int) := by omega
    rw [if_pos hq] at hil
    subst hil
    have x9 := hX1.cell 9
    have HPr := Lib.hid (wprops_nil h1 3 (by rw [List.length_append]; omega))
    go_wp2_with fail
    refine HPr.out.mono ?_
    rintro e w2 ⟨rfl, h2, hk2⟩
    have hX2 := hk2.blk hX1 (by simp) (by omega) (by decide)
    have x6 := hX2.cell 6
    have HPa := Lib.hid (wpart_any h2 p 0 (by simp only [List.length_append, List.length_singleton]; omega))
    rw [same_code] at HPa
    go_wp2_with fail
    refine HPa.out.mono ?_
    rintro e w3 ⟨rfl, h3, hk3⟩
    go_wp2_with fail
    go_end0
    exact ⟨rfl, by rw [List.append_nil]; exact h3, ((hk0.trans hk1).trans hk2).trans hk3⟩
  · have hq0 : (0 : Int) < (q : Int) := by omega
    rw [if_neg hq] at hil
    subst hil
    have x4 := hX1.cell 4
    have hi := hid hq
    have HId := Lib.hid (wid_gen h1 id hi.1 (by have := hi.2; omega) (by rw [List.length_append]; omega))
    go_wp2_with fail
    refine HId.out.mono ?_
    rintro e w1' ⟨rfl, h1', hk1'⟩
    have hX1' := hk1'.blk hX1 (by simp) (by omega) (by decide)
    have x9 := hX1'.cell 9
    have hbe := be_length 2 id
    have HPr := Lib.hid (wprops_nil h1' 3 (by simp only [List.length_append]; omega))
    go_wp2_with fail
    refine HPr.out.mono ?_
    rintro e w2 ⟨rfl, h2, hk2⟩
    have hX2 := hk2.blk hX1' (by simp) (by omega) (by decide)
    have x6 := hX2.cell 6
    have HPa := Lib.hid (wpart_any h2 p 0 (by simp only [List.length_append, List.length_singleton]; omega))
    rw [same_code] at HPa
    go_wp2_with fail
    refine HPa.out.mono ?_
    rintro e w3 ⟨rfl, h3, hk3⟩
    go_wp2_with fail
    go_end0
    exact ⟨rfl, h3, (((hk0.trans hk1).trans hk1').trans hk2).trans hk3⟩
set_option maxHeartbeats 1600000 in
theorem wsubs_any (h : WrAt w b l c) (hT : U8 w) (q : Nat) (hq : q ≤ 2) (t : ByteArray) (ht : t.size ≤ 100) (hl : l.length ≤ 1000) {sb sc : Nat} (hsc : 1 ≤ sc) (hS : Blk w sb 47 (subZ t q)) :
    Calls Tryd.prog 43 #[.pointer (some ⟨b, 0, none⟩), .slice (some ⟨sb, 0, none⟩) 1 sc] w fun e w' => e = .returned (.tuple #[]) ∧ WrAt w' b (l ++ tputL t ++ be 1 q) (if c = 0 then tputC t else c) ∧ Lk none b w w' := by
  have hbl := h.lt
  have HS1 := Lib.hid (fun W => wsome_one (w := W) (.pointer (some ⟨b, 0, none⟩)))
  have s0 : w.cell? ⟨sb, 0, none⟩ = some (.string t) := hS.cell 0
  have s1 : w.cell? ⟨sb, 1, none⟩ = some (.int .i64 (q : Int)) := hS.cell 1
  have s2 : w.cell? ⟨sb, 2, none⟩ = some (.bool false) := hS.cell 2
  have s3 : w.cell? ⟨sb, 3, none⟩ = some (.bool false) := hS.cell 3
  have s4 : w.cell? ⟨sb, 4, none⟩ = some (.int .i64 0) := hS.cell 4
  have HX : Blk (w.alloc (.cells (subZ t q) 47)) w.heap.size 47 (subZ t q) := Blk.new _ _ _
  have hk0 : Lk none b w (w.alloc (.cells (subZ t q) 47)) := (Lk.refl none b w).allocR _
  have HTx := Lib.hid (wtext_any (h.allocR (.cells (subZ t q) 47)) t (by omega) (by omega) (hT.kept (only_alloc (only_refl w none) _)))
  have htl := tputL_len t
  generalize (if c = 0 then tputC t else c) = cc at *
  generalize tputL t = tl at *
  have hA : bits .and .i64 (q : Int) 3 = (q : Int) := by
    have : q = 0 ∨ q = 1 ∨ q = 2 := by omega
    rcases this with rfl | rfl | rfl <;> decide
  have hA0 : bits .and .i64 0 3 = 0 := by decide
  have HQ := Lib.hid (fun W (n : Nat) (hn : n ≤ 2) => wqos_ok (w := W) (.pointer (some ⟨b, 0, none⟩)) n hn)
  have HB := Lib.hid (fun W n => bit_no (w := W) n)
  unfold subZ at *
  go_enter Tryd.func43, Tryd.ntmps43
  go_wp2_with (go_at_call 44; refine (HS1.out _).mono ?_; rintro e w' ⟨rfl, rfl⟩)
  refine wp_loop_rounds 2 ?_
  rw [rounds_succ]
  go_wp2_with fail
  refine HTx.out.mono ?_
  rintro e w1 ⟨rfl, h1, hk1⟩
  have hX1 := hk1.blk HX (by simp) (by omega) (by decide)
  have x1 : w1.cell? ⟨w.heap.size, 1, none⟩ = some (.int .i64 (q : Int)) := hX1.cell 1
  have x2 : w1.cell? ⟨w.heap.size, 2, none⟩ = some (.bool false) := hX1.cell 2
  have x3 : w1.cell? ⟨w.heap.size, 3, none⟩ = some (.bool false) := hX1.cell 3
  have x4 : w1.cell? ⟨w.heap.size, 4, none⟩ = some (.int .i64 0) := hX1.cell 4
  have HBy := Lib.hid (fun W (hw : WrAt W b (l ++ tl) cc) => wbyte_any hw q (by omega) (by rw [List.length_append]; omega))
  clear s0 s1 s2 s3 s4 HTx HX hS
  go_wp2_with fail
  refine (HQ.out _ q (by omega)).mono ?_
  rintro e w' ⟨rfl, rfl⟩
  go_wp2_with fail
  refine (HQ.out _ 0 (by omega)).mono ?_
  rintro e w' ⟨rfl, rfl⟩
  have hV := wrap_opts q hq
  go_upto_region 7 with fail
  go_region_held3 (fun w' => w'.cell? ⟨w.heap.size, 1, none⟩ = some (.int .i64 (q : Int)) ∧ w'.cell? ⟨w.heap.size, 2, none⟩ = some (.bool false) ∧ w'.cell? ⟨w.heap.size, 3, none⟩ = some (.bool false) ∧ w'.cell? ⟨w.heap.size, 4, none⟩ = some (.int .i64 0)) (first | go_keep | assumption | exact ⟨by assumption, by assumption, by assumption, by assumption⟩)
    (first
      | (go_at_call 13; refine (HB.out _ _).mono ?_; rintro e w' ⟨rfl, rfl⟩)
      | (go_at_call 22; (try rw [hV]); refine (HBy.out _ (h1.grown (only_drew (only_refl w1 none)))).mono ?_; rintro e w2 ⟨rfl, h2, hk2⟩; have hk2' : Lk none b w1 w2 := (Lk.of_grown (only_drew (only_refl w1 none)) b).trans hk2; have hX2 := hk2'.blk hX1 (by simp) (by omega) (by decide); have n1 : w2.cell? ⟨w.heap.size, 1, none⟩ = some (.int .i64 (q : Int)) := hX2.cell 1; have n2 : w2.cell? ⟨w.heap.size, 2, none⟩ = some (.bool false) := hX2.cell 2; have n3 : w2.cell? ⟨w.heap.size, 3, none⟩ = some (.bool false) := hX2.cell 3; have n4 : w2.cell? ⟨w.heap.size, 4, none⟩ = some (.int .i64 0) := hX2.cell 4))
  go_wp2_with fail
  rw [rounds_succ]
  go_wp2_with fail
  go_end0
  exact ⟨rfl, h2, (hk0.trans hk1).trans hk2'⟩
end
end Go.Proofs.YtcepfhnlbnlnhaaDoor
