/- THE WALKS of the packet's writer: lists, body. -/
import Derived.Test.YtcepfhnlbnlnhaaDoorPutB
namespace Go.Proofs.YtcepfhnlbnlnhaaDoor
set_option maxRecDepth 100000
open Go.RowKit

section
variable {w : World} {b c : Nat} {l : List UInt8}
set_option maxHeartbeats 1600000 in
theorem wlists_any (h : WrAt w b l c) (hT : U8 w) (id q : Nat) (hid : IdOk id) (hq : q ≤ 2) (t : ByteArray) (ht : t.size ≤ 100) (hl : l.length ≤ 100) {sb sc : Nat} (hsc : 1 ≤ sc) (hS : Blk w sb 47 (subZ t q)) (hb1 : 0 < b) (hb2 : 1 < b) :
    Calls Tryd.prog 27 #[.pointer (some ⟨b, 0, none⟩), .agg (pkZ 8 0 id ⟨#[]⟩ ⟨#[]⟩ (.slice (some ⟨sb, 0, none⟩) 1 sc))] w fun e w' => e = .returned (.tuple #[]) ∧ WrAt w' b (l ++ be 2 id ++ [0] ++ tputL t ++ be 1 q) (if c = 0 then tputC t else c) ∧ Lk none b w w' := by
  have hbl := h.lt
  have hsb : sb ≠ b := by
    obtain ⟨p, v, hp, hb, hr⟩ := h.at_
    exact Blk.ne_ hS hb (by decide)
  have HX : Blk (w.alloc (.cells (pkZ 8 0 id ⟨#[]⟩ ⟨#[]⟩ (.slice (some ⟨sb, 0, none⟩) 1 sc)) 37)) w.heap.size 37 (pkZ 8 0 id ⟨#[]⟩ ⟨#[]⟩ (.slice (some ⟨sb, 0, none⟩) 1 sc)) := Blk.new _ _ _
  have hS0 := hS.alloc (.cells (pkZ 8 0 id ⟨#[]⟩ ⟨#[]⟩ (.slice (some ⟨sb, 0, none⟩) 1 sc)) 37)
  have hk0 : Lk none b w (w.alloc (.cells (pkZ 8 0 id ⟨#[]⟩ ⟨#[]⟩ (.slice (some ⟨sb, 0, none⟩) 1 sc)) 37)) := (Lk.refl none b w).allocR _
  have HId := Lib.hid (wid_gen (h.allocR (.cells (pkZ 8 0 id ⟨#[]⟩ ⟨#[]⟩ (.slice (some ⟨sb, 0, none⟩) 1 sc)) 37)) id hid.1 (by have := hid.2; omega) (by omega))
  have hbe := be_length 2 id
  have hT0 := hT.kept (only_alloc (only_refl w none) (.cells (pkZ 8 0 id ⟨#[]⟩ ⟨#[]⟩ (.slice (some ⟨sb, 0, none⟩) 1 sc)) 37))
  have HSu := Lib.hid (fun W (l' : List UInt8) (hw : WrAt W b l' c) (hT : U8 W) (hl : l'.length ≤ 1000) (hS : Blk W sb 47 (subZ t q)) => wsubs_any hw hT q hq t ht hl hsc hS)
  generalize (if c = 0 then tputC t else c) = cc at *
  unfold pkZ at *
  go_enter Tryd.func27, Tryd.ntmps27
  go_wp2_with fail
  refine HId.out.mono ?_
  rintro e w1 ⟨rfl, h1, hk1⟩
  have hX1 := hk1.blk HX (by simp) (by omega) (by decide)
  have hS1 := hk1.blk hS0 (by simp) hsb (by decide)
  have hT1 := hT0.lk hk1 hb1 hb2
  have x0 : w1.cell? ⟨w.heap.size, 0, none⟩ = some (.int .i64 8) := hX1.cell 0
  have x9 := hX1.cell 9
  have HPr := Lib.hid (wprops_nil h1 8 (by simp only [List.length_append]; omega))
  go_wp2_with fail
  refine HPr.out.mono ?_
  rintro e w2 ⟨rfl, h2, hk2⟩
  have hX2 := hk2.blk hX1 (by simp) (by omega) (by decide)
  have hS2 := hk2.blk hS1 (by simp) hsb (by decide)
  have hT2 := hT1.lk hk2 hb1 hb2
  have y0 : w2.cell? ⟨w.heap.size, 0, none⟩ = some (.int .i64 8) := hX2.cell 0
  have y24 := hX2.cell 24
  have HS2 := Lib.hid (HSu.out w2 _ h2 hT2 (by simp only [List.length_append, List.length_singleton]; omega) hS2)
  go_wp2_with fail
  refine HS2.out.mono ?_
  rintro e w3 ⟨rfl, h3, hk3⟩
  go_wp2_with fail
  go_end0
  exact ⟨rfl, h3, ((hk0.trans hk1).trans hk2).trans hk3⟩
set_option maxHeartbeats 1600000 in
theorem wbody_pub (h : WrAt w b l c) (hT : U8 w) (q id : Nat) (t p : ByteArray) (hid : q ≠ 0 → IdOk id) (ht : t.size ≤ 100) (hp : p.size ≤ 1000) (hl : l.length ≤ 1000) :
    Calls Tryd.prog 14 #[.pointer (some ⟨b, 0, none⟩), .agg (pkZ 3 q id t p (.slice none 0 0))] w fun e w' => e = .returned (.tuple #[]) ∧ WrAt w' b (l ++ tputL t ++ (if q = 0 then [] else be 2 id) ++ [0] ++ p.data.toList) (if c = 0 then tputC t else c) ∧ Lk none b w w' := by
  have HX : Blk (w.alloc (.cells (pkZ 3 q id t p (.slice none 0 0)) 37)) w.heap.size 37 (pkZ 3 q id t p (.slice none 0 0)) := Blk.new _ _ _
  have hk0 : Lk none b w (w.alloc (.cells (pkZ 3 q id t p (.slice none 0 0)) 37)) := (Lk.refl none b w).allocR _
  have HP := Lib.hid (wpublish_any (h.allocR (.cells (pkZ 3 q id t p (.slice none 0 0)) 37)) (hT.kept (only_alloc (only_refl w none) _)) q id t p hid ht hp hl)
  generalize (if c = 0 then tputC t else c) = cc at *
  generalize (if q = 0 then [] else be 2 id) = il at *
  unfold pkZ at *
  go_enter Tryd.func14, Tryd.ntmps14
  go_wp2_with (refine wpList_load_row (by rfl) 37 _ (by rfl) w.heap.size (by rfl) 37 _ (0, 0) _ HX Tryd.underlying37 (by rfl) (by kernel_rfl) ?_)
  refine HP.out.mono ?_
  rintro e w1 ⟨rfl, h1, hk1⟩
  go_wp2_with fail
  go_end0
  exact ⟨rfl, h1, hk0.trans hk1⟩
set_option maxHeartbeats 1600000 in
theorem wbody_sub (h : WrAt w b l c) (hT : U8 w) (id q : Nat) (hid : IdOk id) (hq : q ≤ 2) (t : ByteArray) (ht : t.size ≤ 100) (hl : l.length ≤ 100) {sb sc : Nat} (hsc : 1 ≤ sc) (hS : Blk w sb 47 (subZ t q)) (hb1 : 0 < b) (hb2 : 1 < b) :
    Calls Tryd.prog 14 #[.pointer (some ⟨b, 0, none⟩), .agg (pkZ 8 0 id ⟨#[]⟩ ⟨#[]⟩ (.slice (some ⟨sb, 0, none⟩) 1 sc))] w fun e w' => e = .returned (.tuple #[]) ∧ WrAt w' b (l ++ be 2 id ++ [0] ++ tputL t ++ be 1 q) (if c = 0 then tputC t else c) ∧ Lk none b w w' := by
  have HX : Blk (w.alloc (.cells (pkZ 8 0 id ⟨#[]⟩ ⟨#[]⟩ (.slice (some ⟨sb, 0, none⟩) 1 sc)) 37)) w.heap.size 37 (pkZ 8 0 id ⟨#[]⟩ ⟨#[]⟩ (.slice (some ⟨sb, 0, none⟩) 1 sc)) := Blk.new _ _ _
  have hk0 : Lk none b w (w.alloc (.cells (pkZ 8 0 id ⟨#[]⟩ ⟨#[]⟩ (.slice (some ⟨sb, 0, none⟩) 1 sc)) 37)) := (Lk.refl none b w).allocR _
  have HP := Lib.hid (wlists_any (h.allocR (.cells (pkZ 8 0 id ⟨#[]⟩ ⟨#[]⟩ (.slice (some ⟨sb, 0, none⟩) 1 sc)) 37)) (hT.kept (only_alloc (only_refl w none) _)) id q hid hq t ht hl hsc (hS.alloc _) hb1 hb2)
  generalize (if c = 0 then tputC t else c) = cc at *
  unfold pkZ at *
  go_enter Tryd.func14, Tryd.ntmps14
  go_wp2_with (refine wpList_load_row (by rfl) 37 _ (by rfl) w.heap.size (by rfl) 37 _ (0, 0) _ HX Tryd.underlying37 (by rfl) (by kernel_rfl) ?_)
  refine HP.out.mono ?_
  rintro e w1 ⟨rfl, h1, hk1⟩
  go_wp2_with fail
  go_end0
  exact ⟨rfl, h1, hk0.trans hk1⟩
set_option maxHeartbeats 1600000 in
theorem wbody_ping (v : Value) : Calls Tryd.prog 14 #[v, .agg (pkZ 12 0 0 ⟨#[]⟩ ⟨#[]⟩ (.slice none 0 0))] w fun e w' => e = .returned (.tuple #[]) ∧ w' = w.alloc (.cells (pkZ 12 0 0 ⟨#[]⟩ ⟨#[]⟩ (.slice none 0 0)) 37) := by
  unfold pkZ at *
  go_enter Tryd.func14, Tryd.ntmps14
  go_wp2_with fail
  go_end0
  exact ⟨rfl, rfl⟩
end
end Go.Proofs.YtcepfhnlbnlnhaaDoor
