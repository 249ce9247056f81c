/- THE WALKS of the receiver's Take. -/
import Derived.Test.YtcepfhnlbnlnhaaGreatDoorIn2
import Derived.Deep.RegionHeld3
import Derived.BigQuiet
namespace Go.Proofs.YtcepfhnlbnlnhaaGreatDoor
set_option maxRecDepth 100000
open Go.RowKit

section
variable {w : World}
theorem pkt_cells {g : Nat} {t : TypeId} {p : Pkt} (h : Blk w g t p.enc) : w.cell? ⟨g, 0, none⟩ = some (.int .i64 p.k) ∧ w.cell? ⟨g, 3, none⟩ = some (.int .i64 p.q) ∧ w.cell? ⟨g, 4, none⟩ = some (.int .i64 p.n) ∧ w.cell? ⟨g, 6, none⟩ = some (.string p.b) ∧ w.cell? ⟨g, 7, none⟩ = some (.int .u8 p.c) :=
  ⟨h.cell 0, h.cell 3, h.cell 4, h.cell 6, h.cell 7⟩
set_option maxHeartbeats 3200000 in
theorem take_one {fb pb mb most taken : Nat} {U : List Int} (h : InAt w fb pb mb most taken U) (d : Bool) {id : Int} (h1 : 1 ≤ id) (h2 : id ≤ 65535) (t b : ByteArray) :
    Calls Tryz.prog 18 #[.pointer (some ⟨fb, 0, none⟩), .agg (Pkt.enc ⟨3, d, 1, id, t, b, 0⟩), .int .u8 0] w (Took w fb pb mb most taken U true ⟨4, false, 0, id, ⟨#[]⟩, ⟨#[]⟩, 0⟩) := by
  have i1 : ¬ id < 1 := by omega
  have i2 : ¬ 65535 < id := by omega
  have HI := Lib.hid h
  have hlt := h.blk.lt
  clear h
  unfold Pkt.enc
  go_enter Tryz.func18, Tryz.ntmps18
  go_wp2_with fail
  go_quiet (fail)
  obtain ⟨w1, hw1⟩ : ∃ w1, w1 = (w.alloc (.cells (Pkt.enc ⟨3, d, 1, id, t, b, 0⟩) 56)).drewN nq := ⟨_, rfl⟩
  have hc1 : Chg w w1 [] := hw1 ▸ ((Chg.refl w []).alloc _).drewN nq
  obtain ⟨y0, y3, y4, y6, y7⟩ := pkt_cells (hw1 ▸ (Blk.new w 56 (Pkt.enc ⟨3, d, 1, id, t, b, 0⟩)).drewN nq : Blk w1 w.heap.size 56 (Pkt.enc ⟨3, d, 1, id, t, b, 0⟩))
  unfold Pkt.enc at hw1
  rw [← hw1]
  clear hw1
  have HC1 := Lib.hid hc1
  clear hc1
  go_wp2_with fail
  refine (answer_any 4 id 0).mono ?_
  rintro e w2 ⟨rfl, hr2, hc2⟩
  have HR := Lib.hid hr2
  have HC2 := Lib.hid hc2
  clear hr2 hc2
  go_wp2_with fail
  go_ret3
  have hch := HC1.out.trans HC2.out fun b hb => by simp at hb
  exact ⟨w1.heap.size, HC1.out.size, rfl, HR.out, HI.out.chg hch (by simp) (by simp) (by simp), hch.mono fun b hb => by simp at hb⟩
set_option maxHeartbeats 3200000 in
theorem take_two {fb pb mb most taken : Nat} {U : List Int} (h : InAt w fb pb mb most taken U) (hm : most ≤ 64) (hU : U.length < most) (d : Bool) {id : Int} (h1 : 1 ≤ id) (h2 : id ≤ 65535) (t b : ByteArray) :
    Calls Tryz.prog 18 #[.pointer (some ⟨fb, 0, none⟩), .agg (Pkt.enc ⟨3, d, 2, id, t, b, 0⟩), .int .u8 0] w (Took w fb pb mb most taken (if id ∈ U then U else U ++ [id]) (!decide (id ∈ U)) ⟨5, false, 0, id, ⟨#[]⟩, ⟨#[]⟩, 0⟩) := by
  have i1 : ¬ id < 1 := by omega
  have i2 : ¬ 65535 < id := by omega
  have HI := Lib.hid h
  have HT := Lib.hid (fun (W : World) (hi : InAt W fb pb mb most taken U) => two_any hi hm hU h1 h2)
  generalize (if id ∈ U then U else U ++ [id]) = U' at *
  generalize (!decide (id ∈ U)) = bb at *
  have hlt := h.blk.lt
  clear h
  unfold Pkt.enc
  go_enter Tryz.func18, Tryz.ntmps18
  go_wp2_with fail
  go_quiet (fail)
  obtain ⟨w1, hw1⟩ : ∃ w1, w1 = (w.alloc (.cells (Pkt.enc ⟨3, d, 2, id, t, b, 0⟩) 56)).drewN nq := ⟨_, rfl⟩
  have hc1 : Chg w w1 [] := hw1 ▸ ((Chg.refl w []).alloc _).drewN nq
  obtain ⟨y0, y3, y4, y6, y7⟩ := pkt_cells (hw1 ▸ (Blk.new w 56 (Pkt.enc ⟨3, d, 2, id, t, b, 0⟩)).drewN nq : Blk w1 w.heap.size 56 (Pkt.enc ⟨3, d, 2, id, t, b, 0⟩))
  unfold Pkt.enc at hw1
  rw [← hw1]
  clear hw1
  have HI1 := Lib.hid (HI.out.chg hc1 (by simp) (by simp) (by simp))
  have HC1 := Lib.hid hc1
  clear hc1
  go_wp2_with fail
  refine (HT.out _ HI1.out).mono ?_
  rintro e w2 ⟨g, hg, rfl, hr2, hi2, hc2⟩
  have HR := Lib.hid hr2
  have HI2 := Lib.hid hi2
  have HC2 := Lib.hid hc2
  clear hr2 hc2 hi2
  go_wp2_with fail
  go_ret3
  exact ⟨g, Nat.le_trans HC1.out.size hg, rfl, HR.out, HI2.out, (HC1.out.mono (T := [pb, mb]) fun b hb => by simp at hb).trans HC2.out fun b hb => .inl hb⟩
set_option maxHeartbeats 3200000 in
theorem take_rel {fb pb mb most taken : Nat} {U : List Int} (h : InAt w fb pb mb most taken U) {id : Int} (h1 : 1 ≤ id) (h2 : id ≤ 65535) :
    Calls Tryz.prog 18 #[.pointer (some ⟨fb, 0, none⟩), .agg (Pkt.enc ⟨6, false, 0, id, ⟨#[]⟩, ⟨#[]⟩, 0⟩), .int .u8 0] w fun e w' => ∃ c : Int, Took w fb pb mb most taken (U.erase id) false ⟨7, false, 0, id, ⟨#[]⟩, ⟨#[]⟩, c⟩ e w' := by
  have i1 : ¬ id < 1 := by omega
  have i2 : ¬ 65535 < id := by omega
  have HI := Lib.hid h
  have hlt := h.blk.lt
  have n1 := h.ne1
  have n2 := h.ne2
  have hpl := h.pool.blk.lt
  have hml := h.pool.set.lt
  have hc1 := (((Chg.refl w []).alloc (.cells (Pkt.enc ⟨6, false, 0, id, ⟨#[]⟩, ⟨#[]⟩, 0⟩) 56)).drew)
  obtain ⟨y0, y3, y4, y6, y7⟩ := pkt_cells (Blk.new w 56 (Pkt.enc ⟨6, false, 0, id, ⟨#[]⟩, ⟨#[]⟩, 0⟩))
  have hi1 := h.chg hc1 (by simp) (by simp) (by simp)
  have HFree := Lib.hid (pool_free hi1.pool (id := id) ⟨by omega, by omega⟩)
  have z0 : (w.alloc (.cells (Pkt.enc ⟨6, false, 0, id, ⟨#[]⟩, ⟨#[]⟩, 0⟩) 56)).cell? ⟨fb, 0, none⟩ = some (.pointer (some ⟨pb, 0, none⟩)) := hi1.blk.cell 0
  clear h hi1
  unfold Pkt.enc at y0 y3 y4 y6 y7 z0 HFree hc1 ⊢
  have HC1 := Lib.hid hc1
  clear hc1
  go_enter Tryz.func18, Tryz.ntmps18
  go_wp2_with fail
  go_region_held3 (fun w' => w'.cell? ⟨w.heap.size, 0, none⟩ = some (.int .i64 6) ∧ w'.cell? ⟨w.heap.size, 4, none⟩ = some (.int .i64 id) ∧ w'.cell? ⟨fb, 0, none⟩ = some (.pointer (some ⟨pb, 0, none⟩))) (first | go_keep | assumption | exact ⟨by assumption, by assumption, by assumption⟩)
    (first
      | (go_at_call 30; refine HFree.out.mono ?_; rintro e w3 ⟨rfl, hp3, hc3⟩; have k0 : w3.cell? ⟨w.heap.size, 0, none⟩ = some (.int .i64 6) := hc3.cell y0 (by simp; omega); have k1 : w3.cell? ⟨w.heap.size, 4, none⟩ = some (.int .i64 id) := hc3.cell y4 (by simp; omega); have k2 : w3.cell? ⟨fb, 0, none⟩ = some (.pointer (some ⟨pb, 0, none⟩)) := hc3.cell z0 (by simp; exact ⟨n1, n2⟩)))
  have HP3 := Lib.hid hp3
  have HC3 := Lib.hid hc3
  clear hp3 hc3
  have fin : ∀ (w4 : World), RowOf Pkt.enc 26 w4 (.slice (some ⟨w3.heap.size, 0, none⟩) 1 1) [⟨7, false, 0, id, ⟨#[]⟩, ⟨#[]⟩, 0⟩] ∨ RowOf Pkt.enc 26 w4 (.slice (some ⟨w3.heap.size, 0, none⟩) 1 1) [⟨7, false, 0, id, ⟨#[]⟩, ⟨#[]⟩, 146⟩] → Chg w3 w4 [] →
      ∃ c : Int, Took w fb pb mb most taken (U.erase id) false ⟨7, false, 0, id, ⟨#[]⟩, ⟨#[]⟩, c⟩ (.returned (.tuple #[.bool false, .slice (some ⟨w3.heap.size, 0, none⟩) 1 1, .int .u8 0])) w4 := by
    intro w4 hr hc4
    have hch : Chg w w4 [pb, mb] := ((HC1.out.mono (T := [pb, mb]) fun b hb => by simp at hb).trans HC3.out fun b hb => .inl hb).trans hc4 fun b hb => by simp at hb
    have hle : w.heap.size ≤ w3.heap.size := Nat.le_trans HC1.out.size HC3.out.size
    rcases hr with hr | hr
    · exact ⟨0, w3.heap.size, hle, rfl, hr, ⟨HI.out.blk.chg hch (by simp; exact ⟨n1, n2⟩), HP3.out.chg hc4 (by simp) (by simp)⟩, hch⟩
    · exact ⟨146, w3.heap.size, hle, rfl, hr, ⟨HI.out.blk.chg hch (by simp; exact ⟨n1, n2⟩), HP3.out.chg hc4 (by simp) (by simp)⟩, hch⟩
  have FIN := Lib.hid fin
  clear fin
  cases hbb : decide (id ∈ U) with
  | true =>
    clear hbb
    go_wp2_with fail
    refine (answer_any 7 id 0).mono ?_
    rintro e w4 ⟨rfl, hr4, hc4⟩
    have HR := Lib.hid hr4
    have HC4 := Lib.hid hc4
    clear hr4 hc4
    go_wp2_with fail
    go_ret3
    exact FIN.out w4 (.inl HR.out) HC4.out
  | false =>
    clear hbb
    go_wp2_with fail
    refine (answer_any 7 id 146).mono ?_
    rintro e w4 ⟨rfl, hr4, hc4⟩
    have HR := Lib.hid hr4
    have HC4 := Lib.hid hc4
    clear hr4 hc4
    go_wp2_with fail
    go_ret3
    exact FIN.out w4 (.inr HR.out) HC4.out
end
end Go.Proofs.YtcepfhnlbnlnhaaGreatDoor
