/- THE WALKS of the receiver's Take. -/
import Derived.Test.YtcepfhnlbnlnhaaGreatDoorPkt
import Derived.Deep.RegionHeld3
namespace Go.Proofs.YtcepfhnlbnlnhaaGreatDoor
set_option maxRecDepth 100000
open Go.RowKit

section
variable {w : World}
theorem all_any (v : Value) : Calls Tryz.prog 50 #[v] w fun e w' => w = w' ∧ e = .returned v := by
  go_enter Tryz.func50, Tryz.ntmps50
  go_wp2_with fail
  go_ret
  exact ⟨rfl, rfl⟩
set_option maxHeartbeats 1600000 in
theorem answer_any (k id c : Int) : Calls Tryz.prog 31 #[.int .i64 k, .int .i64 id, .int .u8 c] w fun e w' => e = .returned (.slice (some ⟨w.heap.size, 0, none⟩) 1 1) ∧ RowOf Pkt.enc 26 w' (.slice (some ⟨w.heap.size, 0, none⟩) 1 1) [⟨k, false, 0, id, ⟨#[]⟩, ⟨#[]⟩, c⟩] ∧ Chg w w' [] := by
  obtain ⟨ip, hip, hq0, hq1, hq2⟩ := info_parts Tryz.infoPkt
  have HF := Lib.hid (fill_pkt ⟨k, false, 0, id, ⟨#[]⟩, ⟨#[]⟩, c⟩ ⟨0, false, 0, 0, ⟨#[]⟩, ⟨#[]⟩, 0⟩)
  go_enter Tryz.func31, Tryz.ntmps31
  go_wp2_with (first
    | (refine wpList_buildSliceTo w.heap.size rfl (by rfl) 30 56 1 _ (by rfl) (Pkt.enc ⟨k, false, 0, id, ⟨#[]⟩, ⟨#[]⟩, c⟩) ip _ Tryz.underlying30 hip hq0 (by rw [hq1]; decide) (by rw [hq1]; decide) (by rw [hq1, Array.toList_map]; exact HF.out) ?_)
    | (go_at_call 50; refine (all_any _).mono ?_; rintro e w' ⟨rfl, rfl⟩))
  go_ret
  exact ⟨rfl, row_new Pkt.size w _ _, (Chg.refl w []).alloc _⟩
theorem InAt.ne1 {fb pb mb most taken : Nat} {U : List Int} (h : InAt w fb pb mb most taken U) : fb ≠ pb := h.blk.ne_ h.pool.blk (by decide)
theorem InAt.ne2 {fb pb mb most taken : Nat} {U : List Int} (h : InAt w fb pb mb most taken U) : fb ≠ mb := by
  rintro rfl
  obtain ⟨D, ⟨es, clock, h1, h2⟩, h3⟩ := h.pool.set
  have := h.blk
  unfold Blk at this
  rw [h1] at this
  cases this
theorem InAt.chg {w' : World} {S : List Nat} {fb pb mb most taken : Nat} {U : List Int} (h : InAt w fb pb mb most taken U) (hc : Chg w w' S) (h1 : fb ∉ S) (h2 : pb ∉ S) (h3 : mb ∉ S) : InAt w' fb pb mb most taken U := ⟨h.blk.chg hc h1, h.pool.chg hc h2 h3⟩
/-- What the receiver answers, and what is open then. -/
def Took (w : World) (fb pb mb most taken : Nat) (U : List Int) (b : Bool) (p : Pkt) (e : Ending) (w' : World) : Prop :=
  ∃ g, w.heap.size ≤ g ∧ e = .returned (.tuple #[.bool b, .slice (some ⟨g, 0, none⟩) 1 1, .int .u8 0]) ∧ RowOf Pkt.enc 26 w' (.slice (some ⟨g, 0, none⟩) 1 1) [p] ∧ InAt w' fb pb mb most taken U ∧ Chg w w' [pb, mb]
set_option maxHeartbeats 1600000 in
theorem two_any {fb pb mb most taken : Nat} {U : List Int} (h : InAt w fb pb mb most taken U) (hm : most ≤ 64) (hU : U.length < most) {id : Int} (h1 : 1 ≤ id) (h2 : id ≤ 65535) :
    Calls Tryz.prog 32 #[.pointer (some ⟨fb, 0, none⟩), .int .i64 id, .int .u8 0] w (Took w fb pb mb most taken (if id ∈ U then U else U ++ [id]) (!decide (id ∈ U)) ⟨5, false, 0, id, ⟨#[]⟩, ⟨#[]⟩, 0⟩) := by
  have HH := Lib.hid (has_any h (by omega) id)
  have HI := Lib.hid h
  have n1 := h.ne1
  have n2 := h.ne2
  clear h
  by_cases hm : id ∈ U
  · have hd : decide (id ∈ U) = true := decide_eq_true hm
    rw [if_pos hm]
    have HM := Lib.hid hm
    clear hm
    go_enter Tryz.func32, Tryz.ntmps32
    go_wp2_with fail
    refine HH.out.mono ?_
    rintro e w1 ⟨rfl, hc1⟩
    have HC := Lib.hid hc1
    clear hc1
    go_wp2_with fail
    refine (answer_any 5 id 0).mono ?_
    rintro e w2 ⟨rfl, hr2, hc2⟩
    have HR := Lib.hid hr2
    have HC2 := Lib.hid hc2
    clear hr2 hc2
    go_wp2_with fail
    go_ret3
    have hch := HC.out.trans HC2.out fun b hb => by simp at hb
    exact ⟨w1.heap.size, HC.out.size, by rw [hd]; rfl, HR.out, HI.out.chg hch (by simp) (by simp) (by simp), hch.mono fun b hb => by simp at hb⟩
  · have hd : decide (id ∈ U) = false := decide_eq_false hm
    rw [if_neg hm]
    have HM := Lib.hid hm
    have hl : ¬ (most : Int) - (U.length : Int) = 0 := by omega
    clear hm
    go_enter Tryz.func32, Tryz.ntmps32
    go_wp2_with fail
    refine HH.out.mono ?_
    rintro e w1 ⟨rfl, hc1⟩
    have hi1 := HI.out.chg hc1 (by simp) (by simp) (by simp)
    have p0 := hi1.blk.cell 0
    have HC := Lib.hid hc1
    have HI1 := Lib.hid hi1
    clear hc1 hi1
    go_wp2_with fail
    refine (pool_left HI1.out.pool (by omega) (by omega)).mono ?_
    rintro e w2 ⟨⟨n, rfl⟩, rfl⟩
    have hi2 := HI1.out.chg ((Chg.refl w1 []).drewN n) (by simp) (by simp) (by simp)
    have HI2 := Lib.hid hi2
    clear hi2
    go_wp2_with fail
    refine (pool_claim HI2.out.pool (by omega) hU h1 h2 HM.out).mono ?_
    rintro e w3 ⟨rfl, hp3, hc3⟩
    have HP3 := Lib.hid hp3
    have HC3 := Lib.hid hc3
    clear hp3 hc3
    go_wp2_with fail
    refine (answer_any 5 id 0).mono ?_
    rintro e w4 ⟨rfl, hr4, hc4⟩
    have HR := Lib.hid hr4
    have HC4 := Lib.hid hc4
    clear hr4 hc4
    go_wp2_with fail
    go_ret3
    have hch : Chg w w4 [pb, mb] := (((HC.out.drewN n).mono (T := [pb, mb]) fun b hb => by simp at hb).trans HC3.out fun b hb => .inl hb).trans HC4.out fun b hb => by simp at hb
    have h34 := HC3.out.size
    refine ⟨w3.heap.size, Nat.le_trans HC.out.size h34, by rw [hd]; rfl, HR.out, ⟨HI.out.blk.chg hch (by simp; exact ⟨n1, n2⟩), HP3.out.chg HC4.out (by simp) (by simp)⟩, hch⟩
end
end Go.Proofs.YtcepfhnlbnlnhaaGreatDoor
