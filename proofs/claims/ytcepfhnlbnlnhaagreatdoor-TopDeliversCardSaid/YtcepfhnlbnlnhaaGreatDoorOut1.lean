/- THE WALKS of the sender's flow: a message's packet; a new flow; its ends. -/
import Derived.Test.YtcepfhnlbnlnhaaGreatDoorIn3
namespace Go.Proofs.YtcepfhnlbnlnhaaGreatDoor
set_option maxRecDepth 100000
open Go.RowKit

def pubOf (m : Msg) (id : Int) (d : Bool) : Pkt := ⟨3, d, m.q, id, m.t, m.b, 0⟩
def zPkt : Pkt := ⟨0, false, 0, 0, ⟨#[]⟩, ⟨#[]⟩, 0⟩
theorem infoPktSize : (Tryz.prog.info? 56).map (·.size) = some 26 := by kernel_rfl
section
variable {w : World}
set_option maxHeartbeats 3200000 in
theorem packet_any (m : Msg) (id : Int) (d : Bool) : Calls Tryz.prog 22 #[.agg m.enc, .int .i64 id, .bool d] w fun e w' => e = .returned (.agg (pubOf m id d).enc) ∧ Chg w w' [] := by
  obtain ⟨t, b, q⟩ := m
  have hM := Blk.new w 38 (Msg.enc ⟨t, b, q⟩)
  have hg1 : Chg w (w.alloc (.cells (Msg.enc ⟨t, b, q⟩) 38)) [] := (Chg.refl w []).alloc _
  have hR := Blk.new (w.alloc (.cells (Msg.enc ⟨t, b, q⟩) 38)) 56 zPkt.enc
  rw [show (w.alloc (.cells (Msg.enc ⟨t, b, q⟩) 38)).heap.size = w.heap.size + 1 by simp] at hR
  have hP := Blk.new ((w.alloc (.cells (Msg.enc ⟨t, b, q⟩) 38)).alloc (.cells zPkt.enc 56)) 56 zPkt.enc
  rw [show ((w.alloc (.cells (Msg.enc ⟨t, b, q⟩) 38)).alloc (.cells zPkt.enc 56)).heap.size = w.heap.size + 2 by simp] at hP
  have hM2 := (hM.alloc (.cells zPkt.enc 56)).alloc (.cells zPkt.enc 56)
  have hR2 := hR.alloc (.cells zPkt.enc 56)
  have hg2 := (hg1.alloc (.cells zPkt.enc 56)).alloc (.cells zPkt.enc 56)
  obtain ⟨PE, hPE⟩ : ∃ PE, PE = (pubOf ⟨t, b, q⟩ id d).enc := ⟨_, rfl⟩
  have hM3 := hM2.rowFar (g := w.heap.size + 2) (by omega) PE
  have hR3 := hR2.rowFar (g := w.heap.size + 2) (by omega) PE
  have hP3 := hP.rowed PE
  have hg3 := hg2.row (g := w.heap.size + 2) (.inr (by omega)) PE
  have m4 : _ = some (Value.string ⟨#[]⟩) := hM3.cell 4
  have HR3 := Lib.hid hR3
  have HP3 := Lib.hid hP3
  have HQ := Lib.hid (hR3.rowed PE)
  have HG := Lib.hid (hg3.row (g := w.heap.size + 1) (.inr (by omega)) PE)
  have HP := Lib.hid hP
  have hone := Lib.hid (show PE.all (·.oneCell') = true by rw [hPE]; exact (pubOf ⟨t, b, q⟩ id d).one)
  have HI := Lib.hid (show (Tryz.prog.info? 56).map (·.size) = some PE.size by rw [hPE]; exact infoPktSize)
  clear hM hg1 hR hP hM2 hR2 hg2 hM3 hR3 hP3 hg3
  have HPE := Lib.hid hPE
  clear hPE
  have tok1 : True := trivial
  have tok2 : True := trivial
  have tok3 : True := trivial
  unfold Msg.enc zPkt Pkt.enc at m4
  unfold Msg.enc
  go_enter Tryz.func22, Tryz.ntmps22
  go_wp2_with (first
    | (have _t := tok1; refine wpList_store_row (by rfl) 56 _ _ (by rfl) (w.heap.size + 2) PE (by rfl) (by rw [HPE.out]; rfl) 56 _ HP.out HI.out (by rw [HPE.out]; rfl) hone.out ?_; clear tok1)
    | (have _t := tok2; refine wpList_load_row (by rfl) 56 _ (by rfl) (w.heap.size + 2) (by rfl) 56 _ (0, 0) _ HP3.out Tryz.underlying56 (by rfl) HI.out ?_; clear tok2)
    | (have _t := tok3; refine wpList_store_row (by rfl) 56 _ _ (by rfl) (w.heap.size + 1) PE (by rfl) (by rfl) 56 _ HR3.out HI.out (by rw [HPE.out]; rfl) hone.out ?_; clear tok3))
  refine bodyPost_ret (v := .agg PE) ?_ rfl ?_
  · exact results_cell_row (p := 6) Tryz.results22 _ _ (w.heap.size + 1) 56 PE (0, 0) _ rfl HQ.out Tryz.underlying56 rfl HI.out
  · exact ⟨by rw [HPE.out], HG.out⟩
/-- What is sent to one receiver. -/
structure OutS where
  on : Bool
  most : Nat
  taken : Nat
  fl : List Fl
  wait : List Msg
def foot (fb pb mb : Nat) (fv wv : Value) : List Nat := [fb, pb, mb] ++ (fv.ownBlock.toList ++ wv.ownBlock.toList)
structure OutAt (w : World) (fb pb mb : Nat) (fv wv : Value) (s : OutS) : Prop where
  blk : Blk w fb 61 #[.pointer (some ⟨pb, 0, none⟩), .int .i64 (s.most : Int), .bool s.on, fv, wv]
  pool : PoolAt w pb mb 64 s.taken (s.fl.map Fl.id)
  fls : RowOf Fl.enc 7 w fv s.fl
  wts : RowOf Msg.enc 5 w wv s.wait
  apart : (foot fb pb mb fv wv).Nodup
/-- .. wherever its parts lie. -/
def OutA (w : World) (fb : Nat) (F : List Nat) (s : OutS) : Prop := ∃ pb mb fv wv, OutAt w fb pb mb fv wv s ∧ F = foot fb pb mb fv wv
theorem mem_own {v : Value} {g : Nat} : g ∈ v.ownBlock.toList ↔ v.ownBlock = some g := by simp [Option.mem_toList]
theorem OutAt.lt {fb pb mb : Nat} {fv wv : Value} {s : OutS} (h : OutAt w fb pb mb fv wv s) : ∀ k ∈ foot fb pb mb fv wv, k < w.heap.size := by
  intro k hk
  simp only [foot, List.mem_append, List.mem_cons, List.not_mem_nil, or_false, mem_own] at hk
  rcases hk with (rfl | rfl | rfl) | hk | hk
  · exact h.blk.lt
  · exact h.pool.blk.lt
  · exact h.pool.set.lt
  · exact h.fls.lt k hk
  · exact h.wts.lt k hk
theorem OutAt.chg {w' : World} {S : List Nat} {fb pb mb : Nat} {fv wv : Value} {s : OutS} (h : OutAt w fb pb mb fv wv s) (hc : Chg w w' S) (hS : ∀ k ∈ foot fb pb mb fv wv, k ∉ S) : OutAt w' fb pb mb fv wv s :=
  ⟨h.blk.chg hc (hS _ (by simp [foot])), h.pool.chg hc (hS _ (by simp [foot])) (hS _ (by simp [foot])), h.fls.chg hc fun g hg => hS _ (by simp [foot, hg]), h.wts.chg hc fun g hg => hS _ (by simp [foot, hg]), h.apart⟩
theorem OutA.chg {w' : World} {S F : List Nat} {fb : Nat} {s : OutS} (h : OutA w fb F s) (hc : Chg w w' S) (hS : ∀ k ∈ F, k ∉ S) : OutA w' fb F s := by
  obtain ⟨pb, mb, fv, wv, h, rfl⟩ := h
  exact ⟨pb, mb, fv, wv, h.chg hc hS, rfl⟩
theorem OutA.lt {F : List Nat} {fb : Nat} {s : OutS} (h : OutA w fb F s) : ∀ k ∈ F, k < w.heap.size := by
  obtain ⟨pb, mb, fv, wv, h, rfl⟩ := h
  exact h.lt
theorem OutA.mem {F : List Nat} {fb : Nat} {s : OutS} (h : OutA w fb F s) : fb ∈ F := by
  obtain ⟨pb, mb, fv, wv, h, rfl⟩ := h
  simp [foot]
theorem bounded_any (n : Int) : Calls Tryz.prog 20 #[.int .i64 n] w fun e w' => w = w' ∧ e = .returned (.int .i64 (max 1 (min n 64))) := by
  go_enter Tryz.func20, Tryz.ntmps20
  go_wp2_with fail
  go_ret
  exact ⟨rfl, rfl⟩
set_option maxHeartbeats 1600000 in
theorem out_new (n : Nat) (hn : 1 ≤ n) (hn2 : n ≤ 64) : Calls Tryz.prog 5 #[.int .i64 (n : Int)] w fun e w' => ∃ fb F, e = .returned (.pointer (some ⟨fb, 0, none⟩)) ∧ OutA w' fb F ⟨false, n, 0, [], []⟩ ∧ (∀ k ∈ F, w.heap.size ≤ k) ∧ Chg w w' [] := by
  have hb : max 1 (min (n : Int) 64) = (n : Int) := by omega
  have HN := Lib.hid (pool_new (w := w) 64 64 (by decide))
  go_enter Tryz.func5, Tryz.ntmps5
  go_wp2_with fail
  refine HN.out.mono ?_
  rintro e w1 ⟨pb, mb, rfl, h1, h2, hp, hc⟩
  have HP := Lib.hid hp
  have HC := Lib.hid hc
  clear hp hc
  go_wp2_with fail
  refine (bounded_any (n : Int)).mono ?_
  rintro e w2 ⟨rfl, rfl⟩
  go_wp2_with fail
  go_ret
  have := HP.out.blk.lt
  have := HP.out.set.lt
  have := HP.out.ne
  have hsz := HC.out.size
  refine ⟨w1.heap.size, _, rfl, ⟨pb, mb, .slice none 0 0, .slice none 0 0, ⟨Blk.new w1 _ _, HP.out.chg ((Chg.refl _ []).alloc _) (by simp) (by simp), RowOf.nil _ _ _, RowOf.nil _ _ _, ?_⟩, rfl⟩, ?_, HC.out.alloc _⟩
  · simp [foot, Value.ownBlock]
    omega
  · intro k hk
    simp [foot, Value.ownBlock] at hk
    omega
end
end Go.Proofs.YtcepfhnlbnlnhaaGreatDoor
