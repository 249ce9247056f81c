/- THE WALKS of the sender's End, Flights, Waiting. -/
import Derived.Test.YtcepfhnlbnlnhaaGreatDoorOut1
import Derived.Lib.SliceRun
namespace Go.Proofs.YtcepfhnlbnlnhaaGreatDoor
set_option maxRecDepth 100000
open Go.RowKit

section
variable {w : World}
theorem OutAt.set {fb pb mb : Nat} {fv wv fv' wv' : Value} {s s' : OutS} (h : OutAt w fb pb mb fv wv s) {w' : World} {S : List Nat} (hc : Chg w w' S) (hp : pb ∉ S) (hm : mb ∉ S)
    (hb : Blk w' fb 61 #[.pointer (some ⟨pb, 0, none⟩), .int .i64 (s'.most : Int), .bool s'.on, fv', wv']) (ht : s'.taken = s.taken) (hf : s'.fl.map Fl.id = s.fl.map Fl.id) (h1 : RowOf Fl.enc 7 w' fv' s'.fl) (h2 : RowOf Msg.enc 5 w' wv' s'.wait) (h3 : (foot fb pb mb fv' wv').Nodup) : OutAt w' fb pb mb fv' wv' s' :=
  ⟨hb, by rw [ht, hf]; exact h.pool.chg hc hp hm, h1, h2, h3⟩
theorem OutAt.fresh {fb pb mb : Nat} {fv wv : Value} {s : OutS} (h : OutAt w fb pb mb fv wv s) : pb ≠ fb ∧ mb ≠ fb ∧ (∀ g, fv.ownBlock = some g → g ≠ fb ∧ g ≠ pb ∧ g ≠ mb) ∧ (∀ g, wv.ownBlock = some g → g ≠ fb ∧ g ≠ pb ∧ g ≠ mb) ∧ (∀ g, fv.ownBlock = some g → wv.ownBlock ≠ some g) ∧ pb ≠ mb := by
  have hn := h.apart
  simp only [foot, List.cons_append, List.nil_append, List.nodup_cons, List.mem_cons, List.mem_append, mem_own, not_or] at hn
  obtain ⟨⟨a1, a2, a3, a4⟩, ⟨b1, b2, b3⟩, ⟨c1, c2⟩, d⟩ := hn
  refine ⟨fun e => a1 e.symm, fun e => a2 e.symm, fun g hg => ⟨?_, ?_, ?_⟩, fun g hg => ⟨?_, ?_, ?_⟩, fun g hg hg2 => ?_, b1⟩
  · rintro rfl; exact a3 hg
  · rintro rfl; exact b2 hg
  · rintro rfl; exact c1 hg
  · rintro rfl; exact a4 hg
  · rintro rfl; exact b3 hg
  · rintro rfl; exact c2 hg
  · rw [hg, hg2] at d
    simp at d
set_option maxHeartbeats 1600000 in
theorem out_end {fb : Nat} {F : List Nat} {s : OutS} (h : OutA w fb F s) : Calls Tryz.prog 10 #[.pointer (some ⟨fb, 0, none⟩)] w fun e w' => e = .returned (.tuple #[]) ∧ OutA w' fb F { s with on := false } ∧ Chg w w' F := by
  obtain ⟨pb, mb, fv, wv, h, rfl⟩ := h
  have c2 := h.blk.cell 2
  have f2 := h.blk.frozen 2
  have hlt := h.blk.lt
  have HH := Lib.hid h
  clear h
  go_enter Tryz.func10, Tryz.ntmps10
  go_wp2_with fail
  go_end0
  obtain ⟨n1, n2, n3, n4, n5, n6⟩ := HH.out.fresh
  have hch : Chg w (w.setCell ⟨fb, 2, none⟩ (.bool false)) [fb] := (Chg.refl w _).put _ (.inl (by simp)) _
  refine ⟨rfl, ⟨pb, mb, fv, wv, HH.out.set hch (by simpa using n1) (by simpa using n2) (HH.out.blk.put 2 _) rfl rfl (HH.out.fls.chg hch fun g hg => by simpa using (n3 g hg).1) (HH.out.wts.chg hch fun g hg => by simpa using (n4 g hg).1) HH.out.apart, rfl⟩, hch.mono fun b hb => .inl (by simp at hb; simp [foot, hb])⟩
set_option maxHeartbeats 1600000 in
theorem clone_fl {A : Option Addr} {c : Nat} (hA : A = none → c = 0) : Calls Tryz.prog 24 #[.slice A 0 c] w fun e w' => (∃ A' c', e = .returned (.slice A' 0 c')) ∧ Chg w w' [] := by
  obtain ⟨ip, hip, hq0, hq1, hq2⟩ := info_parts Tryz.infoFl
  have hq := Lib.run_eql_slice_nil (P := Tryz.prog) w 40 66 A 0 c 0 0 Tryz.underlying40
  cases A with
  | none =>
    obtain rfl := hA rfl
    go_enter Tryz.func24, Tryz.ntmps24
    go_wp2_with fail
    go_ret
    exact ⟨⟨_, _, rfl⟩, Chg.refl _ _⟩
  | some a =>
    go_enter Tryz.func24, Tryz.ntmps24
    go_wp2_with fail
    go_ret
    exact ⟨⟨_, _, rfl⟩, (Chg.refl w []).alloc _⟩
set_option maxHeartbeats 1600000 in
theorem clone_msg {A : Option Addr} {c : Nat} (hA : A = none → c = 0) : Calls Tryz.prog 25 #[.slice A 0 c] w fun e w' => (∃ A' c', e = .returned (.slice A' 0 c')) ∧ Chg w w' [] := by
  obtain ⟨ip, hip, hq0, hq1, hq2⟩ := info_parts Tryz.infoMsg
  have hq := Lib.run_eql_slice_nil (P := Tryz.prog) w 42 38 A 0 c 0 0 Tryz.underlying42
  cases A with
  | none =>
    obtain rfl := hA rfl
    go_enter Tryz.func25, Tryz.ntmps25
    go_wp2_with fail
    go_ret
    exact ⟨⟨_, _, rfl⟩, Chg.refl _ _⟩
  | some a =>
    go_enter Tryz.func25, Tryz.ntmps25
    go_wp2_with fail
    go_ret
    exact ⟨⟨_, _, rfl⟩, (Chg.refl w []).alloc _⟩
set_option maxHeartbeats 1600000 in
theorem flights_any {fb : Nat} {F : List Nat} {s : OutS} (h : OutA w fb F s) (h0 : s.fl = []) : Calls Tryz.prog 14 #[.pointer (some ⟨fb, 0, none⟩)] w fun e w' => (∃ A' c', e = .returned (.slice A' 0 c')) ∧ Chg w w' [] := by
  obtain ⟨pb, mb, fv, wv, h, rfl⟩ := h
  have hr := h.fls
  rw [h0] at hr
  obtain ⟨A, c, hv, hA, _, _⟩ := hr.slice
  have hv : fv = .slice A 0 c := hv
  subst hv
  have p := h.blk.cell 3
  have hlt := h.blk.lt
  clear h hr
  go_enter Tryz.func14, Tryz.ntmps14
  go_wp2_with fail
  refine (clone_fl hA).mono ?_
  rintro e w1 ⟨⟨A', c', rfl⟩, hc⟩
  have HC := Lib.hid hc
  clear hc
  go_wp2_with fail
  go_ret
  exact ⟨⟨_, _, rfl⟩, HC.out⟩
set_option maxHeartbeats 1600000 in
theorem waiting_any {fb : Nat} {F : List Nat} {s : OutS} (h : OutA w fb F s) (h0 : s.wait = []) : Calls Tryz.prog 15 #[.pointer (some ⟨fb, 0, none⟩)] w fun e w' => (∃ A' c', e = .returned (.slice A' 0 c')) ∧ Chg w w' [] := by
  obtain ⟨pb, mb, fv, wv, h, rfl⟩ := h
  have hr := h.wts
  rw [h0] at hr
  obtain ⟨A, c, hv, hA, _, _⟩ := hr.slice
  have hv : wv = .slice A 0 c := hv
  subst hv
  have p := h.blk.cell 4
  have hlt := h.blk.lt
  clear h hr
  go_enter Tryz.func15, Tryz.ntmps15
  go_wp2_with fail
  refine (clone_msg hA).mono ?_
  rintro e w1 ⟨⟨A', c', rfl⟩, hc⟩
  have HC := Lib.hid hc
  clear hc
  go_wp2_with fail
  go_ret
  exact ⟨⟨_, _, rfl⟩, HC.out⟩
end
end Go.Proofs.YtcepfhnlbnlnhaaGreatDoor
