/- THE WALK of flows. -/
import Derived.Test.YtcepfhnlbnlnhaaGreatDoorOut9
namespace Go.Proofs.YtcepfhnlbnlnhaaGreatDoor
set_option maxRecDepth 100000
open Go.RowKit

section
variable {w : World}
def flM : Msg := ⟨⟨#[97]⟩, ⟨#[]⟩, 2⟩
set_option maxHeartbeats 6400000 in
theorem flows_any : Calls Tryz.prog 4 #[] w fun e w' => e = .returned (.bool true) ∧ Chg w w' [] := by
  have HNew := Lib.hid (fun W : World => out_new (w := W) 1 (by omega) (by omega))
  have HIn := Lib.hid (fun W : World => in_new (w := W) 1 1 (by decide))
  go_enter Tryz.func4, Tryz.ntmps4
  go_wp2_with fail
  refine (HNew.out _).mono ?_
  rintro e w1 ⟨fb, F, rfl, hO1, hF1, hc1⟩
  have HO1 := Lib.hid hO1
  have HF1 := Lib.hid hF1
  have HC1 := Lib.hid hc1
  clear hO1 hF1 hc1
  go_wp2_with fail
  refine (HIn.out _).mono ?_
  rintro e w2 ⟨ib, ipb, imb, rfl, hi1, hi2, hi3, -, -, hI2, hc2⟩
  have HI2 := Lib.hid hI2
  have HC2 := Lib.hid hc2
  clear hI2 hc2
  go_wp2_with fail
  have hO2 := HO1.out.chg HC2.out (by simp)
  refine (begin_any hO2 1 (by omega) (by omega) (by simp) (by simp) (by simp) (by simp) (by simp)).mono ?_
  rintro e w3 ⟨v3, rfl, F3, hO3, hr3, hn3, hc3, hF3, hv3⟩
  have hO4 : OutA w3 fb F3 ⟨true, 1, 0, [], []⟩ := hO3
  have HI3 := Lib.hid (HI2.out.chg hc3 (fun hm => by have := HO1.out.lt _ hm; omega) (fun hm => by have := HO1.out.lt _ hm; omega) (fun hm => by have := HO1.out.lt _ hm; omega))
  have HC3 := Lib.hid hc3
  have HF3 := Lib.hid hF3
  have HO3 := Lib.hid hO4
  clear hO3 hO4 hc3 hF3 hr3 hn3 hv3 hO2
  go_wp2_with fail
  refine (send_any HO3.out flM rfl (by decide) (by decide) (by simp) (by simp) (by simp) (by simp) (by simp) (by simp)).mono ?_
  rintro e w4 ⟨v4, rfl, F4, hO4, hr4, hn4, hc4, hF4, hv4⟩
  have hr4' : RowOf Pkt.enc 26 w4 v4 [pubOf flM 1 false] := hr4
  obtain ⟨g, off, cap, rfl, hn1, hn2, hgl, hra, hth⟩ := hr4'.at_ Pkt.size (i := 0) (by simp)
  have hI4 := HI3.out.chg hc4 (fun hm => by
    rcases HF3.out _ hm with h | h
    · have := HO1.out.lt _ h; omega
    · have := HI2.out.blk.lt; omega) (fun hm => by
    rcases HF3.out _ hm with h | h
    · have := HO1.out.lt _ h; omega
    · have := HI2.out.pool.blk.lt; omega) (fun hm => by
    rcases HF3.out _ hm with h | h
    · have := HO1.out.lt _ h; omega
    · have := HI2.out.pool.set.lt; omega)
  have HI4 := Lib.hid hI4
  have HC4 := Lib.hid hc4
  have HRA := Lib.hid hra
  clear hO4 hr4 hr4' hn4 hc4 hF4 hv4 hI4 hra hth
  go_wp2_with fail
  refine reads_any.mono ?_
  rintro e w5 ⟨rfl, hg5⟩
  have hc5 : Chg w4 w5 [] := Chg.of_grown hg5
  have HI5 := Lib.hid (HI4.out.chg hc5 (by simp) (by simp) (by simp))
  have HRA5 := Lib.hid (rangeAt_chg HRA.out hc5 (by simp))
  have HC5 := Lib.hid hc5
  have HSz := Lib.hid (show (Tryz.prog.info? 56).map (·.size) = some (Pkt.enc (pubOf flM 1 false)).toList.length from infoPktSize)
  clear hc5 hg5
  have tok1 : True := trivial
  go_wp2_with (have _t := tok1; refine wpList_load_mid (by rfl) 56 _ (by rfl) g off (by rfl) _ _ HRA5.out Tryz.underlying56 (by rfl) HSz.out ?_; clear tok1)
  refine (take_two HI5.out (by omega) (by simp) false (id := 1) (by omega) (by omega) ⟨#[97]⟩ ⟨#[]⟩).mono ?_
  rintro e w6 ⟨g6, hg6, rfl, hr6, hi6, hc6⟩
  obtain ⟨g', off', cap', hv', -, -, -, hra6, -⟩ := hr6.at_ Pkt.size (i := 0) (by simp)
  obtain ⟨⟨rfl, rfl⟩, rfl⟩ : (g6 = g' ∧ 0 = off') ∧ 1 = cap' := by simpa using hv'
  have k0 : w6.cell? ⟨g6, 0, none⟩ = some (.int .i64 5) := hra6 0 _ rfl
  have HC6 := Lib.hid hc6
  clear hr6 hi6 hra6 hv' hc6
  go_wp2_with fail
  go_ret
  refine ⟨rfl, ?_⟩
  have h1 := HC1.out
  have h2 : Chg w w2 [] := h1.trans HC2.out fun b hb => by simp at hb
  have h3 : Chg w w3 [] := h2.trans HC3.out fun b hb => .inr (HF1.out b hb)
  have h4 : Chg w w4 [] := h3.trans HC4.out fun b hb => by
    rcases HF3.out b hb with h | h
    · exact .inr (HF1.out b h)
    · exact .inr (Nat.le_trans h2.size h)
  have h5 : Chg w w5 [] := h4.trans HC5.out fun b hb => by simp at hb
  have hs := h1.size
  exact h5.trans HC6.out fun b hb => by
    simp only [List.mem_cons, List.not_mem_nil, or_false] at hb
    rcases hb with rfl | rfl <;> exact .inr (by omega)
end
end Go.Proofs.YtcepfhnlbnlnhaaGreatDoor
