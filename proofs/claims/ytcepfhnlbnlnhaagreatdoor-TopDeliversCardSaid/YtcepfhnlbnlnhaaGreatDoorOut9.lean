/- THE WALK of the sender's Answer. -/
import Derived.Test.YtcepfhnlbnlnhaaGreatDoorOut8
import Derived.BigQuiet
namespace Go.Proofs.YtcepfhnlbnlnhaaGreatDoor
set_option maxRecDepth 100000
open Go.RowKit

section
variable {w : World}
theorem ids_apart {l : List Fl} (h : (l.map Fl.id).Nodup) {i k : Nat} (hi : i < l.length) (hk : k < l.length) (hne : k ≠ i) : l[k].id ≠ l[i].id := by
  have hp := List.pairwise_iff_getElem.1 h
  rcases Nat.lt_or_ge k i with hlt | hge
  · have := hp k i (by simpa using hk) (by simpa using hi) hlt
    rwa [List.getElem_map, List.getElem_map] at this
  · have := hp i k (by simpa using hi) (by simpa using hk) (by omega)
    rw [List.getElem_map, List.getElem_map] at this
    exact fun e => this e.symm
theorem flat_rel {l : List Fl} {i : Nat} (h : i < l.length) : flat Fl.enc (l.set i ⟨l[i].id, l[i].m, true⟩) = (flat Fl.enc l).set (i * 7 + 6) (.bool true) := by
  obtain ⟨e1, e2⟩ := flat_split Fl.enc Fl.size h
  have h' : i < (l.set i ⟨l[i].id, l[i].m, true⟩).length := by rw [List.length_set]; exact h
  obtain ⟨e3, e4⟩ := flat_split Fl.enc Fl.size h'
  rw [e3, e1, List.getElem_set_self, List.take_set_of_le (Nat.le_refl _), List.drop_set_of_lt (by omega), List.append_assoc, List.append_assoc, List.set_append_right _ _ (by omega), e2, Nat.add_sub_cancel_left, List.set_append_left _ _ (by simp [Fl.enc])]
  rfl
theorem RowOf.rel {l : List Fl} {i g off cap : Nat} (h : RowOf Fl.enc 7 w (.slice (some ⟨g, off, none⟩) l.length cap) l) (hi : i < l.length) :
    RowOf Fl.enc 7 (w.setCell ⟨g, off + i * 7 + 6, none⟩ (.bool true)) (.slice (some ⟨g, off, none⟩) l.length cap) (l.set i ⟨l[i].id, l[i].m, true⟩) := by
  obtain ⟨g', off', cap', hv, h1, h2, h3, h4, h5⟩ := QRow.form h (by omega)
  obtain ⟨⟨rfl, rfl⟩, rfl⟩ : (g = g' ∧ off = off') ∧ cap = cap' := by simpa using hv
  have hlen : (flat Fl.enc l).length = l.length * 7 := flat_len Fl.enc Fl.size l
  unfold RowOf
  rw [List.length_set, flat_rel hi]
  refine ⟨by rw [List.length_set, hlen], .inr ⟨g, off, cap, rfl, h1, h2, fun j u hu => ?_, World.there_setCells h4 g (off + i * 7 + 6) [.bool true], by simpa using h5⟩⟩
  by_cases hj : i * 7 + 6 = j
  · subst hj
    rw [List.getElem?_set_self (by omega)] at hu
    obtain rfl := Option.some.inj hu
    have h0 := h3 (i * 7 + 6) _ (List.getElem?_eq_getElem (by omega))
    rw [← Nat.add_assoc] at h0 ⊢
    exact World.cell?_setCell_same' w _ _ (by rw [h0]; rfl)
  · rw [List.getElem?_set_ne hj] at hu
    rw [World.cell?_setCell_other w _ _ _ (fun e => hj (by injection e; omega))]
    exact h3 j u hu
set_option maxHeartbeats 6400000 in
theorem ans_ack {fb : Nat} {F : List Nat} {s : OutS} (h : OutA w fb F s) (hon : s.on = true) (hq : ∀ m ∈ s.wait, 0 < m.q) (hm2 : s.most ≤ 64) (hfl : s.fl.length ≤ s.most) (htk : s.taken + s.wait.length < 60000) (hids : ∀ f ∈ s.fl, f.id ≤ (s.taken : Int)) (hid0 : ∀ f ∈ s.fl, 0 < f.id) (hwl : s.wait.length ≤ 1000)
    (i : Nat) (hi : i < s.fl.length) (hq1 : s.fl[i].m.q = 1) (c : Int) (s1 : OutS) (hs1 : s1 = { s with fl := s.fl.eraseIdx i }) :
    Calls Tryz.prog 23 #[.pointer (some ⟨fb, 0, none⟩), .agg (Pkt.enc ⟨4, false, 0, s.fl[i].id, ⟨#[]⟩, ⟨#[]⟩, c⟩)] w fun e w' => ∃ v, e = .returned (.tuple #[v, .int .u8 0]) ∧
      Sent w fb F (s1.gone s1.room) (newPub s1.taken (s1.wait.take s1.room)) v w' := by
  obtain ⟨pb, mb, fv, wv, hO, rfl⟩ := h
  obtain ⟨n, hn⟩ : ∃ n, s.fl.length = n + 1 := ⟨s.fl.length - 1, by omega⟩
  obtain ⟨g, off, cap, hfv, hn1, hn2, hgl, hra, hth⟩ := hO.fls.at_ Fl.size hi
  subst hfv
  have hf := fl_at hra
  have hnd := hO.pool.set.nodup
  have i1 : (i : Int) < (n : Int) + 1 := by omega
  have i2 : ¬ (i : Int) < 0 := by omega
  have hib : i < n + 1 := by omega
  have hidm := hids s.fl[i] (List.getElem_mem hi)
  have hid1 := hid0 s.fl[i] (List.getElem_mem hi)
  have h64 : I64 s.fl[i].id := ⟨by omega, by omega⟩
  rw [hq1] at hf
  generalize hid : s.fl[i].id = id at *
  have hc1 := (Chg.refl w []).alloc (.cells (Pkt.enc ⟨4, false, 0, id, ⟨#[]⟩, ⟨#[]⟩, c⟩) 56)
  have hO1 := hO.chg hc1 (by simp)
  have y := pkt_cells (Blk.new w 56 (Pkt.enc ⟨4, false, 0, id, ⟨#[]⟩, ⟨#[]⟩, c⟩))
  have c2 : (w.alloc (.cells (Pkt.enc ⟨4, false, 0, id, ⟨#[]⟩, ⟨#[]⟩, c⟩) 56)).cell? ⟨fb, 2, none⟩ = some (.bool true) := by rw [← hon]; exact hO1.blk.cell 2
  have c3 : (w.alloc (.cells (Pkt.enc ⟨4, false, 0, id, ⟨#[]⟩, ⟨#[]⟩, c⟩) 56)).cell? ⟨fb, 3, none⟩ = some (.slice (some ⟨g, off, none⟩) (n + 1) cap) := by have := hO1.blk.cell 3; rw [hn] at this; exact this
  obtain ⟨y0, y3, y4, y6, y7⟩ := y
  have hlt := hO.blk.lt
  have HO := Lib.hid hO
  have HN := Lib.hid hn
  have HF := Lib.hid hf
  have HRA := Lib.hid hra
  have HTH := Lib.hid hth
  have HND := Lib.hid hnd
  have HQ := Lib.hid hq
  have HId := Lib.hid hid
  have HIds := Lib.hid hids
  have HC1 := Lib.hid hc1
  have HOn := Lib.hid hon
  have HS1 := Lib.hid hs1
  have HO1 := Lib.hid hO1
  have HIx := Lib.hid (index_fl (hO1.fls) (by omega) w.heap.size id y4 i hi hid (fun k hk hki => hid ▸ ids_apart hnd hi hk (by omega)))
  rw [hn] at HIx
  dsimp only at y0 y3 y4 y6 y7
  clear hO hn hra hth hf hnd hq hid hids hc1 hO1 hon hs1
  unfold Pkt.enc at *
  go_enter Tryz.func23, Tryz.ntmps23
  go_wp2_with fail
  refine HIx.out.mono ?_
  rintro e w2 ⟨rfl, hc2⟩
  have hc12 := HC1.out.trans hc2 fun b hb => by simp at hb
  have x0 := hc2.cell y0 (by simp)
  have x4 := hc2.cell y4 (by simp)
  have x7 := hc2.cell y7 (by simp)
  have d3 := hc2.cell c3 (by simp)
  have e0 := hc12.cell HF.out.1 (by simp)
  have e3 := hc12.cell HF.out.2.2.2.1 (by simp)
  have e6 := hc12.cell HF.out.2.2.2.2.2.2 (by simp)
  have HRA2 := Lib.hid (rangeAt_chg HRA.out hc12 (by simp))
  have HTH2 := Lib.hid (there_chg HTH.out hc12 (by simp))
  have HO2 := Lib.hid (HO1.out.chg hc2 (by simp))
  have HC12 := Lib.hid hc12
  have hwl2 : w.heap.size < w2.heap.size := World.block_lt_of_cell? w2 _ x0
  clear hc2 hc12 y0 y3 y4 y6 y7 c2 c3 HIx HC1 HO1 HF HRA HTH HRA2 HTH2
  go_wp2_with fail
  refine (over_any HO2.out i hi (by omega) (HId.out ▸ h64)).mono ?_
  rintro e w3 ⟨rfl, hO3, hc3⟩
  have HO3 := Lib.hid hO3
  have HC3 := Lib.hid hc3
  clear hO3 hc3
  go_wp2_with fail
  have hs1 := HS1.out
  have hon := HOn.out
  subst hs1
  refine (sent_go ((HC12.out.mono fun b hb => by simp at hb).trans HC3.out fun b hb => .inl hb) (fun k hk => .inl hk) HO3.out hon HQ.out hm2 (by have := List.length_eraseIdx_le s.fl i; dsimp only; omega) htk (fun f hf => HIds.out f (List.mem_of_mem_eraseIdx hf)) hwl (.slice none 0 0) [] (RowOf.nil _ _ _) (by simp [Value.ownBlock]) (fun _ => rfl) (by simp)).mono ?_
  rintro e w4 ⟨v4, rfl, hS⟩
  have HS := Lib.hid hS
  clear hS
  go_wp2_with fail
  go_ret2
  have hS2 := HS.out
  rw [List.nil_append, HOn.out] at hS2
  exact ⟨v4, rfl, hS2⟩
set_option maxHeartbeats 6400000 in
theorem ans_comp {fb : Nat} {F : List Nat} {s : OutS} (h : OutA w fb F s) (hon : s.on = true) (hq : ∀ m ∈ s.wait, 0 < m.q) (hm2 : s.most ≤ 64) (hfl : s.fl.length ≤ s.most) (htk : s.taken + s.wait.length < 60000) (hids : ∀ f ∈ s.fl, f.id ≤ (s.taken : Int)) (hid0 : ∀ f ∈ s.fl, 0 < f.id) (hwl : s.wait.length ≤ 1000)
    (i : Nat) (hi : i < s.fl.length) (hq1 : s.fl[i].rel = true) (c : Int) (s1 : OutS) (hs1 : s1 = { s with fl := s.fl.eraseIdx i }) :
    Calls Tryz.prog 23 #[.pointer (some ⟨fb, 0, none⟩), .agg (Pkt.enc ⟨7, false, 0, s.fl[i].id, ⟨#[]⟩, ⟨#[]⟩, c⟩)] w fun e w' => ∃ v, e = .returned (.tuple #[v, .int .u8 0]) ∧
      Sent w fb F (s1.gone s1.room) (newPub s1.taken (s1.wait.take s1.room)) v w' := by
  obtain ⟨pb, mb, fv, wv, hO, rfl⟩ := h
  obtain ⟨n, hn⟩ : ∃ n, s.fl.length = n + 1 := ⟨s.fl.length - 1, by omega⟩
  obtain ⟨g, off, cap, hfv, hn1, hn2, hgl, hra, hth⟩ := hO.fls.at_ Fl.size hi
  subst hfv
  have hf := fl_at hra
  have hnd := hO.pool.set.nodup
  have i1 : (i : Int) < (n : Int) + 1 := by omega
  have i2 : ¬ (i : Int) < 0 := by omega
  have hib : i < n + 1 := by omega
  have hidm := hids s.fl[i] (List.getElem_mem hi)
  have hid1 := hid0 s.fl[i] (List.getElem_mem hi)
  have h64 : I64 s.fl[i].id := ⟨by omega, by omega⟩
  rw [hq1] at hf
  generalize hid : s.fl[i].id = id at *
  have hc1 := (Chg.refl w []).alloc (.cells (Pkt.enc ⟨7, false, 0, id, ⟨#[]⟩, ⟨#[]⟩, c⟩) 56)
  have hO1 := hO.chg hc1 (by simp)
  have y := pkt_cells (Blk.new w 56 (Pkt.enc ⟨7, false, 0, id, ⟨#[]⟩, ⟨#[]⟩, c⟩))
  have c2 : (w.alloc (.cells (Pkt.enc ⟨7, false, 0, id, ⟨#[]⟩, ⟨#[]⟩, c⟩) 56)).cell? ⟨fb, 2, none⟩ = some (.bool true) := by rw [← hon]; exact hO1.blk.cell 2
  have c3 : (w.alloc (.cells (Pkt.enc ⟨7, false, 0, id, ⟨#[]⟩, ⟨#[]⟩, c⟩) 56)).cell? ⟨fb, 3, none⟩ = some (.slice (some ⟨g, off, none⟩) (n + 1) cap) := by have := hO1.blk.cell 3; rw [hn] at this; exact this
  obtain ⟨y0, y3, y4, y6, y7⟩ := y
  have hlt := hO.blk.lt
  have HO := Lib.hid hO
  have HN := Lib.hid hn
  have HF := Lib.hid hf
  have HRA := Lib.hid hra
  have HTH := Lib.hid hth
  have HND := Lib.hid hnd
  have HQ := Lib.hid hq
  have HId := Lib.hid hid
  have HIds := Lib.hid hids
  have HC1 := Lib.hid hc1
  have HOn := Lib.hid hon
  have HS1 := Lib.hid hs1
  have HO1 := Lib.hid hO1
  have HIx := Lib.hid (index_fl (hO1.fls) (by omega) w.heap.size id y4 i hi hid (fun k hk hki => hid ▸ ids_apart hnd hi hk (by omega)))
  rw [hn] at HIx
  dsimp only at y0 y3 y4 y6 y7
  clear hO hn hra hth hf hnd hq hid hids hc1 hO1 hon hs1
  unfold Pkt.enc at *
  go_enter Tryz.func23, Tryz.ntmps23
  go_wp2_with fail
  refine HIx.out.mono ?_
  rintro e w2 ⟨rfl, hc2⟩
  have hc12 := HC1.out.trans hc2 fun b hb => by simp at hb
  have x0 := hc2.cell y0 (by simp)
  have x4 := hc2.cell y4 (by simp)
  have x7 := hc2.cell y7 (by simp)
  have d3 := hc2.cell c3 (by simp)
  have e0 := hc12.cell HF.out.1 (by simp)
  have e3 := hc12.cell HF.out.2.2.2.1 (by simp)
  have e6 := hc12.cell HF.out.2.2.2.2.2.2 (by simp)
  have HRA2 := Lib.hid (rangeAt_chg HRA.out hc12 (by simp))
  have HTH2 := Lib.hid (there_chg HTH.out hc12 (by simp))
  have HO2 := Lib.hid (HO1.out.chg hc2 (by simp))
  have HC12 := Lib.hid hc12
  have hwl2 : w.heap.size < w2.heap.size := World.block_lt_of_cell? w2 _ x0
  clear hc2 hc12 y0 y3 y4 y6 y7 c2 c3 HIx HC1 HO1 HF HRA HTH HRA2 HTH2
  go_wp2_with fail
  refine (over_any HO2.out i hi (by omega) (HId.out ▸ h64)).mono ?_
  rintro e w3 ⟨rfl, hO3, hc3⟩
  have HO3 := Lib.hid hO3
  have HC3 := Lib.hid hc3
  clear hO3 hc3
  go_wp2_with fail
  have hs1 := HS1.out
  have hon := HOn.out
  subst hs1
  refine (sent_go ((HC12.out.mono fun b hb => by simp at hb).trans HC3.out fun b hb => .inl hb) (fun k hk => .inl hk) HO3.out hon HQ.out hm2 (by have := List.length_eraseIdx_le s.fl i; dsimp only; omega) htk (fun f hf => HIds.out f (List.mem_of_mem_eraseIdx hf)) hwl (.slice none 0 0) [] (RowOf.nil _ _ _) (by simp [Value.ownBlock]) (fun _ => rfl) (by simp)).mono ?_
  rintro e w4 ⟨v4, rfl, hS⟩
  have HS := Lib.hid hS
  clear hS
  go_wp2_with fail
  go_ret2
  have hS2 := HS.out
  rw [List.nil_append, HOn.out] at hS2
  exact ⟨v4, rfl, hS2⟩
set_option maxHeartbeats 6400000 in
theorem ans_rec {fb : Nat} {F : List Nat} {s : OutS} (h : OutA w fb F s) (hon : s.on = true) (hq : ∀ m ∈ s.wait, 0 < m.q) (hm2 : s.most ≤ 64) (hfl : s.fl.length ≤ s.most) (htk : s.taken + s.wait.length < 60000) (hids : ∀ f ∈ s.fl, f.id ≤ (s.taken : Int)) (hid0 : ∀ f ∈ s.fl, 0 < f.id) (hwl : s.wait.length ≤ 1000)
    (i : Nat) (hi : i < s.fl.length) (hq1 : s.fl[i].m.q = 2) (s1 : OutS) (hs1 : s1 = { s with fl := s.fl.set i ⟨s.fl[i].id, s.fl[i].m, true⟩ }) :
    Calls Tryz.prog 23 #[.pointer (some ⟨fb, 0, none⟩), .agg (Pkt.enc ⟨5, false, 0, s.fl[i].id, ⟨#[]⟩, ⟨#[]⟩, 0⟩)] w fun e w' => ∃ v, e = .returned (.tuple #[v, .int .u8 0]) ∧
      Sent w fb F (s1.gone s1.room) ([relOf s.fl[i].id] ++ newPub s1.taken (s1.wait.take s1.room)) v w' := by
  obtain ⟨pb, mb, fv, wv, hO, rfl⟩ := h
  obtain ⟨n, hn⟩ : ∃ n, s.fl.length = n + 1 := ⟨s.fl.length - 1, by omega⟩
  obtain ⟨g, off, cap, hfv, hn1, hn2, hgl, hra, hth⟩ := hO.fls.at_ Fl.size hi
  subst hfv
  have hf := fl_at hra
  have hnd := hO.pool.set.nodup
  have i1 : (i : Int) < (n : Int) + 1 := by omega
  have i2 : ¬ (i : Int) < 0 := by omega
  have hib : i < n + 1 := by omega
  have hidm := hids s.fl[i] (List.getElem_mem hi)
  have hid1 := hid0 s.fl[i] (List.getElem_mem hi)
  have h64 : I64 s.fl[i].id := ⟨by omega, by omega⟩
  rw [hq1] at hf
  generalize hid : s.fl[i].id = id at *
  have hc1 := (Chg.refl w []).alloc (.cells (Pkt.enc ⟨5, false, 0, id, ⟨#[]⟩, ⟨#[]⟩, 0⟩) 56)
  have hO1 := hO.chg hc1 (by simp)
  have y := pkt_cells (Blk.new w 56 (Pkt.enc ⟨5, false, 0, id, ⟨#[]⟩, ⟨#[]⟩, 0⟩))
  have c2 : (w.alloc (.cells (Pkt.enc ⟨5, false, 0, id, ⟨#[]⟩, ⟨#[]⟩, 0⟩) 56)).cell? ⟨fb, 2, none⟩ = some (.bool true) := by rw [← hon]; exact hO1.blk.cell 2
  have c3 : (w.alloc (.cells (Pkt.enc ⟨5, false, 0, id, ⟨#[]⟩, ⟨#[]⟩, 0⟩) 56)).cell? ⟨fb, 3, none⟩ = some (.slice (some ⟨g, off, none⟩) (n + 1) cap) := by have := hO1.blk.cell 3; rw [hn] at this; exact this
  obtain ⟨y0, y3, y4, y6, y7⟩ := y
  have hlt := hO.blk.lt
  have HO := Lib.hid hO
  have HN := Lib.hid hn
  have HF := Lib.hid hf
  have HRA := Lib.hid hra
  have HTH := Lib.hid hth
  have HND := Lib.hid hnd
  have HQ := Lib.hid hq
  have HId := Lib.hid hid
  have HIds := Lib.hid hids
  have HC1 := Lib.hid hc1
  have HOn := Lib.hid hon
  have HS1 := Lib.hid hs1
  have HO1 := Lib.hid hO1
  have HIx := Lib.hid (index_fl (hO1.fls) (by omega) w.heap.size id y4 i hi hid (fun k hk hki => hid ▸ ids_apart hnd hi hk (by omega)))
  rw [hn] at HIx
  dsimp only at y0 y3 y4 y6 y7
  clear hO hn hra hth hf hnd hq hid hids hc1 hO1 hon hs1
  unfold Pkt.enc at *
  go_enter Tryz.func23, Tryz.ntmps23
  go_wp2_with fail
  refine HIx.out.mono ?_
  rintro e w2 ⟨rfl, hc2⟩
  have hc12 := HC1.out.trans hc2 fun b hb => by simp at hb
  have x0 := hc2.cell y0 (by simp)
  have x4 := hc2.cell y4 (by simp)
  have x7 := hc2.cell y7 (by simp)
  have d3 := hc2.cell c3 (by simp)
  have e0 := hc12.cell HF.out.1 (by simp)
  have e3 := hc12.cell HF.out.2.2.2.1 (by simp)
  have e6 := hc12.cell HF.out.2.2.2.2.2.2 (by simp)
  have HRA2 := Lib.hid (rangeAt_chg HRA.out hc12 (by simp))
  have HTH2 := Lib.hid (there_chg HTH.out hc12 (by simp))
  have HO2 := Lib.hid (HO1.out.chg hc2 (by simp))
  have HC12 := Lib.hid hc12
  have hwl2 : w.heap.size < w2.heap.size := World.block_lt_of_cell? w2 _ x0
  have e6f := (HTH2.out 6 (by omega)).2
  have hput : Chg w2 (w2.setCell ⟨g, off + i * 7 + 6, none⟩ (.bool true)) [g] := (Chg.refl w2 _).put _ (.inl (by simp)) _
  have hgw : ¬ w.heap.size = g := by omega
  have z4 : (w2.setCell ⟨g, off + i * 7 + 6, none⟩ (.bool true)).cell? ⟨w.heap.size, 4, none⟩ = some (.int .i64 id) := hput.cell x4 (by simpa using hgw)
  clear hc2 hc12 y0 y3 y4 y6 y7 c2 c3 HIx HC1 HO1 HF HRA HTH
  have HP := Lib.hid hput
  clear hput
  have tok1 : True := trivial
  go_wp2_with (have _t := tok1; refine append_pkt w2.heap.size (by simp) (by rfl) (.tmp 74) (by rfl) (relOf id) (by rfl) (by rfl) (.tmp 71) (.tmp 75) (by rfl) (.slice none 0 0) [] (by rfl) (by rfl) (RowOf.nil _ _ _) (by simp) ?_; intro g1 off1 cap1 w7 hr7 hc7 hat7; have HR7 := Lib.hid hr7; have HC7 := Lib.hid hc7; clear hr7 hc7 tok1)
  have hg1 : w2.heap.size ≤ g1 := by
    rcases hat7 with h | h
    · simp [Value.ownBlock] at h
    · simpa using h
  obtain ⟨n1', n2', n3', n4', n5', n6'⟩ := HO2.out.fresh
  obtain ⟨m1, m2, m3⟩ := n3' g rfl
  have hb3 := HO2.out.blk.chg HP.out (by simpa using Ne.symm m1)
  have hO3 : OutAt (w2.setCell ⟨g, off + i * 7 + 6, none⟩ (.bool true)) fb pb mb (.slice (some ⟨g, off, none⟩) s.fl.length cap) wv s1 := by
    have hs1 := HS1.out
    rw [← HId.out] at hs1
    subst hs1
    refine HO2.out.set HP.out (by simpa using Ne.symm m2) (by simpa using Ne.symm m3) hb3 rfl ?_ ?_ (HO2.out.wts.chg HP.out fun k hk => ?_) HO2.out.apart
    · refine List.ext_getElem (by simp) fun k hk1 hk2 => ?_
      rw [List.getElem_map, List.getElem_map, List.getElem_set]
      split
      · next e => subst e; rfl
      · rfl
    · exact HO2.out.fls.rel hi
    · simp only [List.mem_singleton]
      intro e
      subst e
      exact n5' k rfl hk
  have hO7 := hO3.chg HC7.out (by simp [Value.ownBlock])
  have hch : Chg w w7 (foot fb pb mb (.slice (some ⟨g, off, none⟩) s.fl.length cap) wv) := ((HC12.out.mono fun b hb => by simp at hb).trans HP.out fun b hb => .inl (by
    simp only [List.mem_singleton] at hb
    subst hb
    simp [foot, Value.ownBlock])).trans HC7.out fun b hb => by simp [Value.ownBlock] at hb
  have hlt2 := HO2.out.lt
  have hsz := HC12.out.size
  have HO7 := Lib.hid hO7
  have HCh := Lib.hid hch
  have HLt := Lib.hid hlt2
  clear hO7 hch hlt2 hO3 hb3
  go_wp2_with fail
  have hs1 := HS1.out
  have hon := HOn.out
  have hgo := sent_go (s := s1) HCh.out (fun k hk => .inl hk) ⟨pb, mb, _, _, HO7.out, rfl⟩ (by rw [hs1]; exact hon) (by rw [hs1]; exact HQ.out) (by rw [hs1]; exact hm2) (by rw [hs1]; simpa using hfl) (by rw [hs1]; exact htk) ?p1 (by rw [hs1]; exact hwl) (.slice (some ⟨g1, off1, none⟩) ([] : List Pkt).length.succ cap1) ([] ++ [relOf id]) HR7.out ?p2 (by simp) (by simp)
  case p1 =>
    rw [hs1]
    intro f hf
    obtain ⟨k, hk, e⟩ := List.mem_iff_getElem.1 hf
    rw [List.getElem_set] at e
    split at e
    · next e2 => subst e; exact hidm
    · rw [← e]
      exact HIds.out _ (List.getElem_mem _)
  case p2 =>
    intro k hk
    have e : g1 = k := by simpa [Value.ownBlock] using hk
    subst e
    exact ⟨by omega, fun hm => by have := HLt.out g1 hm; omega⟩
  refine hgo.mono ?_
  rintro e w8 ⟨v8, rfl, hS⟩
  have HS := Lib.hid hS
  clear hS hgo
  go_wp2_with fail
  go_ret2
  exact ⟨v8, rfl, HS.out⟩
end
end Go.Proofs.YtcepfhnlbnlnhaaGreatDoor
