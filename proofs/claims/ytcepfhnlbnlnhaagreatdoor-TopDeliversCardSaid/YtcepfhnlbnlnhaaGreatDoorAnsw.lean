/- THE WALK of pair.answer. -/
import Derived.Test.YtcepfhnlbnlnhaaGreatDoorMove
namespace Go.Proofs.YtcepfhnlbnlnhaaGreatDoor
set_option maxRecDepth 100000
open Go.RowKit

section
variable {w : World}
set_option maxHeartbeats 3200000 in
theorem ans_none {pr : Nat} {P : List Nat} {s : PairS} (h : PairA w pr P s) (h0 : s.B = []) : Calls Tryz.prog 13 #[.pointer (some ⟨pr, 0, none⟩)] w fun e w' => e = .returned (.bool true) ∧ Stepped w pr P s w' := by
  obtain ⟨fb, ib, ipb, imb, gb, F, vt, vb, hA, rfl⟩ := h
  obtain ⟨A, c, hv, -, -, -⟩ := hA.back.slice
  rw [h0] at hv
  subst hv
  have c2 : w.cell? ⟨pr, 3, none⟩ = some (.slice A 0 c) := hA.blk.cell 3
  have HA := Lib.hid hA
  clear hA
  go_enter Tryz.func13, Tryz.ntmps13
  go_wp2_with fail
  go_ret
  exact ⟨rfl, _, ⟨fb, ib, ipb, imb, gb, F, vt, _, HA.out, rfl⟩, Chg.refl _ _, fun k hk => .inl hk⟩
/-- What an answer leaves. -/
theorem ans_end {w W4 w5 w7 : World} {pr fb ib ipb imb gb gt off cap n nt ct n' c' : Nat} {F : List Nat} {At A' : Option Addr} {A1 : Addr} {s : PairS} (hA : PairAt w pr fb ib ipb imb gb F (.slice At nt ct) (.slice (some ⟨gt, off, none⟩) (n + 1) cap) s)
    (hA1 : (if cap = 1 then (some ⟨gt, off, none⟩ : Option Addr) else some ⟨gt, off + 26, none⟩) = some A1) {B : List Pkt} (hBk : RowOf Pkt.enc 26 w (.slice (some A1) n (cap - 1)) B) (hc4 : Chg w W4 [pr])
    (hb4 : Blk W4 pr 32 #[.pointer (some ⟨fb, 0, none⟩), .pointer (some ⟨ib, 0, none⟩), .slice At nt ct, .slice (some A1) n (cap - 1), .map (some gb)]) {o' : OutS} {news : List Pkt} {v : Value} (hS : Sent W4.drew fb F o' news v w5)
    {T : List Pkt} (hr7 : RowOf Pkt.enc 26 w7 (.slice A' n' c') T) (hc7 : Chg w5 w7 (Value.slice At nt ct).ownBlock.toList) (hat : ∀ k, (Value.slice A' n' c').ownBlock = some k → (Value.slice At nt ct).ownBlock = some k ∨ w5.heap.size ≤ k) :
    Stepped w pr (pfoot pr ib ipb imb gb F (.slice At nt ct) (.slice (some ⟨gt, off, none⟩) (n + 1) cap)) { s with o := o', T := T, B := B } (w7.setCell ⟨pr, 2, none⟩ (.slice A' n' c')) := by
  obtain ⟨F5, hO5, -, -, hc5, hF5, -⟩ := hS
  obtain ⟨hd1, hd2, hd3, hd4, hd5, hd6⟩ := pfoot_iff.1 hA.apart
  have hlt := hA.lt
  have hv1 : (Value.slice (some A1) n (cap - 1)).ownBlock = some gt := own_if hA1 _ _
  have hv0 : (Value.slice (some ⟨gt, off, none⟩) (n + 1) cap).ownBlock = some gt := rfl
  generalize (Value.slice (some ⟨gt, off, none⟩) (n + 1) cap) = vb at *
  generalize (Value.slice (some A1) n (cap - 1)) = vb' at *
  generalize (Value.slice At nt ct) = vt at *
  generalize (Value.slice A' n' c') = vt' at *
  have hnd1 := hd1
  simp only [List.nodup_cons, List.mem_cons, List.not_mem_nil, or_false, not_or, not_false_eq_true, List.nodup_nil, and_true] at hd1 hd3 hd4 hd5
  obtain ⟨⟨p1, p2, p3, p4⟩, ⟨q1, q2, q3⟩, ⟨r1, r2⟩, u1⟩ := hd1
  have hput : Chg w7 (w7.setCell ⟨pr, 2, none⟩ vt') [pr] := (Chg.refl w7 _).put _ (.inl (by simp)) _
  have hc45 : Chg W4 w5 F := ((Chg.refl W4 _).drew).trans hc5 fun b hb => .inl hb
  have hc58 : Chg w5 (w7.setCell ⟨pr, 2, none⟩ vt') (pr :: vt.ownBlock.toList) := (hc7.mono fun b hb => .inl (List.mem_cons_of_mem _ hb)).trans hput fun b hb => .inl (by simp at hb; simp [hb])
  have hc48 : Chg W4 (w7.setCell ⟨pr, 2, none⟩ vt') (pr :: (F ++ vt.ownBlock.toList)) := (hc45.mono fun b hb => .inl (by simp [hb])).trans hc58 fun b hb => .inl (by rcases List.mem_cons.1 hb with h | h <;> simp [h])
  have hc08 : Chg w (w7.setCell ⟨pr, 2, none⟩ vt') (pr :: (F ++ vt.ownBlock.toList)) := (hc4.mono fun b hb => .inl (by simp at hb; simp [hb])).trans hc48 fun b hb => .inl hb
  have hw5 : w.heap.size ≤ w5.heap.size := Nat.le_trans hc4.size hc45.size
  have hw4 : w.heap.size ≤ W4.drew.heap.size := hc4.size
  have hprb : pr ∉ vt.ownBlock.toList := fun hm => (hd4 pr (mem_own.1 hm)).1.1 rfl
  have hprF : pr ∉ F := fun hm => (hd3 pr hm).1 rfl
  have hall : ∀ k, w.heap.size ≤ k → ¬ k = pr ∧ ¬ k = ib ∧ ¬ k = ipb ∧ ¬ k = imb ∧ ¬ k = gb := by
    intro k h
    have l1 := hlt pr (by simp [pfoot])
    have l2 := hlt ib (by simp [pfoot])
    have l3 := hlt ipb (by simp [pfoot])
    have l4 := hlt imb (by simp [pfoot])
    have l5 := hlt gb (by simp [pfoot])
    exact ⟨by omega, by omega, by omega, by omega, by omega⟩
  have hF5p : ∀ k ∈ F5, ¬ k = pr ∧ ¬ k = ib ∧ ¬ k = ipb ∧ ¬ k = imb ∧ ¬ k = gb := fun k hk => by
    rcases hF5 k hk with h | h
    · exact hd3 k h
    · exact hall k (by omega)
  have hF5t : ∀ k ∈ F5, vt.ownBlock ≠ some k := fun k hk e => by
    rcases hF5 k hk with h | h
    · exact (hd4 k e).2 h
    · have := hlt k (by simp [pfoot, e]); omega
  have hF5b : ∀ k ∈ F5, vb.ownBlock ≠ some k := fun k hk e => by
    rcases hF5 k hk with h | h
    · exact (hd5 k e).2 h
    · have := hlt k (by simp [pfoot, e]); omega
  have hnew : ∀ k, vt'.ownBlock = some k → (¬ k = pr ∧ ¬ k = ib ∧ ¬ k = ipb ∧ ¬ k = imb ∧ ¬ k = gb) ∧ k ∉ F5 := by
    intro k hk
    rcases hat k hk with h | h
    · exact ⟨(hd4 k h).1, fun hm => hF5t k hm h⟩
    · exact ⟨hall k (by omega), fun hm => by have := hO5.lt k hm; omega⟩
  have hot : ∀ k, (¬ k = pr) → k ∉ F → vt.ownBlock ≠ some k → k ∉ pr :: (F ++ vt.ownBlock.toList) := by
    intro k h1 h2 h3
    simp only [List.mem_cons, List.mem_append, mem_own, not_or]
    exact ⟨h1, h2, h3⟩
  have hib : ∀ k, k ∈ [ib, ipb, imb, gb] → k ∉ pr :: (F ++ vt.ownBlock.toList) := by
    intro k hk
    refine hot k (fun e => ?_) (fun hm => ?_) (fun e => ?_)
    · subst e
      simp only [List.mem_cons, List.not_mem_nil, or_false] at hk
      rcases hk with h | h | h | h
      · exact p1 h
      · exact p2 h
      · exact p3 h
      · exact p4 h
    · obtain ⟨-, a2, a3, a4, a5⟩ := hd3 k hm
      simp only [List.mem_cons, List.not_mem_nil, or_false] at hk
      rcases hk with h | h | h | h
      · exact a2 h
      · exact a3 h
      · exact a4 h
      · exact a5 h
    · obtain ⟨⟨-, a2, a3, a4, a5⟩, -⟩ := hd4 k e
      simp only [List.mem_cons, List.not_mem_nil, or_false] at hk
      rcases hk with h | h | h | h
      · exact a2 h
      · exact a3 h
      · exact a4 h
      · exact a5 h
  refine ⟨pfoot pr ib ipb imb gb F5 vt' vb', ⟨fb, ib, ipb, imb, gb, F5, vt', vb', ⟨?_, ?_, ?_, ?_, ?_, ?_, ?_⟩, rfl⟩, ?_, ?_⟩
  · exact ((hb4.chg hc45 hprF).chg hc7 hprb).put 2 _
  · refine hO5.chg hc58 fun k hk => ?_
    simp only [List.mem_cons, mem_own, not_or]
    exact ⟨(hF5p k hk).1, hF5t k hk⟩
  · exact hA.inn.chg hc08 (hib _ (by simp)) (hib _ (by simp)) (hib _ (by simp))
  · exact hr7.chg hput fun k hk => by simpa using (hnew k hk).1.1
  · refine hBk.chg hc08 fun k hk => ?_
    obtain rfl : gt = k := by rw [hv1] at hk; exact Option.some.inj hk
    obtain ⟨⟨a1, a2, a3, a4, a5⟩, a6⟩ := hd5 gt hv0
    exact hot gt a1 a6 fun e => hd6 gt e hv0
  · exact hA.got.chg hc08 (hib _ (by simp))
  · refine pfoot_iff.2 ⟨hnd1, hO5.nodup, ?_, ?_, ?_, ?_⟩
    · intro k hk
      simp only [List.mem_cons, List.not_mem_nil, or_false, not_or]
      exact hF5p k hk
    · intro k hk
      simp only [List.mem_cons, List.not_mem_nil, or_false, not_or]
      exact hnew k hk
    · intro k hk
      rw [hv1, ← hv0] at hk
      simp only [List.mem_cons, List.not_mem_nil, or_false, not_or]
      exact ⟨(hd5 k hk).1, fun hm => hF5b k hm hk⟩
    · intro k hk hk2
      rw [hv1, ← hv0] at hk2
      rcases hat k hk with h | h
      · exact hd6 k h hk2
      · have := hlt k (by simp [pfoot, hk2]); omega
  · refine hc08.mono fun b hb => .inl ?_
    simp only [List.mem_cons, List.mem_append, mem_own] at hb
    rcases hb with h | h | h <;> simp [pfoot, h]
  · intro k hk
    simp only [pfoot, List.mem_append, List.mem_cons, List.not_mem_nil, or_false, mem_own] at hk ⊢
    rcases hk with h | h | h | h
    · exact .inl (.inl h)
    · rcases hF5 k h with h | h
      · exact .inl (.inr (.inl h))
      · exact .inr (by omega)
    · rcases hat k h with h | h
      · exact .inl (.inr (.inr (.inl h)))
      · exact .inr (by omega)
    · rw [hv1, ← hv0] at h
      exact .inl (.inr (.inr (.inr h)))
set_option maxHeartbeats 6400000 in
theorem ans_step {pr : Nat} {P : List Nat} {s : PairS} (h : PairA w pr P s) (x : Pkt) (B : List Pkt) (hB : s.B = x :: B) (hl : s.T.length ≤ 1000) (o' : OutS) (news : List Pkt) (hnl : news.length ≤ 1000)
    (hAns : ∀ (W : World) (fb : Nat) (F : List Nat), OutA W fb F s.o → Calls Tryz.prog 23 #[.pointer (some ⟨fb, 0, none⟩), .agg x.enc] W fun e w' => ∃ v, e = .returned (.tuple #[v, .int .u8 0]) ∧ Sent W fb F o' news v w') :
    Calls Tryz.prog 13 #[.pointer (some ⟨pr, 0, none⟩)] w fun e w' => e = .returned (.bool true) ∧ Stepped w pr P { s with o := o', T := s.T ++ news, B := B } w' := by
  obtain ⟨xk, xd, xq, xn, xt, xb, xc⟩ := x
  obtain ⟨fb, ib, ipb, imb, gb, F, vt, vb, hA, rfl⟩ := h
  obtain ⟨n, hn⟩ : ∃ n, B.length = n := ⟨_, rfl⟩
  have hth := hA.back
  rw [hB] at hth
  obtain ⟨gt, off, cap, hv, h1, h2, hgl, hra, -⟩ := hth.at_ Pkt.size (i := 0) (by simp)
  rw [List.length_cons, hn] at hv h1
  subst hv
  rw [Nat.zero_mul, Nat.add_zero, List.getElem_cons_zero] at hra
  obtain ⟨A1, hA1⟩ : ∃ A1 : Addr, (if cap = 1 then (some ⟨gt, off, none⟩ : Option Addr) else some ⟨gt, off + 26, none⟩) = some A1 := by split <;> exact ⟨_, rfl⟩
  obtain ⟨Ab, cb, hvb, -, -, -⟩ := hA.there.slice
  subst hvb
  obtain ⟨nb, hnb⟩ : ∃ nb, s.T.length = nb := ⟨_, rfl⟩
  rw [hnb] at hA
  have c2 : w.cell? ⟨pr, 3, none⟩ = some (.slice (some ⟨gt, off, none⟩) (n + 1) cap) := hA.blk.cell 3
  have hsz : (Tryz.prog.info? 56).map (·.size) = some (Pkt.enc ⟨xk, xd, xq, xn, xt, xb, xc⟩).toList.length := infoPktSize
  have hTh := pop_row hth hn hA1
  have hap := pfoot_iff.1 hA.apart
  have HA := Lib.hid hA
  have HRA := Lib.hid hra
  have HSz := Lib.hid hsz
  have HTh := Lib.hid hTh
  have HTk := Lib.hid hAns
  have HAp := Lib.hid hap
  have HNb := Lib.hid hnb
  have HA1 := Lib.hid hA1
  clear hA hth hra hsz hTh hAns hap hB hnb hn
  have tok1 : True := trivial
  have tok2 : True := trivial
  go_enter Tryz.func13, Tryz.ntmps13
  go_wp2_with (first
    | (have _t := tok1; refine wpList_load_mid (by rfl) 56 _ (by rfl) gt off (by rfl) _ _ HRA.out Tryz.underlying56 (by rfl) HSz.out ?_; clear tok1)
    | (have _t := tok2; refine store_new (by rfl) (by rfl) _ _ (by rfl) (by rfl) ⟨xk, xd, xq, xn, xt, xb, xc⟩ (by rfl) ?_; clear tok2; intro W3 hc3 hb3; have d2 := hc3.cell c2 (by simp); have e2 := (HA.out.blk.chg hc3 (by simp)).frozen 3; have HC3 := Lib.hid hc3; have HB3 := Lib.hid hb3; clear hc3 hb3 c2))
  obtain ⟨W4, hW4⟩ : ∃ W4, W4 = W3.setCell ⟨pr, 3, none⟩ (.slice (some A1) n (cap - 1)) := ⟨_, rfl⟩
  have hprne : pr ≠ w.heap.size := Nat.ne_of_lt HA.out.blk.lt
  have hc34 : Chg W3 W4 [pr] := hW4 ▸ (Chg.refl W3 _).put _ (.inl (by simp)) _
  have hb4 : Blk W4 pr 32 #[.pointer (some ⟨fb, 0, none⟩), .pointer (some ⟨ib, 0, none⟩), .slice Ab nb cb, .slice (some A1) n (cap - 1), .map (some gb)] := hW4 ▸ (HA.out.blk.chg HC3.out (by simp)).put 3 _
  have hx4 : Blk W4 w.heap.size 56 (Pkt.enc ⟨xk, xd, xq, xn, xt, xb, xc⟩) := HB3.out.chg hc34 (by simpa using Ne.symm hprne)
  have hc4 : Chg w W4 [pr] := (HC3.out.mono fun b hb => by simp at hb).trans hc34 fun b hb => .inl hb
  rw [← hW4]
  clear hW4 hc34 d2 e2
  have hprF : pr ∉ F := fun hm => by have := HAp.out.2.2.1 pr hm; simp at this
  have hwF : w.heap.size ∉ F := fun hm => by have := HA.out.out.lt _ hm; omega
  have ho4 : OutA W4.drew fb F s.o := (HA.out.out.chg hc4 (fun k hk => by simp; intro e; exact hprF (e ▸ hk))).chg (Chg.refl W4 []).drew (by simp)
  have x1 : W4.cell? ⟨pr, 0, none⟩ = some (.pointer (some ⟨fb, 0, none⟩)) := hb4.cell 0
  have x2 : W4.rangeAt w.heap.size 0 (Pkt.enc ⟨xk, xd, xq, xn, xt, xb, xc⟩).toList := fun j u hu => by rw [Nat.zero_add, hx4.cell j, ← Array.getElem?_toList]; exact hu
  have hu56 := Tryz.underlying56
  have hsz := HSz.out
  have HB4 := Lib.hid hb4
  have HX4 := Lib.hid hx4
  have HC4 := Lib.hid hc4
  have HO4 := Lib.hid ho4
  clear hb4 hx4 hc4 ho4
  refine wp_region_held_drew (S := fun w' => w'.cell? ⟨pr, 0, none⟩ = some (.pointer (some ⟨fb, 0, none⟩)) ∧ w'.rangeAt w.heap.size 0 (Pkt.enc ⟨xk, xd, xq, xn, xt, xb, xc⟩).toList) (by kernel_rfl) ?_ (fun hHeld => ?_)
  · exact ⟨x1, x2⟩
  refine' wpAnyH_take (i := 4) (v := _) rfl (by kernel_rfl) (by kernel_rfl) (by kernel_rfl) (fun _ _ _ h => h) (yieldsIf_load_mid (by rfl) _ _ rfl _ _ rfl _ _ ?hS4 hu56 ?hd4 hsz) (by assumption) ?rest4
  case hS4 => exact fun w hSw => hSw.2
  case hd4 => rfl
  change wpAnyH _ _ _ _ _ _ _ (Act.put _ (some 31) _) _
  simp only [Act.put, List.setIfInBounds_toArray, List.set_cons_zero, List.set_cons_succ]
  refine' wpAnyH_take (i := 0) (v := _) rfl (by kernel_rfl) (by kernel_rfl) (by kernel_rfl) (fun _ _ _ h => h) (Or.inl ⟨by rfl, ?hy0⟩) (by assumption) ?rest0
  case hy0 =>
    intro w hSw
    try dsimp only at hSw
    go_simp
    try with_reducible rfl
  change wpAnyH _ _ _ _ _ _ _ (Act.put _ (some 27) _) _
  simp only [Act.put, List.setIfInBounds_toArray, List.set_cons_zero, List.set_cons_succ]
  refine' wpAnyH_take (i := 1) (v := _) rfl (by kernel_rfl) (by kernel_rfl) (by kernel_rfl) (fun _ _ _ h => h) (Or.inl ⟨by rfl, ?hy1⟩) (by assumption) ?rest1
  case hy1 =>
    intro w hSw
    try dsimp only at hSw
    go_simp
    try with_reducible rfl
  change wpAnyH _ _ _ _ _ _ _ (Act.put _ (some 28) _) _
  simp only [Act.put, List.setIfInBounds_toArray, List.set_cons_zero, List.set_cons_succ]
  refine' wpAnyH_take (i := 2) (v := _) rfl (by kernel_rfl) (by kernel_rfl) (by kernel_rfl) (fun _ _ _ h => h) (Or.inl ⟨by rfl, ?hy2⟩) (by assumption) ?rest2
  case hy2 =>
    intro w hSw
    try dsimp only at hSw
    go_simp
    try with_reducible rfl
  change wpAnyH _ _ _ _ _ _ _ (Act.put _ (some 29) _) _
  simp only [Act.put, List.setIfInBounds_toArray, List.set_cons_zero, List.set_cons_succ]
  refine' wpAnyH_take (i := 3) (v := _) rfl (by kernel_rfl) (by kernel_rfl) (by kernel_rfl) (fun _ _ _ h => h) (Or.inl ⟨by rfl, ?hy3⟩) (by assumption) ?rest3
  case hy3 =>
    intro w hSw
    try dsimp only at hSw
    go_simp
    try with_reducible rfl
  change wpAnyH _ _ _ _ _ _ _ (Act.put _ (some 30) _) _
  simp only [Act.put, List.setIfInBounds_toArray, List.set_cons_zero, List.set_cons_succ]
  refine wpAnyH_ready (rs := [5]) (by kernel_rfl) (by simp) ?_
  refine AllReadyH.cons rfl (fun K hK => ?_) AllReadyH.nil
  go_simp
  refine (HTk.out _ _ _ HO4.out).mono ?_
  rintro e w5 ⟨v5, rfl, hS5⟩
  obtain ⟨F5, hO5, hr5, hn5, hc5, hF5, hv5⟩ := hS5
  dsimp only
  refine hK.out _ _ ?_ (fun hHeld2 => ?_)
  · exact ⟨hc5.cell hHeld.1 hprF, rangeAt_chg hHeld.2 hc5 hwF⟩
  clear hK K
  try simp only [Act.put, List.setIfInBounds_toArray, List.set_cons_zero, List.set_cons_succ]
  refine' wpAnyH_take (i := 6) (v := _) rfl (by kernel_rfl) (by kernel_rfl) (by kernel_rfl) (fun _ _ _ h => h) (Or.inl ⟨by rfl, ?hy6⟩) (by assumption) ?rest6
  case hy6 =>
    intro w hSw
    try dsimp only at hSw
    go_simp
    try with_reducible rfl
  change wpAnyH _ _ _ _ _ _ _ (Act.put _ (some 26) _) _
  simp only [Act.put, List.setIfInBounds_toArray, List.set_cons_zero, List.set_cons_succ]
  refine' wpAnyH_take (i := 7) (v := _) rfl (by kernel_rfl) (by kernel_rfl) (by kernel_rfl) (fun _ _ _ h => h) (Or.inl ⟨by rfl, ?hy7⟩) (by assumption) ?rest7
  case hy7 =>
    intro w hSw
    try dsimp only at hSw
    go_simp
    try with_reducible rfl
  change wpAnyH _ _ _ _ _ _ _ (Act.put _ (some 33) _) _
  simp only [Act.put, List.setIfInBounds_toArray, List.set_cons_zero, List.set_cons_succ]
  refine' wpAnyH_take (i := 8) (v := _) rfl (by kernel_rfl) (by kernel_rfl) (by kernel_rfl) (fun _ _ _ h => h) (Or.inl ⟨by rfl, ?hy8⟩) (by assumption) ?rest8
  case hy8 =>
    intro w hSw
    try dsimp only at hSw
    go_simp
    try with_reducible rfl
  change wpAnyH _ _ _ _ _ _ _ (Act.put _ (some 34) _) _
  simp only [Act.put, List.setIfInBounds_toArray, List.set_cons_zero, List.set_cons_succ]
  refine' wpAnyH_take (i := 9) (v := _) rfl (by kernel_rfl) (by kernel_rfl) (by kernel_rfl) (fun _ _ _ h => h) (Or.inl ⟨by rfl, ?hy9⟩) (by assumption) ?rest9
  case hy9 =>
    intro w hSw
    try dsimp only at hSw
    go_simp
    try with_reducible rfl
  change wpAnyH _ _ _ _ _ _ _ (Act.put _ (some 4) _) _
  simp only [Act.put, List.setIfInBounds_toArray, List.set_cons_zero, List.set_cons_succ]
  refine' wpAnyH_take (i := 10) (v := _) rfl (by kernel_rfl) (by kernel_rfl) (by kernel_rfl) (fun _ _ _ h => h) (Or.inl ⟨by rfl, ?hy10⟩) (by assumption) ?rest10
  case hy10 =>
    intro w hSw
    try dsimp only at hSw
    go_simp
    try with_reducible rfl
  change wpAnyH _ _ _ _ _ _ _ (Act.put _ (some 5) _) _
  simp only [Act.put, List.setIfInBounds_toArray, List.set_cons_zero, List.set_cons_succ]
  refine wpAnyH_done (by kernel_rfl) ?_ _
  have z0 : w5.cell? ⟨w.heap.size, 0, none⟩ = some (.int .i64 xk) := hHeld2.2 0 _ rfl
  clear x1 x2 hHeld hHeld2
  obtain ⟨A5, c5, hv5', -, -, -⟩ := hr5.slice
  subst hv5'
  have hprt : pr ∉ (Value.slice Ab nb cb).ownBlock.toList := fun hm => by have := (HAp.out.2.2.2.1 pr (by rw [← own_slice Ab nb cb]; exact mem_own.1 hm)).1; simp at this
  have hb5 := (HB4.out.drew).chg hc5 hprF
  have k3 : w5.cell? ⟨pr, 2, none⟩ = some (.slice Ab nb cb) := hb5.cell 2
  have hvt5 : RowOf Pkt.enc 26 w5 (.slice Ab nb cb) s.T := (HA.out.there.chg (HC4.out.drew) (by
    intro k hk
    have := (HAp.out.2.2.2.1 k (by rw [← own_slice Ab nb cb]; exact hk)).1
    simp at this ⊢
    exact this.1)).chg hc5 (fun k hk => (HAp.out.2.2.2.1 k (by rw [← own_slice Ab nb cb]; exact hk)).2)
  have HRow := Lib.hid (fun (w7 : World) (h7 : Chg w5 w7 (Value.slice Ab nb cb).ownBlock.toList) => (hb5.chg h7 hprt))
  have HS5 := Lib.hid (show Sent W4.drew fb F o' news (.slice A5 news.length c5) w5 from ⟨F5, hO5, hr5, hn5, hc5, hF5, hv5⟩)
  have HR5 := Lib.hid hr5
  have HN5 := Lib.hid hn5
  have HT5 := Lib.hid hvt5
  clear hO5 hr5 hn5 hc5 hF5 hv5 hb5 hvt5 hprt
  have tok3 : True := trivial
  go_wp2_with (have _t := tok3; refine append_pkts (by rfl) (.tmp 39) (.tmp 40) (by rfl) (.slice Ab nb cb) s.T (by rfl) HT5.out (.slice A5 news.length c5) news (by rfl) HR5.out HN5.out (by omega) ?_; clear tok3; intro A' n' c' w7 hr7 hc7 hat7; have r3 : w7.cell? ⟨pr, 2, none⟩ = some (.slice Ab nb cb) := (HRow.out w7 hc7).cell 2; have r3f := (HRow.out w7 hc7).frozen 2; have HR7 := Lib.hid hr7; have HC7 := Lib.hid hc7; have HAt7 := Lib.hid hat7; clear hr7 hc7 hat7)
  go_ret
  have hfin := ans_end HA.out HA1.out HTh.out HC4.out HB4.out HS5.out HR7.out HC7.out HAt7.out
  rw [← HNb.out] at hfin
  exact ⟨rfl, hfin⟩
end
end Go.Proofs.YtcepfhnlbnlnhaaGreatDoor
