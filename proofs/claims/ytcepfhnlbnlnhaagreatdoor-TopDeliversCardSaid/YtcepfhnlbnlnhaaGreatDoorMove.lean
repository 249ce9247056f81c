/- THE WALK of pair.move. -/
import Derived.Test.YtcepfhnlbnlnhaaGreatDoorPair
import Derived.Deep.RegionHeld3
namespace Go.Proofs.YtcepfhnlbnlnhaaGreatDoor
set_option maxRecDepth 100000
open Go.RowKit

section
variable {w : World}
set_option maxHeartbeats 3200000 in
theorem move_none {pr : Nat} {P : List Nat} {s : PairS} (h : PairA w pr P s) (h0 : s.T = []) : Calls Tryz.prog 12 #[.pointer (some ⟨pr, 0, none⟩)] w fun e w' => e = .returned (.bool true) ∧ Stepped w pr P s w' := by
  obtain ⟨fb, ib, ipb, imb, gb, F, vt, vb, hA, rfl⟩ := h
  obtain ⟨A, c, hv, -, -, -⟩ := hA.there.slice
  rw [h0] at hv
  subst hv
  have c2 : w.cell? ⟨pr, 2, none⟩ = some (.slice A 0 c) := hA.blk.cell 2
  have HA := Lib.hid hA
  clear hA
  go_enter Tryz.func12, Tryz.ntmps12
  go_wp2_with fail
  go_ret
  exact ⟨rfl, _, ⟨fb, ib, ipb, imb, gb, F, _, vb, HA.out, rfl⟩, Chg.refl _ _, fun k hk => .inl hk⟩
/-- What is left of a row whose front is taken. -/
theorem pop_row {g off cap n : Nat} {x : Pkt} {T : List Pkt} {A1 : Addr} (h : RowOf Pkt.enc 26 w (.slice (some ⟨g, off, none⟩) (n + 1) cap) (x :: T)) (hn : T.length = n) (hA : (if cap = 1 then (some ⟨g, off, none⟩ : Option Addr) else some ⟨g, off + 26, none⟩) = some A1) : RowOf Pkt.enc 26 w (.slice (some A1) n (cap - 1)) T := by
  unfold RowOf at h ⊢
  rw [flat_cons, List.length_cons, hn] at h
  rw [hn, ← hA]
  exact QRow.pop h (by rw [Array.length_toList]; exact Pkt.size x)
theorem wrap_small (g : Nat) (h : g < 1000000) : IntKind.i64.wrap ((g : Int) + 1) = (g : Int) + 1 := by
  simp [IntKind.wrap, IntKind.bits, IntKind.signed]
  omega
/-- What a move leaves. -/
theorem move_end {w W4 w5 w6 w7 : World} {pr fb ib ipb imb gb gt off cap n nb cb n' c' : Nat} {F : List Nat} {Ab A' : Option Addr} {A1 : Addr} {s : PairS} (hA : PairAt w pr fb ib ipb imb gb F (.slice (some ⟨gt, off, none⟩) (n + 1) cap) (.slice Ab nb cb) s)
    (hA1 : (if cap = 1 then (some ⟨gt, off, none⟩ : Option Addr) else some ⟨gt, off + 26, none⟩) = some A1) {T : List Pkt} (hTh : RowOf Pkt.enc 26 w (.slice (some A1) n (cap - 1)) T) (hc4 : Chg w W4 [pr])
    (hb4 : Blk W4 pr 32 #[.pointer (some ⟨fb, 0, none⟩), .pointer (some ⟨ib, 0, none⟩), .slice (some A1) n (cap - 1), .slice Ab nb cb, .map (some gb)]) {U' : List Int} (hi5 : InAt w5 ib ipb imb 64 0 U') (hc5 : Chg W4.drew w5 [ipb, imb])
    {K : List Nat} {g : Nat → Nat} (hg6 : GotAt w6 gb K g) (hc6 : Chg w5 w6 [gb]) {B : List Pkt} (hr7 : RowOf Pkt.enc 26 w7 (.slice A' n' c') B) (hc7 : Chg w6 w7 (Value.slice Ab nb cb).ownBlock.toList) (hat : ∀ k, (Value.slice A' n' c').ownBlock = some k → (Value.slice Ab nb cb).ownBlock = some k ∨ w6.heap.size ≤ k) :
    Stepped w pr (pfoot pr ib ipb imb gb F (.slice (some ⟨gt, off, none⟩) (n + 1) cap) (.slice Ab nb cb)) { s with U := U', T := T, B := B, K := K, g := g } (w7.setCell ⟨pr, 3, none⟩ (.slice A' n' c')) := by
  obtain ⟨hd1, hd2, hd3, hd4, hd5, hd6⟩ := pfoot_iff.1 hA.apart
  have hlt := hA.lt
  have hv1 : (Value.slice (some A1) n (cap - 1)).ownBlock = some gt := own_if hA1 _ _
  have hv0 : (Value.slice (some ⟨gt, off, none⟩) (n + 1) cap).ownBlock = some gt := rfl
  generalize (Value.slice (some ⟨gt, off, none⟩) (n + 1) cap) = vt at *
  generalize (Value.slice (some A1) n (cap - 1)) = vt' at *
  generalize (Value.slice Ab nb cb) = vb at *
  generalize (Value.slice A' n' c') = vb' at *
  simp only [List.nodup_cons, List.mem_cons, List.not_mem_nil, or_false, not_or, not_false_eq_true, List.nodup_nil, and_true] at hd1 hd3 hd4 hd5
  obtain ⟨⟨p1, p2, p3, p4⟩, ⟨q1, q2, q3⟩, ⟨r1, r2⟩, u1⟩ := hd1
  have hput : Chg w7 (w7.setCell ⟨pr, 3, none⟩ vb') [pr] := (Chg.refl w7 _).put _ (.inl (by simp)) _
  have hc45 : Chg W4 w5 [ipb, imb] := ((Chg.refl W4 _).drew).trans hc5 fun b hb => .inl hb
  have hc68 : Chg w6 (w7.setCell ⟨pr, 3, none⟩ vb') (pr :: vb.ownBlock.toList) := (hc7.mono fun b hb => .inl (List.mem_cons_of_mem _ hb)).trans hput fun b hb => .inl (by simp at hb; simp [hb])
  have hc58 : Chg w5 (w7.setCell ⟨pr, 3, none⟩ vb') (pr :: gb :: vb.ownBlock.toList) := (hc6.mono fun b hb => .inl (by simp at hb; simp [hb])).trans hc68 fun b hb => .inl (by simp at hb; simp; rcases hb with h | h <;> simp [h])
  have hc48 : Chg W4 (w7.setCell ⟨pr, 3, none⟩ vb') (pr :: ipb :: imb :: gb :: vb.ownBlock.toList) := (hc45.mono fun b hb => .inl (by simp at hb; simp; rcases hb with h | h <;> simp [h])).trans hc58 fun b hb => .inl (by simp at hb; simp; rcases hb with h | h | h <;> simp [h])
  have hc08 : Chg w (w7.setCell ⟨pr, 3, none⟩ vb') (pr :: ipb :: imb :: gb :: vb.ownBlock.toList) := (hc4.mono fun b hb => .inl (by simp at hb; simp [hb])).trans hc48 fun b hb => .inl hb
  have hw6 : w.heap.size ≤ w6.heap.size := Nat.le_trans hc4.size (Nat.le_trans hc45.size hc6.size)
  have hprb : pr ∉ vb.ownBlock.toList := fun hm => (hd5 pr (mem_own.1 hm)).1.1 rfl
  have hnew : ∀ k, vb'.ownBlock = some k → (¬ k = pr ∧ ¬ k = ib ∧ ¬ k = ipb ∧ ¬ k = imb ∧ ¬ k = gb) ∧ k ∉ F := by
    intro k hk
    rcases hat k hk with h | h
    · exact hd5 k h
    · have l1 := hlt pr (by simp [pfoot])
      have l2 := hlt ib (by simp [pfoot])
      have l3 := hlt ipb (by simp [pfoot])
      have l4 := hlt imb (by simp [pfoot])
      have l5 := hlt gb (by simp [pfoot])
      exact ⟨⟨by omega, by omega, by omega, by omega, by omega⟩, fun hm => by have := hlt k (by simp [pfoot, hm]); omega⟩
  refine ⟨pfoot pr ib ipb imb gb F vt' vb', ⟨fb, ib, ipb, imb, gb, F, vt', vb', ⟨?_, ?_, ?_, ?_, ?_, ?_, ?_⟩, rfl⟩, ?_, ?_⟩
  · exact (((hb4.chg hc45 (by simp; exact ⟨p2, p3⟩)).chg hc6 (by simpa using p4)).chg hc7 hprb).put 3 _
  · refine hA.out.chg hc08 fun k hk => ?_
    obtain ⟨a1, a2, a3, a4, a5⟩ := hd3 k hk
    simp only [List.mem_cons, not_or]
    exact ⟨a1, a3, a4, a5, fun hm => (hd5 k (mem_own.1 hm)).2 hk⟩
  · refine hi5.chg hc58 ?_ ?_ ?_ <;> simp only [List.mem_cons, not_or]
    · exact ⟨fun e => p1 e.symm, q3, fun hm => (hd5 _ (mem_own.1 hm)).1.2.1 rfl⟩
    · exact ⟨fun e => p2 e.symm, r2, fun hm => (hd5 _ (mem_own.1 hm)).1.2.2.1 rfl⟩
    · exact ⟨fun e => p3 e.symm, u1, fun hm => (hd5 _ (mem_own.1 hm)).1.2.2.2.1 rfl⟩
  · refine hTh.chg hc08 fun k hk => ?_
    obtain rfl : gt = k := by rw [hv1] at hk; exact Option.some.inj hk
    obtain ⟨⟨a1, a2, a3, a4, a5⟩, a6⟩ := hd4 gt hv0
    simp only [List.mem_cons, not_or]
    exact ⟨a1, a3, a4, a5, fun hm => hd6 gt hv0 (mem_own.1 hm)⟩
  · exact hr7.chg hput fun k hk => by simpa using (hnew k hk).1.1
  · refine hg6.chg hc68 ?_
    simp only [List.mem_cons, not_or]
    exact ⟨fun e => p4 e.symm, fun hm => (hd5 _ (mem_own.1 hm)).1.2.2.2.2 rfl⟩
  · refine pfoot_iff.2 ⟨?_, hd2, ?_, ?_, ?_, ?_⟩
    · simp only [List.nodup_cons, List.mem_cons, List.not_mem_nil, or_false, not_or, not_false_eq_true, List.nodup_nil, and_true]
      exact ⟨⟨p1, p2, p3, p4⟩, ⟨q1, q2, q3⟩, ⟨r1, r2⟩, u1⟩
    · intro k hk
      simp only [List.mem_cons, List.not_mem_nil, or_false, not_or]
      exact hd3 k hk
    · intro k hk
      rw [hv1, ← hv0] at hk
      simp only [List.mem_cons, List.not_mem_nil, or_false, not_or]
      exact hd4 k hk
    · intro k hk
      simp only [List.mem_cons, List.not_mem_nil, or_false, not_or]
      exact hnew k hk
    · intro k hk hk2
      rw [hv1, ← hv0] at hk
      rcases hat k hk2 with h | h
      · exact hd6 k hk h
      · have := hlt k (by simp [pfoot, hk]); omega
  · refine hc08.mono fun b hb => .inl ?_
    simp only [List.mem_cons] at hb
    rcases hb with h | h | h | h | h <;> simp [pfoot, h]
  · intro k hk
    simp only [pfoot, List.mem_append, List.mem_cons, List.not_mem_nil, or_false, mem_own] at hk ⊢
    rcases hk with h | h | h | h
    · exact .inl (.inl h)
    · exact .inl (.inr (.inl h))
    · rw [hv1, ← hv0] at h
      exact .inl (.inr (.inr (.inl h)))
    · rcases hat k h with h | h
      · exact .inl (.inr (.inr (.inr h)))
      · exact .inr (by omega)
set_option maxHeartbeats 6400000 in
theorem move_step {pr : Nat} {P : List Nat} {s : PairS} (h : PairA w pr P s) (x : Pkt) (T : List Pkt) (hT : s.T = x :: T) (hl : s.B.length ≤ 1000) (U' : List Int) (b : Bool) (ans : Int → Pkt) (i : Nat)
    (hTake : ∀ (W : World) (ib ipb imb : Nat), InAt W ib ipb imb 64 0 s.U → Calls Tryz.prog 18 #[.pointer (some ⟨ib, 0, none⟩), .agg x.enc, .int .u8 0] W fun e w' => ∃ c, Took W ib ipb imb 64 0 U' b (ans c) e w')
    (hb : b = true → x.k = 3 ∧ x.b = keyB i) (hi : i < 256) (hK : s.K.length < 1000000) (hg : s.g i < 1000000) (s1 : PairS → PairS) (hs1 : ∀ q, s1 q = if b then { q with K := if i ∈ s.K then s.K else s.K ++ [i], g := upd s.g i (s.g i + 1) } else q) :
    Calls Tryz.prog 12 #[.pointer (some ⟨pr, 0, none⟩)] w fun e w' => e = .returned (.bool true) ∧ ∃ c, Stepped w pr P (s1 { s with U := U', T := T, B := s.B ++ [ans c] }) w' := by
  obtain ⟨xk, xd, xq, xn, xt, xb, xc⟩ := x
  obtain ⟨fb, ib, ipb, imb, gb, F, vt, vb, hA, rfl⟩ := h
  obtain ⟨n, hn⟩ : ∃ n, T.length = n := ⟨_, rfl⟩
  have hth := hA.there
  rw [hT] at hth
  obtain ⟨gt, off, cap, hv, h1, h2, hgl, hra, -⟩ := hth.at_ Pkt.size (i := 0) (by simp)
  rw [List.length_cons, hn] at hv h1
  subst hv
  rw [Nat.zero_mul, Nat.add_zero, List.getElem_cons_zero] at hra
  obtain ⟨A1, hA1⟩ : ∃ A1 : Addr, (if cap = 1 then (some ⟨gt, off, none⟩ : Option Addr) else some ⟨gt, off + 26, none⟩) = some A1 := by split <;> exact ⟨_, rfl⟩
  obtain ⟨Ab, cb, hvb, -, -, -⟩ := hA.back.slice
  subst hvb
  obtain ⟨nb, hnb⟩ : ∃ nb, s.B.length = nb := ⟨_, rfl⟩
  rw [hnb] at hA
  have c2 : w.cell? ⟨pr, 2, none⟩ = some (.slice (some ⟨gt, off, none⟩) (n + 1) cap) := hA.blk.cell 2
  have hsz : (Tryz.prog.info? 56).map (·.size) = some (Pkt.enc ⟨xk, xd, xq, xn, xt, xb, xc⟩).toList.length := infoPktSize
  have hTh := pop_row hth hn hA1
  have hap := pfoot_iff.1 hA.apart
  have HA := Lib.hid hA
  have HRA := Lib.hid hra
  have HSz := Lib.hid hsz
  have HTh := Lib.hid hTh
  have HTk := Lib.hid hTake
  have HB := Lib.hid hb
  have HS1 := Lib.hid hs1
  have HAp := Lib.hid hap
  have HT := Lib.hid hT
  have HNb := Lib.hid hnb
  have HN := Lib.hid hn
  have HA1 := Lib.hid hA1
  clear hA hth hra hsz hTh hTake hb hs1 hap hT hnb hn
  have tok1 : True := trivial
  have tok2 : True := trivial
  go_enter Tryz.func12, Tryz.ntmps12
  go_wp2_with (first
    | (have _t := tok1; refine wpList_load_mid (by rfl) 56 _ (by rfl) gt off (by rfl) _ _ HRA.out Tryz.underlying56 (by rfl) HSz.out ?_; clear tok1)
    | (have _t := tok2; refine store_new (by rfl) (by rfl) _ _ (by rfl) (by rfl) ⟨xk, xd, xq, xn, xt, xb, xc⟩ (by rfl) ?_; clear tok2; intro W3 hc3 hb3; have d2 := hc3.cell c2 (by simp); have e2 := (HA.out.blk.chg hc3 (by simp)).frozen 2; have HC3 := Lib.hid hc3; have HB3 := Lib.hid hb3; clear hc3 hb3 c2))
  obtain ⟨W4, hW4⟩ : ∃ W4, W4 = W3.setCell ⟨pr, 2, none⟩ (.slice (some A1) n (cap - 1)) := ⟨_, rfl⟩
  have hgx := Lib.hid (HA.out.lt)
  have hprne : pr ≠ w.heap.size := Nat.ne_of_lt HA.out.blk.lt
  have hc34 : Chg W3 W4 [pr] := hW4 ▸ (Chg.refl W3 _).put _ (.inl (by simp)) _
  have hb4 : Blk W4 pr 32 #[.pointer (some ⟨fb, 0, none⟩), .pointer (some ⟨ib, 0, none⟩), .slice (some A1) n (cap - 1), .slice Ab nb cb, .map (some gb)] := hW4 ▸ (HA.out.blk.chg HC3.out (by simp)).put 2 _
  have hx4 : Blk W4 w.heap.size 56 (Pkt.enc ⟨xk, xd, xq, xn, xt, xb, xc⟩) := HB3.out.chg hc34 (by simpa using Ne.symm hprne)
  have hc4 : Chg w W4 [pr] := (HC3.out.mono fun b hb => by simp at hb).trans hc34 fun b hb => .inl hb
  rw [← hW4]
  clear hW4 hc34 d2 e2
  obtain ⟨hd1, hd2, hd3, hd4, hd5, hd6⟩ := HAp.out
  have hi4 : InAt W4.drew ib ipb imb 64 0 s.U := (HA.out.inn.chg hc4 (by simp at hd1 ⊢; exact fun e => hd1.1.1 e.symm) (by simp at hd1 ⊢; exact fun e => hd1.1.2.1 e.symm) (by simp at hd1 ⊢; exact fun e => hd1.1.2.2.1 e.symm)).chg (Chg.refl W4 []).drew (by simp) (by simp) (by simp)
  have hpk : pr ∉ [ipb, imb] := by simp at hd1 ⊢; exact ⟨hd1.1.2.1, hd1.1.2.2.1⟩
  have hwk : w.heap.size ∉ [ipb, imb] := by have := HA.out.inn.pool.blk.lt; have := HA.out.inn.pool.set.lt; simp; omega
  have x1 : W4.cell? ⟨pr, 1, none⟩ = some (.pointer (some ⟨ib, 0, none⟩)) := hb4.cell 1
  have x2 : W4.rangeAt w.heap.size 0 (Pkt.enc ⟨xk, xd, xq, xn, xt, xb, xc⟩).toList := fun j u hu => by rw [Nat.zero_add, hx4.cell j, ← Array.getElem?_toList]; exact hu
  have hu56 := Tryz.underlying56
  have hsz := HSz.out
  have hnil : ¬ pr = w.heap.size := hprne
  have HB4 := Lib.hid hb4
  have HX4 := Lib.hid hx4
  have HC4 := Lib.hid hc4
  have HI4 := Lib.hid hi4
  have HPk := Lib.hid hpk
  have HWk := Lib.hid hwk
  have HD := Lib.hid (And.intro hd1 (And.intro hd2 (And.intro hd3 (And.intro hd4 (And.intro hd5 hd6)))))
  clear hb4 hx4 hc4 hi4 hpk hwk hd1 hd2 hd3 hd4 hd5 hd6
  refine wp_region_held_drew (S := fun w' => w'.cell? ⟨pr, 1, none⟩ = some (.pointer (some ⟨ib, 0, none⟩)) ∧ w'.rangeAt w.heap.size 0 (Pkt.enc ⟨xk, xd, xq, xn, xt, xb, xc⟩).toList) (by kernel_rfl) ?_ (fun hHeld => ?_)
  · exact ⟨x1, x2⟩
  refine' wpAnyH_take (i := 4) (v := _) rfl (by kernel_rfl) (by kernel_rfl) (by kernel_rfl) (fun _ _ _ h => h) (yieldsIf_load_mid (by rfl) _ _ rfl _ _ rfl _ _ ?hS4 hu56 ?hd4 hsz) (by assumption) ?rest4
  case hS4 => exact fun w hSw => hSw.2
  case hd4 => rfl
  change wpAnyH _ _ _ _ _ _ _ (Act.put _ (some 32) _) _
  simp only [Act.put, List.setIfInBounds_toArray, List.set_cons_zero, List.set_cons_succ]
  refine' wpAnyH_take (i := 0) (v := _) rfl (by kernel_rfl) (by kernel_rfl) (by kernel_rfl) (fun _ _ _ h => h) (Or.inl ⟨by rfl, ?hy0⟩) (by assumption) ?rest0
  case hy0 =>
    intro w hSw
    try dsimp only at hSw
    go_simp
    try with_reducible rfl
  change wpAnyH _ _ _ _ _ _ _ (Act.put _ (some 28) _) _
  simp only [Act.put, List.setIfInBounds_toArray, List.set_cons_zero, List.set_cons_succ]
  refine' wpAnyH_take (i := 1) (v := _) rfl (by kernel_rfl) (by kernel_rfl) (by kernel_rfl) (fun _ _ _ h => h) (Or.inl ⟨by rfl, ?hy1⟩) (by assumption) ?rest1
  case hy1 =>
    intro w hSw
    try dsimp only at hSw
    go_simp
    try with_reducible rfl
  change wpAnyH _ _ _ _ _ _ _ (Act.put _ (some 29) _) _
  simp only [Act.put, List.setIfInBounds_toArray, List.set_cons_zero, List.set_cons_succ]
  refine' wpAnyH_take (i := 2) (v := _) rfl (by kernel_rfl) (by kernel_rfl) (by kernel_rfl) (fun _ _ _ h => h) (Or.inl ⟨by rfl, ?hy2⟩) (by assumption) ?rest2
  case hy2 =>
    intro w hSw
    try dsimp only at hSw
    go_simp
    try with_reducible rfl
  change wpAnyH _ _ _ _ _ _ _ (Act.put _ (some 30) _) _
  simp only [Act.put, List.setIfInBounds_toArray, List.set_cons_zero, List.set_cons_succ]
  refine' wpAnyH_take (i := 3) (v := _) rfl (by kernel_rfl) (by kernel_rfl) (by kernel_rfl) (fun _ _ _ h => h) (Or.inl ⟨by rfl, ?hy3⟩) (by assumption) ?rest3
  case hy3 =>
    intro w hSw
    try dsimp only at hSw
    go_simp
    try with_reducible rfl
  change wpAnyH _ _ _ _ _ _ _ (Act.put _ (some 31) _) _
  simp only [Act.put, List.setIfInBounds_toArray, List.set_cons_zero, List.set_cons_succ]
  refine wpAnyH_ready (rs := [5]) (by kernel_rfl) (by simp) ?_
  refine AllReadyH.cons rfl (fun K hK => ?_) AllReadyH.nil
  go_simp
  refine (HTk.out _ _ _ _ HI4.out).mono ?_
  rintro e w5 ⟨c, g5, hg5, rfl, hr5, hi5, hc5⟩
  dsimp only
  refine hK.out _ _ ?_ (fun hHeld2 => ?_)
  · exact ⟨hc5.cell hHeld.1 HPk.out, rangeAt_chg hHeld.2 hc5 HWk.out⟩
  clear hK K
  try simp only [Act.put, List.setIfInBounds_toArray, List.set_cons_zero, List.set_cons_succ]
  refine' wpAnyH_take (i := 6) (v := _) rfl (by kernel_rfl) (by kernel_rfl) (by kernel_rfl) (fun _ _ _ h => h) (Or.inl ⟨by rfl, ?hy6⟩) (by assumption) ?rest6
  case hy6 =>
    intro w hSw
    try dsimp only at hSw
    go_simp
    try with_reducible rfl
  change wpAnyH _ _ _ _ _ _ _ (Act.put _ (some 27) _) _
  simp only [Act.put, List.setIfInBounds_toArray, List.set_cons_zero, List.set_cons_succ]
  refine' wpAnyH_take (i := 7) (v := _) rfl (by kernel_rfl) (by kernel_rfl) (by kernel_rfl) (fun _ _ _ h => h) (Or.inl ⟨by rfl, ?hy7⟩) (by assumption) ?rest7
  case hy7 =>
    intro w hSw
    try dsimp only at hSw
    go_simp
    try with_reducible rfl
  change wpAnyH _ _ _ _ _ _ _ (Act.put _ (some 34) _) _
  simp only [Act.put, List.setIfInBounds_toArray, List.set_cons_zero, List.set_cons_succ]
  refine' wpAnyH_take (i := 8) (v := _) rfl (by kernel_rfl) (by kernel_rfl) (by kernel_rfl) (fun _ _ _ h => h) (Or.inl ⟨by rfl, ?hy8⟩) (by assumption) ?rest8
  case hy8 =>
    intro w hSw
    try dsimp only at hSw
    go_simp
    try with_reducible rfl
  change wpAnyH _ _ _ _ _ _ _ (Act.put _ (some 35) _) _
  simp only [Act.put, List.setIfInBounds_toArray, List.set_cons_zero, List.set_cons_succ]
  refine' wpAnyH_take (i := 9) (v := _) rfl (by kernel_rfl) (by kernel_rfl) (by kernel_rfl) (fun _ _ _ h => h) (Or.inl ⟨by rfl, ?hy9⟩) (by assumption) ?rest9
  case hy9 =>
    intro w hSw
    try dsimp only at hSw
    go_simp
    try with_reducible rfl
  change wpAnyH _ _ _ _ _ _ _ (Act.put _ (some 36) _) _
  simp only [Act.put, List.setIfInBounds_toArray, List.set_cons_zero, List.set_cons_succ]
  refine' wpAnyH_take (i := 10) (v := _) rfl (by kernel_rfl) (by kernel_rfl) (by kernel_rfl) (fun _ _ _ h => h) (Or.inl ⟨by rfl, ?hy10⟩) (by assumption) ?rest10
  case hy10 =>
    intro w hSw
    try dsimp only at hSw
    go_simp
    try with_reducible rfl
  change wpAnyH _ _ _ _ _ _ _ (Act.put _ (some 4) _) _
  simp only [Act.put, List.setIfInBounds_toArray, List.set_cons_zero, List.set_cons_succ]
  refine' wpAnyH_take (i := 11) (v := _) rfl (by kernel_rfl) (by kernel_rfl) (by kernel_rfl) (fun _ _ _ h => h) (Or.inl ⟨by rfl, ?hy11⟩) (by assumption) ?rest11
  case hy11 =>
    intro w hSw
    try dsimp only at hSw
    go_simp
    try with_reducible rfl
  change wpAnyH _ _ _ _ _ _ _ (Act.put _ (some 5) _) _
  simp only [Act.put, List.setIfInBounds_toArray, List.set_cons_zero, List.set_cons_succ]
  refine' wpAnyH_take (i := 12) (v := _) rfl (by kernel_rfl) (by kernel_rfl) (by kernel_rfl) (fun _ _ _ h => h) (Or.inl ⟨by rfl, ?hy12⟩) (by assumption) ?rest12
  case hy12 =>
    intro w hSw
    try dsimp only at hSw
    go_simp
    try with_reducible rfl
  change wpAnyH _ _ _ _ _ _ _ (Act.put _ (some 6) _) _
  simp only [Act.put, List.setIfInBounds_toArray, List.set_cons_zero, List.set_cons_succ]
  refine wpAnyH_done (by kernel_rfl) ?_ _
  have z0 : w5.cell? ⟨w.heap.size, 0, none⟩ = some (.int .i64 xk) := hHeld2.2 0 _ rfl
  have z6 : w5.cell? ⟨w.heap.size, 6, none⟩ = some (.string xb) := hHeld2.2 6 _ rfl
  clear x1 x2 hHeld hHeld2
  have HC5 := Lib.hid hc5
  have HR5 := Lib.hid hr5
  have HI5 := Lib.hid hi5
  have hb5 := (HB4.out.drew).chg hc5 HPk.out
  have k3 : w5.cell? ⟨pr, 3, none⟩ = some (.slice Ab nb cb) := hb5.cell 3
  have k4 : w5.cell? ⟨pr, 4, none⟩ = some (.map (some gb)) := hb5.cell 4
  have HB5 := Lib.hid hb5
  have HC5' := Lib.hid (show Chg w w5 [pr, ipb, imb] from ((HC4.out.mono fun b hb => .inl (by simp at hb; simp [hb])).drew).trans hc5 fun b hb => .inl (List.mem_cons_of_mem _ hb))
  clear hb5 hc5 hr5 hi5
  have HFin := Lib.hid (fun (w6 : World) (K : List Nat) (g : Nat → Nat) (hg6 : GotAt w6 gb K g) (hc6 : Chg w5 w6 [gb]) (A' : Option Addr) (n' c' : Nat) (w7 : World) (hr7 : RowOf Pkt.enc 26 w7 (.slice A' n' c') (s.B ++ [ans c])) (hc7 : Chg w6 w7 (Value.slice Ab nb cb).ownBlock.toList) (hat) => move_end HA.out HA1.out HTh.out HC4.out HB4.out HI5.out HC5.out hg6 hc6 hr7 hc7 hat)
  have HBk := Lib.hid (fun (w6 : World) (hc6 : Chg w5 w6 [gb]) => (HA.out.back.chg HC5'.out (by
    intro k hk
    obtain ⟨a1, a2, a3, a4, a5⟩ := (show _ ∧ _ from by simpa using (pfoot_iff.1 HA.out.apart).2.2.2.2.1 k hk).1
    simp only [List.mem_cons, List.not_mem_nil, or_false, not_or]
    exact ⟨a1, a3, a4⟩)).chg hc6 (by
    intro k hk
    obtain ⟨a1, a2, a3, a4, a5⟩ := (show _ ∧ _ from by simpa using (pfoot_iff.1 HA.out.apart).2.2.2.2.1 k hk).1
    simpa using a5))
  have hgb : GotAt w5 gb s.K s.g := HA.out.got.chg HC5'.out (by
    have hd := (pfoot_iff.1 HA.out.apart).1
    simp at hd ⊢
    exact ⟨fun e => hd.1.2.2.2 e.symm, fun e => hd.2.2.1.2 e.symm, fun e => hd.2.2.2 e.symm⟩)
  have HGb := Lib.hid hgb
  have hrow : ∀ (w6 w7 : World), Chg w5 w6 [gb] → Chg w6 w7 (Value.slice Ab nb cb).ownBlock.toList → w7.cell? ⟨pr, 3, none⟩ = some (.slice Ab nb cb) ∧ w7.frozen? ⟨pr, 3, none⟩ = false := by
    intro w6 w7 h6 h7
    have hd := (pfoot_iff.1 HA.out.apart).1
    have hb7 := (HB5.out.chg h6 (by simp at hd ⊢; exact hd.1.2.2.2)).chg h7 fun hm => by
      exact ((pfoot_iff.1 HA.out.apart).2.2.2.2.1 pr (mem_own.1 hm)).1 (by simp)
    exact ⟨hb7.cell 3, hb7.frozen 3⟩
  have HRow := Lib.hid hrow
  clear hrow hgb
  have tok3 : True := trivial
  cases b with
  | false =>
    have hbk := HBk.out w5 (Chg.refl _ _)
    have HBk5 := Lib.hid hbk
    clear hbk k4 z0 z6
    go_wp2_with (have _t := tok3; refine append_pkts (by rfl) (.tmp 55) (.tmp 56) (by rfl) (.slice Ab nb cb) s.B (by rfl) HBk5.out (.slice (some ⟨g5, 0, none⟩) 1 1) [ans c] (by rfl) HR5.out (by simp) (by simp; omega) ?_; clear tok3; intro A' n' c' w7 hr7 hc7 hat7; obtain ⟨r3, r3f⟩ := HRow.out w5 w7 (Chg.refl _ _) hc7; have HR7 := Lib.hid hr7; have HC7 := Lib.hid hc7; have HAt7 := Lib.hid hat7; clear hr7 hc7 hat7)
    go_ret
    refine ⟨rfl, c, ?_⟩
    rw [HS1.out, if_neg (by simp)]
    have hfin := HFin.out w5 s.K s.g HGb.out (Chg.refl _ _) A' n' c' w7 HR7.out HC7.out HAt7.out
    rw [← HNb.out] at hfin
    exact hfin
  | true =>
    obtain ⟨rfl, rfl⟩ := HB.out rfl
    go_wp2_with fail
    have HGd := Lib.hid (HGb.out.chg (Chg.refl w5 []).drew (by simp))
    have hlook := HGd.out.look hi
    obtain ⟨w6, hput, hg6, hc6⟩ := HGd.out.put hi hK hg
    rw [← wrap_small (s.g i) hg] at hput
    have hc56 : Chg w5 w6 [gb] := ((Chg.refl w5 _).drew).trans hc6 fun b hb => .inl hb
    have hbk := HBk.out w6 hc56
    have HBk6 := Lib.hid hbk
    have HG6 := Lib.hid hg6
    have HC6 := Lib.hid hc56
    have j3 := HB5.out.chg hc56 (by have hd := (pfoot_iff.1 HA.out.apart).1; simp at hd ⊢; exact hd.1.2.2.2)
    have m3 : w6.cell? ⟨pr, 3, none⟩ = some (.slice Ab nb cb) := j3.cell 3
    have m4 : w6.cell? ⟨pr, 4, none⟩ = some (.map (some gb)) := j3.cell 4
    have m6 : w6.cell? ⟨w.heap.size, 6, none⟩ = some (.string (keyB i)) := hc56.cell z6 (by have := HA.out.got.lt; simp; omega)
    clear hbk hg6 hc6 hc56 j3
    go_region_held3 (fun w' => w'.cell? ⟨pr, 4, none⟩ = some (.map (some gb)) ∧ w'.cell? ⟨w.heap.size, 6, none⟩ = some (.string (keyB i))) (first | go_keep | assumption | exact ⟨by assumption, by assumption⟩) (fail)
    clear hlook hput
    go_wp2_with (have _t := tok3; refine append_pkts (by rfl) (.tmp 55) (.tmp 56) (by rfl) (.slice Ab nb cb) s.B (by rfl) HBk6.out (.slice (some ⟨g5, 0, none⟩) 1 1) [ans c] (by rfl) (HR5.out.chg HC6.out (by have := HA.out.got.lt; have := HC4.out.size; simp [Value.ownBlock]; simp at hg5; omega)) (by simp) (by simp; omega) ?_; clear tok3; intro A' n' c' w7 hr7 hc7 hat7; obtain ⟨r3, r3f⟩ := HRow.out w6 w7 HC6.out hc7; have HR7 := Lib.hid hr7; have HC7 := Lib.hid hc7; have HAt7 := Lib.hid hat7; clear hr7 hc7 hat7)
    go_ret
    refine ⟨rfl, c, ?_⟩
    rw [HS1.out, if_pos trivial]
    have hfin := HFin.out w6 _ _ HG6.out HC6.out A' n' c' w7 HR7.out HC7.out HAt7.out
    rw [← HNb.out] at hfin
    exact hfin
end
end Go.Proofs.YtcepfhnlbnlnhaaGreatDoor
