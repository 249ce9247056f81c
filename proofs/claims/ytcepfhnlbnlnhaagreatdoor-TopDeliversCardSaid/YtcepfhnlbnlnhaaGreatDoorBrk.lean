/- THE WALK of TopDelivers's breaks. -/
import Derived.Test.YtcepfhnlbnlnhaaGreatDoorAnsw
namespace Go.Proofs.YtcepfhnlbnlnhaaGreatDoor
set_option maxRecDepth 100000
open Go.RowKit

section
variable {w : World}
/-- What a break leaves. -/
theorem brk_end {w W1 W2 w5 w8 : World} {pr fb ib ipb imb gb : Nat} {F : List Nat} {vt vb v : Value} {s : PairS} (hA : PairAt w pr fb ib ipb imb gb F vt vb s) (hc1 : Chg w W1 F) (hc2 : Chg W1 W2 []) {o' : OutS} {news : List Pkt} (hS : Sent W2 fb F o' news v w5) (hc8 : Chg w5 w8 [pr])
    (hb8 : Blk w8 pr 32 #[.pointer (some ⟨fb, 0, none⟩), .pointer (some ⟨ib, 0, none⟩), v, .slice none 0 0, .map (some gb)]) :
    Stepped w pr (pfoot pr ib ipb imb gb F vt vb) { s with o := o', T := news, B := [] } w8 := by
  obtain ⟨F5, hO5, hr5, -, hc5, hF5, hv5⟩ := hS
  obtain ⟨hd1, hd2, hd3, hd4, hd5, hd6⟩ := pfoot_iff.1 hA.apart
  have hlt := hA.lt
  have hnd1 := hd1
  simp only [List.nodup_cons, List.mem_cons, List.not_mem_nil, or_false, not_or, not_false_eq_true, List.nodup_nil, and_true] at hd1 hd3
  obtain ⟨⟨p1, p2, p3, p4⟩, ⟨q1, q2, q3⟩, ⟨r1, r2⟩, u1⟩ := hd1
  have hc02 : Chg w W2 F := hc1.trans hc2 fun b hb => by simp at hb
  have hc05 : Chg w w5 F := hc02.trans hc5 fun b hb => .inl hb
  have hc08 : Chg w w8 (pr :: F) := (hc05.mono fun b hb => .inl (List.mem_cons_of_mem _ hb)).trans hc8 fun b hb => .inl (by simp at hb; simp [hb])
  have hall : ∀ k, w.heap.size ≤ k → ¬ k = pr ∧ ¬ k = ib ∧ ¬ k = ipb ∧ ¬ k = imb ∧ ¬ k = gb := by
    intro k h
    have l1 := hlt pr (by simp [pfoot])
    have l2 := hlt ib (by simp [pfoot])
    have l3 := hlt ipb (by simp [pfoot])
    have l4 := hlt imb (by simp [pfoot])
    have l5 := hlt gb (by simp [pfoot])
    exact ⟨by omega, by omega, by omega, by omega, by omega⟩
  have hw2 : w.heap.size ≤ W2.heap.size := hc02.size
  have hF5p : ∀ k ∈ F5, ¬ k = pr ∧ ¬ k = ib ∧ ¬ k = ipb ∧ ¬ k = imb ∧ ¬ k = gb := fun k hk => by
    rcases hF5 k hk with h | h
    · exact hd3 k h
    · exact hall k (by omega)
  have hib : ∀ k, k ∈ [ib, ipb, imb, gb] → k ∉ pr :: F := by
    intro k hk hm
    rcases List.mem_cons.1 hm with e | hm
    · subst e
      simp only [List.mem_cons, List.not_mem_nil, or_false] at hk
      rcases hk with h | h | h | h
      · exact p1 h
      · exact p2 h
      · exact p3 h
      · exact p4 h
    · obtain ⟨-, a2, a3, a4, a5⟩ := hd3 k hm
      simp only [List.mem_cons, List.not_mem_nil, or_false] at hk
      rcases hk with h | h | h | h
      · exact a2 h
      · exact a3 h
      · exact a4 h
      · exact a5 h
  refine ⟨pfoot pr ib ipb imb gb F5 v (.slice none 0 0), ⟨fb, ib, ipb, imb, gb, F5, v, .slice none 0 0, ⟨hb8, ?_, ?_, ?_, RowOf.nil _ _ _, ?_, ?_⟩, rfl⟩, ?_, ?_⟩
  · exact hO5.chg hc8 fun k hk => by simpa using (hF5p k hk).1
  · exact hA.inn.chg hc08 (hib _ (by simp)) (hib _ (by simp)) (hib _ (by simp))
  · exact hr5.chg hc8 fun k hk => by
      have := hall k (Nat.le_trans hw2 (hv5 k hk).1)
      simpa using this.1
  · exact hA.got.chg hc08 (hib _ (by simp))
  · refine pfoot_iff.2 ⟨hnd1, hO5.nodup, ?_, ?_, ?_, ?_⟩
    · intro k hk
      simp only [List.mem_cons, List.not_mem_nil, or_false, not_or]
      exact hF5p k hk
    · intro k hk
      simp only [List.mem_cons, List.not_mem_nil, or_false, not_or]
      exact ⟨hall k (Nat.le_trans hw2 (hv5 k hk).1), (hv5 k hk).2⟩
    · intro k hk; simp [Value.ownBlock] at hk
    · intro k hk; simp [Value.ownBlock]
  · exact hc08.mono fun b hb => .inl (by rcases List.mem_cons.1 hb with h | h <;> simp [pfoot, h])
  · intro k hk
    simp only [pfoot, List.mem_append, List.mem_cons, List.not_mem_nil, or_false, mem_own] at hk ⊢
    rcases hk with h | h | h | h
    · exact .inl (.inl h)
    · rcases hF5 k h with h | h
      · exact .inl (.inr (.inl h))
      · exact .inr (by omega)
    · exact .inr (Nat.le_trans hw2 (hv5 k h).1)
    · simp [Value.ownBlock] at h
set_option maxHeartbeats 6400000 in
theorem breaks_step {pr pv mv : Nat} {P : List Nat} {s : PairS} (h : PairA w pr P s) (hpv : w.cell? ⟨pv, 0, none⟩ = some (.pointer (some ⟨pr, 0, none⟩))) (hmv : w.cell? ⟨mv, 0, none⟩ = some (.int .i64 (s.o.most : Int))) (h1 : pv ∉ P) (h2 : mv ∉ P) (o' : OutS) (news : List Pkt)
    (hBeg : ∀ (W : World) (fb : Nat) (F : List Nat), OutA W fb F { s.o with on := false } → Calls Tryz.prog 11 #[.pointer (some ⟨fb, 0, none⟩), .int .i64 (s.o.most : Int)] W fun e w' => ∃ v, e = .returned v ∧ Sent W fb F o' news v w') :
    Calls Tryz.prog 9 #[.pointer (some ⟨pv, 0, none⟩), .pointer (some ⟨mv, 0, none⟩)] w fun e w' => e = .returned (.tuple #[]) ∧ Stepped w pr P { s with o := o', T := news, B := [] } w' := by
  obtain ⟨fb, ib, ipb, imb, gb, F, vt, vb, hA, rfl⟩ := h
  have c0 : w.cell? ⟨pr, 0, none⟩ = some (.pointer (some ⟨fb, 0, none⟩)) := hA.blk.cell 0
  obtain ⟨hd1, hd2, hd3, hd4, hd5, hd6⟩ := pfoot_iff.1 hA.apart
  have hprF : pr ∉ F := fun hm => by have := hd3 pr hm; simp at this
  have hpF : pv ∉ F := fun hm => h1 (by simp [pfoot, hm])
  have hmF : mv ∉ F := fun hm => h2 (by simp [pfoot, hm])
  have hpp : ¬ pv = pr := fun e => h1 (by simp [pfoot, e])
  have hmp : ¬ mv = pr := fun e => h2 (by simp [pfoot, e])
  have hpp2 : ¬ pr = pv := fun e => hpp e.symm
  have hmp2 : ¬ pr = mv := fun e => hmp e.symm
  have HA := Lib.hid hA
  have HBeg := Lib.hid hBeg
  clear hA hd1 hd2 hd3 hd4 hd5 hd6 hBeg h1 h2
  go_enter Tryz.func9, Tryz.ntmps9
  go_wp2_with fail
  refine (out_end HA.out.out).mono ?_
  rintro e w1 ⟨rfl, hO1, hc1⟩
  have d0 := hc1.cell c0 hprF
  have dp := hc1.cell hpv hpF
  have dm := hc1.cell hmv hmF
  have hb1 := HA.out.blk.chg hc1 hprF
  have hO2 := hO1.chg (Chg.refl w1 []).drew (by simp)
  have HO2 := Lib.hid hO2
  have HC1 := Lib.hid hc1
  have HB1 := Lib.hid hb1
  clear hO1 hc1 hb1 hO2 c0 hpv hmv
  go_wp2_with fail
  go_region_held3 (fun w' => w'.cell? ⟨pr, 0, none⟩ = some (.pointer (some ⟨fb, 0, none⟩)) ∧ w'.cell? ⟨pv, 0, none⟩ = some (.pointer (some ⟨pr, 0, none⟩)) ∧ w'.cell? ⟨mv, 0, none⟩ = some (.int .i64 (s.o.most : Int))) (first | assumption | (refine ⟨?_, ?_, ?_⟩ <;> (repeat rw [World.cell?_setCell_other _ _ _ _ (fun e => by have e1 := congrArg Addr.block e; have e2 := congrArg Addr.off e; dsimp only at e1 e2; omega)]) <;> assumption))
    (first
      | (go_at_call 11; refine (HBeg.out _ _ _ HO2.out).mono ?_; rintro e w5 ⟨v5, rfl, hS5⟩; obtain ⟨F5, hO5, hr5, hn5, hc5, hF5, hv5⟩ := hS5; obtain ⟨A5, c5, hv5', -, -, -⟩ := hr5.slice; subst hv5'; have k0 := hc5.cell (by exact d0 : w1.drew.cell? ⟨pr, 0, none⟩ = _) hprF; have kp := hc5.cell (by exact dp : w1.drew.cell? ⟨pv, 0, none⟩ = _) hpF; have km := hc5.cell (by exact dm : w1.drew.cell? ⟨mv, 0, none⟩ = _) hmF; have hb5 := (HB1.out.drew).chg hc5 hprF; have k2 := hb5.cell 2; have k3 := hb5.cell 3; have f2 := hb5.frozen 2; have f3 := hb5.frozen 3; have HB5 := Lib.hid hb5; have HS5 := Lib.hid (show Sent w1.drew fb F o' news (.slice A5 news.length c5) w5 from ⟨F5, hO5, hr5, hn5, hc5, hF5, hv5⟩); clear hO5 hr5 hn5 hc5 hF5 hv5 hb5))
  go_end0
  refine ⟨rfl, brk_end HA.out HC1.out (Chg.refl w1 []).drew HS5.out (((Chg.refl w5 [pr]).put _ (.inl (by simp)) _).put _ (.inl (by simp)) _) ?_⟩
  exact (HB5.out.put 2 _).put 3 _
end
end Go.Proofs.YtcepfhnlbnlnhaaGreatDoor
