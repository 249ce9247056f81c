/- WHAT A SEND LEAVES; packets behind packets where the order is drawn. -/
import Derived.Test.YtcepfhnlbnlnhaaGreatDoorBrk
namespace Go.Proofs.YtcepfhnlbnlnhaaGreatDoor
set_option maxRecDepth 100000
open Go.RowKit

section
variable {w : World}
/-- What packets behind those on their way leave. -/
theorem pub_end {w W4 w5 w7 : World} {pr fb ib ipb imb gb : Nat} {F : List Nat} {vt vt' vb vb' : Value} {s : PairS} (hA : PairAt w pr fb ib ipb imb gb F vt vb s) (hown : vb'.ownBlock = vb.ownBlock) {B : List Pkt} (hBk : RowOf Pkt.enc 26 w vb' B) (hc4 : Chg w W4 [pr])
    (hb4 : Blk W4 pr 32 #[.pointer (some ⟨fb, 0, none⟩), .pointer (some ⟨ib, 0, none⟩), vt, vb', .map (some gb)]) {o' : OutS} {news : List Pkt} {v : Value} (hS : Sent W4.drew fb F o' news v w5)
    {T : List Pkt} (hr7 : RowOf Pkt.enc 26 w7 vt' T) (hc7 : Chg w5 w7 vt.ownBlock.toList) (hat : ∀ k, vt'.ownBlock = some k → vt.ownBlock = some k ∨ w5.heap.size ≤ k) :
    Stepped w pr (pfoot pr ib ipb imb gb F vt vb) { s with o := o', T := T, B := B } (w7.setCell ⟨pr, 2, none⟩ vt') := by
  obtain ⟨F5, hO5, -, -, hc5, hF5, -⟩ := hS
  obtain ⟨hd1, hd2, hd3, hd4, hd5, hd6⟩ := pfoot_iff.1 hA.apart
  have hlt := hA.lt
  have hnd1 := hd1
  simp only [List.nodup_cons, List.mem_cons, List.not_mem_nil, or_false, not_or, not_false_eq_true, List.nodup_nil, and_true] at hd1 hd3 hd4 hd5
  obtain ⟨⟨p1, p2, p3, p4⟩, ⟨q1, q2, q3⟩, ⟨r1, r2⟩, u1⟩ := hd1
  have hput : Chg w7 (w7.setCell ⟨pr, 2, none⟩ vt') [pr] := (Chg.refl w7 _).put _ (.inl (by simp)) _
  have hc45 : Chg W4 w5 F := ((Chg.refl W4 _).drew).trans hc5 fun b hb => .inl hb
  have hc58 : Chg w5 (w7.setCell ⟨pr, 2, none⟩ vt') (pr :: vt.ownBlock.toList) := (hc7.mono fun b hb => .inl (List.mem_cons_of_mem _ hb)).trans hput fun b hb => .inl (by simp at hb; simp [hb])
  have hc48 : Chg W4 (w7.setCell ⟨pr, 2, none⟩ vt') (pr :: (F ++ vt.ownBlock.toList)) := (hc45.mono fun b hb => .inl (by simp [hb])).trans hc58 fun b hb => .inl (by rcases List.mem_cons.1 hb with h | h <;> simp [h])
  have hc08 : Chg w (w7.setCell ⟨pr, 2, none⟩ vt') (pr :: (F ++ vt.ownBlock.toList)) := (hc4.mono fun b hb => .inl (by simp at hb; simp [hb])).trans hc48 fun b hb => .inl hb
  have hw5 : w.heap.size ≤ w5.heap.size := Nat.le_trans hc4.size hc45.size
  have hw4 : w.heap.size ≤ W4.drew.heap.size := hc4.size
  have hprb : pr ∉ vt.ownBlock.toList := fun hm => (hd4 pr (mem_own.1 hm)).1.1 rfl
  have hprF : pr ∉ F := fun hm => (hd3 pr hm).1 rfl
  have hall : ∀ k, w.heap.size ≤ k → ¬ k = pr ∧ ¬ k = ib ∧ ¬ k = ipb ∧ ¬ k = imb ∧ ¬ k = gb := by
    intro k h
    have l1 := hlt pr (by simp [pfoot])
    have l2 := hlt ib (by simp [pfoot])
    have l3 := hlt ipb (by simp [pfoot])
    have l4 := hlt imb (by simp [pfoot])
    have l5 := hlt gb (by simp [pfoot])
    exact ⟨by omega, by omega, by omega, by omega, by omega⟩
  have hF5p : ∀ k ∈ F5, ¬ k = pr ∧ ¬ k = ib ∧ ¬ k = ipb ∧ ¬ k = imb ∧ ¬ k = gb := fun k hk => by
    rcases hF5 k hk with h | h
    · exact hd3 k h
    · exact hall k (by omega)
  have hF5t : ∀ k ∈ F5, vt.ownBlock ≠ some k := fun k hk e => by
    rcases hF5 k hk with h | h
    · exact (hd4 k e).2 h
    · have := hlt k (by simp [pfoot, e]); omega
  have hF5b : ∀ k ∈ F5, vb.ownBlock ≠ some k := fun k hk e => by
    rcases hF5 k hk with h | h
    · exact (hd5 k e).2 h
    · have := hlt k (by simp [pfoot, e]); omega
  have hnew : ∀ k, vt'.ownBlock = some k → (¬ k = pr ∧ ¬ k = ib ∧ ¬ k = ipb ∧ ¬ k = imb ∧ ¬ k = gb) ∧ k ∉ F5 := by
    intro k hk
    rcases hat k hk with h | h
    · exact ⟨(hd4 k h).1, fun hm => hF5t k hm h⟩
    · exact ⟨hall k (by omega), fun hm => by have := hO5.lt k hm; omega⟩
  have hot : ∀ k, (¬ k = pr) → k ∉ F → vt.ownBlock ≠ some k → k ∉ pr :: (F ++ vt.ownBlock.toList) := by
    intro k h1 h2 h3
    simp only [List.mem_cons, List.mem_append, mem_own, not_or]
    exact ⟨h1, h2, h3⟩
  have hib : ∀ k, k ∈ [ib, ipb, imb, gb] → k ∉ pr :: (F ++ vt.ownBlock.toList) := by
    intro k hk
    refine hot k (fun e => ?_) (fun hm => ?_) (fun e => ?_)
    · subst e
      simp only [List.mem_cons, List.not_mem_nil, or_false] at hk
      rcases hk with h | h | h | h
      · exact p1 h
      · exact p2 h
      · exact p3 h
      · exact p4 h
    · obtain ⟨-, a2, a3, a4, a5⟩ := hd3 k hm
      simp only [List.mem_cons, List.not_mem_nil, or_false] at hk
      rcases hk with h | h | h | h
      · exact a2 h
      · exact a3 h
      · exact a4 h
      · exact a5 h
    · obtain ⟨⟨-, a2, a3, a4, a5⟩, -⟩ := hd4 k e
      simp only [List.mem_cons, List.not_mem_nil, or_false] at hk
      rcases hk with h | h | h | h
      · exact a2 h
      · exact a3 h
      · exact a4 h
      · exact a5 h
  refine ⟨pfoot pr ib ipb imb gb F5 vt' vb', ⟨fb, ib, ipb, imb, gb, F5, vt', vb', ⟨?_, ?_, ?_, ?_, ?_, ?_, ?_⟩, rfl⟩, ?_, ?_⟩
  · exact ((hb4.chg hc45 hprF).chg hc7 hprb).put 2 _
  · refine hO5.chg hc58 fun k hk => ?_
    simp only [List.mem_cons, mem_own, not_or]
    exact ⟨(hF5p k hk).1, hF5t k hk⟩
  · exact hA.inn.chg hc08 (hib _ (by simp)) (hib _ (by simp)) (hib _ (by simp))
  · exact hr7.chg hput fun k hk => by simpa using (hnew k hk).1.1
  · refine hBk.chg hc08 fun k hk => ?_
    rw [hown] at hk
    obtain ⟨⟨a1, a2, a3, a4, a5⟩, a6⟩ := hd5 k hk
    exact hot k a1 a6 fun e => hd6 k e hk
  · exact hA.got.chg hc08 (hib _ (by simp))
  · refine pfoot_iff.2 ⟨hnd1, hO5.nodup, ?_, ?_, ?_, ?_⟩
    · intro k hk
      simp only [List.mem_cons, List.not_mem_nil, or_false, not_or]
      exact hF5p k hk
    · intro k hk
      simp only [List.mem_cons, List.not_mem_nil, or_false, not_or]
      exact hnew k hk
    · intro k hk
      rw [hown] at hk
      simp only [List.mem_cons, List.not_mem_nil, or_false, not_or]
      exact ⟨(hd5 k hk).1, fun hm => hF5b k hm hk⟩
    · intro k hk hk2
      rw [hown] at hk2
      rcases hat k hk with h | h
      · exact hd6 k h hk2
      · have := hlt k (by simp [pfoot, hk2]); omega
  · refine hc08.mono fun b hb => .inl ?_
    simp only [List.mem_cons, List.mem_append, mem_own] at hb
    rcases hb with h | h | h <;> simp [pfoot, h]
  · intro k hk
    simp only [pfoot, List.mem_append, List.mem_cons, List.not_mem_nil, or_false, mem_own] at hk ⊢
    rcases hk with h | h | h | h
    · exact .inl (.inl h)
    · rcases hF5 k h with h | h
      · exact .inl (.inr (.inl h))
      · exact .inr (by omega)
    · rcases hat k h with h | h
      · exact .inl (.inr (.inr (.inl h)))
      · exact .inr (by omega)
    · rw [hown] at h
      exact .inl (.inr (.inr (.inr h)))
/-- Packets behind packets, in a region that draws its order. -/
theorem step_append_pkts {ops : Array Oper} {o : Oper} {a : Act} {K : Act → World → Prop} {Q : Exit → Act → World → Prop} {E : Prop} (hg : o.guard = none) (s x : Operand) (ho : o.op = .call { callee := .builtin .append, args := #[s, x], argTypes := #[30, 30] })
    (v : Value) (l : List Pkt) (hs : a.eval s = v) (hr : RowOf Pkt.enc 26 w v l) (u : Value) (m : List Pkt) (hx : a.eval x = u) (hu : RowOf Pkt.enc 26 w u m) (hn : m = [] → u = .slice none 0 0) (hl : l.length + m.length ≤ 4000)
    (h : ∀ A' n' c' w', RowOf Pkt.enc 26 w' (.slice A' n' c') (l ++ m) → Chg w w' v.ownBlock.toList → (∀ g, (Value.slice A' n' c').ownBlock = some g → v.ownBlock = some g ∨ w.heap.size ≤ g) → K (a.put o.dst (.slice A' n' c')) w') :
    if Region.wanted o (yielded ops a.tmps) = true then Oper.wp Tryz.prog o a w K Q else E := by
  obtain ⟨ip, hip, hq0, hq1, hq2⟩ := info_parts Tryz.infoPkt
  obtain ⟨A0, c0, hv0, -, -, -⟩ := hr.slice
  by_cases hm : m = []
  · have hx0 := hn hm
    subst hm
    refine step_append_q0 hg s x 30 ho 56 ip 26 Tryz.underlying30 hip v l.length (flat Pkt.enc l) hs hr (by rw [hx, hx0]) ?_
    subst hv0
    exact h A0 _ c0 w (by rw [List.append_nil]; exact hr) (Chg.refl _ _) fun g hg => .inl hg
  · have hm0 : 0 < m.length := List.length_pos_iff.2 hm
    obtain ⟨gu, offu, capu, hvu, hk1, hk2, hk3, hk4, hk5⟩ := QRow.form hu hm0
    refine step_append_q hg s x 30 ho 56 ip _ 26 328 Tryz.underlying30 hip hq0 hq1 hq2 (by rfl) (by decide) v l.length (flat Pkt.enc l) hs hr ⟨gu, offu, none⟩ m.length capu (flat Pkt.enc m) (by rw [hx, hvu]) (flat_len Pkt.enc Pkt.size m)
      (fun j z hj => by rw [Addr.add_mid]; exact hk3 j z hj) (flat_oneCell Pkt.enc Pkt.one m) hm0 (by unfold maxLen; omega) (by omega) ?_
    intro g off cap w' hq hc hat
    refine h (some ⟨g, off, none⟩) (l.length + m.length) cap w' ?_ hc fun k hk => ?_
    · unfold RowOf
      rw [List.length_append, flat_append]
      exact hq
    · have e : g = k := by simpa [Value.ownBlock] using hk
      subst e
      exact hat
end
end Go.Proofs.YtcepfhnlbnlnhaaGreatDoor
