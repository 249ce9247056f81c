/- A SENDER AND A RECEIVER with packets on their way: what holds in memory. -/
import Derived.Test.YtcepfhnlbnlnhaaGreatDoorGot
namespace Go.Proofs.YtcepfhnlbnlnhaaGreatDoor
set_option maxRecDepth 100000
open Go.RowKit

structure PairS where
  o : OutS
  U : List Int
  T : List Pkt
  B : List Pkt
  K : List Nat
  g : Nat → Nat
def pfoot (pr ib ipb imb gb : Nat) (F : List Nat) (vt vb : Value) : List Nat := [pr, ib, ipb, imb, gb] ++ (F ++ (vt.ownBlock.toList ++ vb.ownBlock.toList))
theorem pfoot_iff {pr ib ipb imb gb : Nat} {F : List Nat} {vt vb : Value} : (pfoot pr ib ipb imb gb F vt vb).Nodup ↔ [pr, ib, ipb, imb, gb].Nodup ∧ F.Nodup ∧ (∀ k ∈ F, k ∉ [pr, ib, ipb, imb, gb]) ∧
    (∀ g, vt.ownBlock = some g → g ∉ [pr, ib, ipb, imb, gb] ∧ g ∉ F) ∧ (∀ g, vb.ownBlock = some g → g ∉ [pr, ib, ipb, imb, gb] ∧ g ∉ F) ∧ (∀ g, vt.ownBlock = some g → vb.ownBlock ≠ some g) := by
  unfold pfoot
  generalize [pr, ib, ipb, imb, gb] = L
  generalize vt.ownBlock = t
  generalize vb.ownBlock = b
  rw [List.nodup_append, List.nodup_append, List.nodup_append]
  have ht : t.toList.Nodup := by cases t <;> simp
  have hb : b.toList.Nodup := by cases b <;> simp
  constructor
  · rintro ⟨h1, ⟨h2, ⟨-, -, h3⟩, h4⟩, h5⟩
    refine ⟨h1, h2, fun k hk hm => h5 k hm k (List.mem_append_left _ hk) rfl, fun g hg => ?_, fun g hg => ?_, fun g hg hg2 => ?_⟩
    · subst hg
      exact ⟨fun hm => h5 g hm g (by simp) rfl, fun hm => h4 g hm g (by simp) rfl⟩
    · subst hg
      exact ⟨fun hm => h5 g hm g (by simp) rfl, fun hm => h4 g hm g (by simp) rfl⟩
    · subst hg hg2
      exact h3 g (by simp) g (by simp) rfl
  · rintro ⟨h1, h2, h3, h4, h5, h6⟩
    refine ⟨h1, ⟨h2, ⟨ht, hb, fun x hx y hy e => ?_⟩, fun x hx y hy e => ?_⟩, fun x hx y hy e => ?_⟩
    · subst e
      rw [Option.mem_toList] at hx hy
      exact h6 x hx hy
    · subst e
      rcases List.mem_append.1 hy with hy | hy
      · exact (h4 x (Option.mem_toList.1 hy)).2 hx
      · exact (h5 x (Option.mem_toList.1 hy)).2 hx
    · subst e
      rcases List.mem_append.1 hy with hy | hy
      · exact h3 x hy hx
      rcases List.mem_append.1 hy with hy | hy
      · exact (h4 x (Option.mem_toList.1 hy)).1 hx
      · exact (h5 x (Option.mem_toList.1 hy)).1 hx
structure PairAt (w : World) (pr fb ib ipb imb gb : Nat) (F : List Nat) (vt vb : Value) (s : PairS) : Prop where
  blk : Blk w pr 32 #[.pointer (some ⟨fb, 0, none⟩), .pointer (some ⟨ib, 0, none⟩), vt, vb, .map (some gb)]
  out : OutA w fb F s.o
  inn : InAt w ib ipb imb 64 0 s.U
  there : RowOf Pkt.enc 26 w vt s.T
  back : RowOf Pkt.enc 26 w vb s.B
  got : GotAt w gb s.K s.g
  apart : (pfoot pr ib ipb imb gb F vt vb).Nodup
def PairA (w : World) (pr : Nat) (P : List Nat) (s : PairS) : Prop := ∃ fb ib ipb imb gb F vt vb, PairAt w pr fb ib ipb imb gb F vt vb s ∧ P = pfoot pr ib ipb imb gb F vt vb
def Stepped (w : World) (pr : Nat) (P : List Nat) (s : PairS) (w' : World) : Prop := ∃ P', PairA w' pr P' s ∧ Chg w w' P ∧ ∀ k ∈ P', k ∈ P ∨ w.heap.size ≤ k
section
variable {w : World}
theorem OutA.nodup {fb : Nat} {F : List Nat} {s : OutS} (h : OutA w fb F s) : F.Nodup := by
  obtain ⟨pb, mb, fv, wv, h, rfl⟩ := h
  exact h.apart
theorem PairAt.lt {pr fb ib ipb imb gb : Nat} {F : List Nat} {vt vb : Value} {s : PairS} (h : PairAt w pr fb ib ipb imb gb F vt vb s) : ∀ k ∈ pfoot pr ib ipb imb gb F vt vb, k < w.heap.size := by
  intro k hk
  simp only [pfoot, List.mem_append, List.mem_cons, List.not_mem_nil, or_false, mem_own] at hk
  rcases hk with (rfl | rfl | rfl | rfl | rfl) | hk | hk | hk
  · exact h.blk.lt
  · exact h.inn.blk.lt
  · exact h.inn.pool.blk.lt
  · exact h.inn.pool.set.lt
  · exact h.got.lt
  · exact h.out.lt k hk
  · exact h.there.lt k hk
  · exact h.back.lt k hk
theorem PairAt.chg {w' : World} {S : List Nat} {pr fb ib ipb imb gb : Nat} {F : List Nat} {vt vb : Value} {s : PairS} (h : PairAt w pr fb ib ipb imb gb F vt vb s) (hc : Chg w w' S) (hS : ∀ k ∈ pfoot pr ib ipb imb gb F vt vb, k ∉ S) : PairAt w' pr fb ib ipb imb gb F vt vb s :=
  ⟨h.blk.chg hc (hS _ (by simp [pfoot])), h.out.chg hc fun k hk => hS _ (by simp [pfoot, hk]), h.inn.chg hc (hS _ (by simp [pfoot])) (hS _ (by simp [pfoot])) (hS _ (by simp [pfoot])),
    h.there.chg hc fun g hg => hS _ (by simp [pfoot, hg]), h.back.chg hc fun g hg => hS _ (by simp [pfoot, hg]), h.got.chg hc (hS _ (by simp [pfoot])), h.apart⟩
theorem PairA.chg {w' : World} {S P : List Nat} {pr : Nat} {s : PairS} (h : PairA w pr P s) (hc : Chg w w' S) (hS : ∀ k ∈ P, k ∉ S) : PairA w' pr P s := by
  obtain ⟨fb, ib, ipb, imb, gb, F, vt, vb, h, rfl⟩ := h
  exact ⟨fb, ib, ipb, imb, gb, F, vt, vb, h.chg hc hS, rfl⟩
theorem PairA.lt {P : List Nat} {pr : Nat} {s : PairS} (h : PairA w pr P s) : ∀ k ∈ P, k < w.heap.size := by
  obtain ⟨fb, ib, ipb, imb, gb, F, vt, vb, h, rfl⟩ := h
  exact h.lt
theorem PairA.mem {P : List Nat} {pr : Nat} {s : PairS} (h : PairA w pr P s) : pr ∈ P := by
  obtain ⟨fb, ib, ipb, imb, gb, F, vt, vb, h, rfl⟩ := h
  simp [pfoot]
/-- A packet is laid into a new variable. -/
theorem store_new {ops : Array Oper} {rest : List Oper} {o : Oper} {a : Act} {Q : Exit → Act → World → Prop} (hg : o.guard = none) (hd : o.dst = none) (x y : Operand) (ho : o.op = .store 56 x y) (hx : a.eval x = .pointer (some ⟨w.heap.size, 0, none⟩)) (p : Pkt) (hy : a.eval y = .agg p.enc)
    (h : ∀ W, Chg w W [] → Blk W w.heap.size 56 p.enc → wpList Tryz.prog ops Q rest a W) : wpList Tryz.prog ops Q (o :: rest) a (w.alloc (.cells zPkt.enc 56)) := by
  have hb := Blk.new w 56 zPkt.enc
  refine wpList_store_row hg 56 x y ho w.heap.size p.enc hx hy 56 _ hb infoPktSize rfl p.one ?_
  rw [show a.put o.dst _ = a by rw [hd]; rfl]
  exact h _ (((Chg.refl w []).alloc _).row (.inr (Nat.le_refl _)) _) (hb.rowed _)
/-- Packets behind packets. -/
theorem append_pkts {ops : Array Oper} {rest : List Oper} {o : Oper} {a : Act} {Q : Exit → Act → World → Prop} (hg : o.guard = none) (s x : Operand) (ho : o.op = .call { callee := .builtin .append, args := #[s, x], argTypes := #[30, 30] })
    (v : Value) (l : List Pkt) (hs : a.eval s = v) (hr : RowOf Pkt.enc 26 w v l) (u : Value) (m : List Pkt) (hx : a.eval x = u) (hu : RowOf Pkt.enc 26 w u m) (hn : m = [] → u = .slice none 0 0) (hl : l.length + m.length ≤ 4000)
    (h : ∀ A' n' c' w', RowOf Pkt.enc 26 w' (.slice A' n' c') (l ++ m) → Chg w w' v.ownBlock.toList → (∀ g, (Value.slice A' n' c').ownBlock = some g → v.ownBlock = some g ∨ w.heap.size ≤ g) → wpList Tryz.prog ops Q rest (a.put o.dst (.slice A' n' c')) w') :
    wpList Tryz.prog ops Q (o :: rest) a w := by
  obtain ⟨ip, hip, hq0, hq1, hq2⟩ := info_parts Tryz.infoPkt
  obtain ⟨A0, c0, hv0, -, -, -⟩ := hr.slice
  by_cases hm : m = []
  · have hx0 := hn hm
    subst hm
    refine wpList_append_q0 hg s x 30 ho 56 ip 26 Tryz.underlying30 hip v l.length (flat Pkt.enc l) hs hr (by rw [hx, hx0]) ?_
    subst hv0
    exact h A0 _ c0 w (by rw [List.append_nil]; exact hr) (Chg.refl _ _) fun g hg => .inl hg
  · have hm0 : 0 < m.length := List.length_pos_iff.2 hm
    obtain ⟨gu, offu, capu, hvu, hk1, hk2, hk3, hk4, hk5⟩ := QRow.form hu hm0
    refine wpList_append_q hg s x 30 ho 56 ip _ 26 328 Tryz.underlying30 hip hq0 hq1 hq2 (by rfl) (by decide) v l.length (flat Pkt.enc l) hs hr ⟨gu, offu, none⟩ m.length capu (flat Pkt.enc m) (by rw [hx, hvu]) (flat_len Pkt.enc Pkt.size m)
      (fun j z hj => by rw [Addr.add_mid]; exact hk3 j z hj) (flat_oneCell Pkt.enc Pkt.one m) hm0 (by unfold maxLen; omega) (by omega) ?_
    intro g off cap w' hq hc hat
    refine h (some ⟨g, off, none⟩) (l.length + m.length) cap w' ?_ hc fun k hk => ?_
    · unfold RowOf
      rw [List.length_append, flat_append]
      exact hq
    · have e : g = k := by simpa [Value.ownBlock] using hk
      subst e
      exact hat
end
end Go.Proofs.YtcepfhnlbnlnhaaGreatDoor
