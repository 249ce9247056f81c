/- THE WALK of the sender's Begin. -/
import Derived.Test.YtcepfhnlbnlnhaaGreatDoorOut4
namespace Go.Proofs.YtcepfhnlbnlnhaaGreatDoor
set_option maxRecDepth 100000
open Go.RowKit

def relOf (id : Int) : Pkt := ⟨6, false, 0, id, ⟨#[]⟩, ⟨#[]⟩, 0⟩
def againOf (f : Fl) : Pkt := if f.rel then relOf f.id else pubOf f.m f.id true
section
variable {w : World}
/-- One packet more behind a row. -/
theorem append_pkt {ops : Array Oper} {rest : List Oper} {o o2 : Oper} {a : Act} {w : World} {Q : Exit → Act → World → Prop} (N : Nat) (hN : w.heap.size = N) (hg : o.guard = none) (x : Operand) (ho : o.op = .buildSlice 30 1 #[(0, x)]) (p : Pkt) (hx : a.eval x = .agg p.enc)
    (hg2 : o2.guard = none) (s y : Operand) (ho2 : o2.op = .call { callee := .builtin .append, args := #[s, y], argTypes := #[30, 30] }) (v : Value) (l : List Pkt)
    (hs : (a.put o.dst (.slice (some ⟨N, 0, none⟩) 1 1)).eval s = v) (hy : (a.put o.dst (.slice (some ⟨N, 0, none⟩) 1 1)).eval y = .slice (some ⟨N, 0, none⟩) 1 1) (hr : RowOf Pkt.enc 26 w v l) (hl : l.length ≤ 2000)
    (h : ∀ g off cap w', RowOf Pkt.enc 26 w' (.slice (some ⟨g, off, none⟩) (l.length + 1) cap) (l ++ [p]) → Chg w w' v.ownBlock.toList → (v.ownBlock = some g ∨ w.heap.size ≤ g) →
      wpList Tryz.prog ops Q rest ((a.put o.dst (.slice (some ⟨N, 0, none⟩) 1 1)).put o2.dst (.slice (some ⟨g, off, none⟩) (l.length + 1) cap)) w') :
    wpList Tryz.prog ops Q (o :: o2 :: rest) a w := by
  obtain ⟨ip, hip, hq0, hq1, hq2⟩ := info_parts Tryz.infoPkt
  have hfill := fill_pkt p ⟨0, false, 0, 0, ⟨#[]⟩, ⟨#[]⟩, 0⟩
  refine wpList_buildSliceTo N hN hg 30 56 1 _ ho p.enc ip _ Tryz.underlying30 hip hq0 (by rw [hq1]; decide) (by rw [hq1]; decide) (by rw [hq1, Array.toList_map]; simp only [List.map_cons, List.map_nil, hx]; exact hfill) ?_
  subst hN
  refine wpList_append_q hg2 s y 30 ho2 56 ip _ 26 328 Tryz.underlying30 hip hq0 hq1 hq2 (by rfl) (by decide) v l.length (flat Pkt.enc l) hs (QRow.chg hr ((Chg.refl w []).alloc (.cells p.enc 56)) (by simp)) ⟨w.heap.size, 0, none⟩ 1 1 p.enc.toList hy (by rfl) (World.news_of_block (Blk.new w 56 p.enc)) (one_list p.one) (by omega) ?b1 ?b2 ?_
  case b1 => unfold maxLen; omega
  case b2 => omega
  intro g off cap w' hq hc hat
  refine h g off cap w' ?_ (((Chg.refl w v.ownBlock.toList).alloc (.cells p.enc 56)).trans hc fun b hb => .inl hb) ?_
  · unfold RowOf
    simp only [List.length_append, List.length_cons, List.length_nil, Nat.zero_add, flat_append, flat_one]
    exact hq
  · rcases hat with h | h
    · exact .inl h
    · exact .inr (Nat.le_trans ((Chg.refl w []).alloc (.cells p.enc 56)).size h)
set_option maxHeartbeats 6400000 in
theorem begin_any {fb : Nat} {F : List Nat} {s : OutS} (h : OutA w fb F s) (n : Nat) (hn1 : 1 ≤ n) (hn2 : n ≤ 64) (hq : ∀ m ∈ s.wait, 0 < m.q) (hfl : s.fl.length ≤ n) (htk : s.taken + s.wait.length < 60000) (hids : ∀ f ∈ s.fl, f.id ≤ (s.taken : Int)) (hwl : s.wait.length ≤ 1000) :
    Calls Tryz.prog 11 #[.pointer (some ⟨fb, 0, none⟩), .int .i64 (n : Int)] w fun e w' => ∃ v, e = .returned v ∧
      Sent w fb F (({ s with on := true, most := n } : OutS).gone ({ s with on := true, most := n } : OutS).room) (s.fl.map againOf ++ newPub s.taken (s.wait.take ({ s with on := true, most := n } : OutS).room)) v w' := by
  obtain ⟨pb, mb, fv, wv, hO, rfl⟩ := h
  obtain ⟨Af, cf, hfv, hAf, hcf, hlf⟩ := hO.fls.slice
  subst hfv
  have hb : max 1 (min (n : Int) 64) = (n : Int) := by omega
  have c0 := hO.blk.cell 2
  have c3 : w.cell? ⟨fb, 3, none⟩ = some (.slice Af s.fl.length cf) := hO.blk.cell 3
  have c1 := hO.blk.cell 1
  have f1 := hO.blk.frozen 1
  have f2 := hO.blk.frozen 2
  have hlt := hO.blk.lt
  have HO := Lib.hid hO
  have HQ := Lib.hid hq
  have HIds := Lib.hid hids
  clear hO hq hids
  go_enter Tryz.func11, Tryz.ntmps11
  go_wp2_with (go_at_call 20; refine (bounded_any (n : Int)).mono ?_; rintro e w' ⟨rfl, rfl⟩)
  obtain ⟨W0, hW0⟩ : ∃ W0, W0 = (w.setCell ⟨fb, 2, none⟩ (.bool true)).setCell ⟨fb, 1, none⟩ (.int .i64 (n : Int)) := ⟨_, rfl⟩
  obtain ⟨n1', n2', n3', n4', n5', n6'⟩ := HO.out.fresh
  have hc0 : Chg w W0 [fb] := hW0 ▸ ((Chg.refl w [fb]).put ⟨fb, 2, none⟩ (.inl (by simp)) _).put ⟨fb, 1, none⟩ (.inl (by simp)) _
  have hO0 : OutAt W0 fb pb mb (.slice Af s.fl.length cf) wv { s with on := true, most := n } := by
    refine HO.out.set hc0 (by simpa using n1') (by simpa using n2') ?_ rfl rfl (HO.out.fls.chg hc0 fun g hg => by simpa using (n3' g hg).1) (HO.out.wts.chg hc0 fun g hg => by simpa using (n4' g hg).1) HO.out.apart
    rw [hW0]
    exact (HO.out.blk.put 2 (.bool true)).put 1 (.int .i64 (n : Int))
  rw [← hW0]
  clear hW0 c0 c1 c3 f1 f2 n1' n2' n3' n4' n5' n6'
  have HC0 := Lib.hid hc0
  have HO0 := Lib.hid hO0
  clear hc0 hO0
  go_loopw [5, 23] (fun ou iv wr => ∃ i : Nat, iv = .int .i64 (i : Int) ∧ i ≤ s.fl.length ∧ RowOf Pkt.enc 26 wr ou ((s.fl.take i).map againOf) ∧ Chg W0 wr [] ∧ (∀ g, ou.ownBlock = some g → W0.heap.size ≤ g) ∧ (i = 0 → ou = .slice none 0 0)) (fun _ iv _ => s.fl.length - (intOf iv).toNat)
  case atStart => exact ⟨0, rfl, Nat.zero_le _, RowOf.nil _ _ _, Chg.refl _ _, fun g hg => by simp [Value.ownBlock] at hg, fun _ => rfl⟩
  case round =>
    obtain ⟨i, rfl, hi, hr, hc, hov, hnil⟩ := hrel
    have HR := Lib.hid hr
    have HC := Lib.hid hc
    have HOv := Lib.hid hov
    have HNil := Lib.hid hnil
    clear hr hc hov hnil
    have hOr := HO0.out.chg HC.out (by simp)
    have HOr := Lib.hid hOr
    by_cases hlt2 : i < s.fl.length
    · have i1 : (i : Int) < (s.fl.length : Int) := by omega
      obtain ⟨g, off, cap, hv, _, _, _, hra, _⟩ := hOr.fls.at_ Fl.size hlt2
      obtain ⟨rfl, rfl⟩ : Af = some ⟨g, off, none⟩ ∧ cf = cap := by simpa using hv
      obtain ⟨a0, a1, a2, a3, a4, a5, a6⟩ := fl_at hra
      generalize hf : s.fl[i] = f at *
      obtain ⟨id, ⟨mt, mbb, mq⟩, rel⟩ := f
      have HF := Lib.hid hf
      clear hf hOr hra hv
      dsimp only at a0 a1 a2 a3 a6
      have hcA : Chg wr (wr.alloc (.cells (Fl.enc ⟨id, ⟨mt, mbb, mq⟩, rel⟩) 66)) [] := (Chg.refl wr []).alloc _
      have HCA := Lib.hid hcA
      have HRA := Lib.hid (HR.out.chg hcA (by simp))
      have hll : ((s.fl.take i).map againOf).length ≤ 2000 := by rw [List.length_map, List.length_take]; omega
      have hlw : ((s.fl.take i).map againOf).length = i := by rw [List.length_map, List.length_take]; omega
      have HLL := Lib.hid hll
      have HLW := Lib.hid hlw
      have hsnoc : ∀ p, againOf s.fl[i] = p → (s.fl.take (i + 1)).map againOf = (s.fl.take i).map againOf ++ [p] := by
        intro p hp
        rw [List.take_succ_eq_append_getElem hlt2, List.map_append, List.map_cons, List.map_nil, hp]
      have HSn := Lib.hid hsnoc
      clear hcA hll hlw hsnoc
      cases rel with
      | true =>
        have tok1 : True := trivial
        go_wp2_with (have _t := tok1; refine append_pkt (wr.heap.size + 1) (by simp) (by rfl) (.tmp 32) (by rfl) (relOf id) (by rfl) (by rfl) (.tmp 29) (.tmp 33) (by rfl) u5 ((s.fl.take i).map againOf) (by rfl) (by rfl) HRA.out HLL.out ?_; intro g1 off1 cap1 w7 hr7 hc7 hat7; have HR7 := Lib.hid hr7; have HC7 := Lib.hid hc7; clear hr7 hc7 tok1)
        refine ⟨⟨i + 1, by go_num, by omega, ?_, ((HC.out.trans HCA.out fun b hb => by simp at hb).trans HC7.out fun b hb => .inr (HOv.out b (mem_own.1 hb))), fun g hg => ?_, fun h => by omega⟩, by simp [intOf]; omega⟩
        · rw [HSn.out (relOf id) (by rw [HF.out]; rfl)]
          have := HR7.out
          rw [HLW.out] at this
          exact this
        · have e : g1 = g := by simpa [Value.ownBlock] using hg
          subst e
          rcases hat7 with h | h
          · exact HOv.out g1 h
          · exact Nat.le_trans (HC.out.trans HCA.out fun b hb => by simp at hb).size h
      | false =>
        go_wp2_with fail
        refine (packet_any ⟨mt, mbb, mq⟩ id true).mono ?_
        rintro e w6 ⟨rfl, hc6⟩
        have HC6 := Lib.hid hc6
        have HR6 := Lib.hid (HRA.out.chg hc6 (by simp))
        clear hc6
        rename_i K0 hKK
        refine hKK _ _ ?_
        refine append_pkt w6.heap.size rfl (by rfl) (.tmp 40) (by rfl) (pubOf ⟨mt, mbb, mq⟩ id true) (by rfl) (by rfl) (.tmp 35) (.tmp 41) (by rfl) u5 ((s.fl.take i).map againOf) (by rfl) (by rfl) HR6.out HLL.out ?_
        intro g1 off1 cap1 w7 hr7 hc7 hat7
        have HR7 := Lib.hid hr7
        have HC7 := Lib.hid hc7
        clear hr7 hc7
        go_wp2_with fail
        refine ⟨⟨i + 1, by go_num, by omega, ?_, (((HC.out.trans HCA.out fun b hb => by simp at hb).trans HC6.out fun b hb => by simp at hb).trans HC7.out fun b hb => .inr (HOv.out b (mem_own.1 hb))), fun g hg => ?_, fun h => by omega⟩, by simp [intOf]; omega⟩
        · rw [HSn.out (pubOf ⟨mt, mbb, mq⟩ id true) (by rw [HF.out]; rfl)]
          have := HR7.out
          rw [HLW.out] at this
          exact this
        · have e : g1 = g := by simpa [Value.ownBlock] using hg
          subst e
          rcases hat7 with h | h
          · exact HOv.out g1 h
          · exact Nat.le_trans ((HC.out.trans HCA.out fun b hb => by simp at hb).trans HC6.out fun b hb => by simp at hb).size h
    · obtain rfl : i = s.fl.length := by omega
      have i1 : ¬ (s.fl.length : Int) < (s.fl.length : Int) := by omega
      clear hOr
      have hr2 := HR.out
      rw [List.take_length] at hr2
      have hgo := sent_go (w := w) (W := wr) (F := foot fb pb mb (.slice Af s.fl.length cf) wv) (s := { s with on := true, most := n }) ((HC0.out.mono fun b hb => .inl (by simp at hb; simp [foot, hb])).trans HC.out fun b hb => by simp at hb) (fun k hk => .inl hk) ⟨pb, mb, _, _, HOr.out, rfl⟩ rfl HQ.out hn2 hfl htk HIds.out hwl u5 (s.fl.map againOf) hr2
        (fun g hg => ⟨Nat.le_trans HC0.out.size (HOv.out g hg), fun hm => by have := HO0.out.lt g hm; have := HOv.out g hg; omega⟩) (fun h => HNil.out (by simpa using h)) (by rw [List.length_map]; omega)
      have HGo := Lib.hid hgo
      clear hgo hr2
      go_wp2_with fail
      refine HGo.out.mono ?_
      rintro e w6 ⟨v, rfl, hs⟩
      have HS := Lib.hid hs
      clear hs
      go_wp2_with fail
      go_ret
      exact ⟨v, rfl, HS.out⟩
end
end Go.Proofs.YtcepfhnlbnlnhaaGreatDoor
