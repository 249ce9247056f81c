/- THE WALK of the sender's Send. -/
import Derived.Test.YtcepfhnlbnlnhaaGreatDoorOut3
namespace Go.Proofs.YtcepfhnlbnlnhaaGreatDoor
set_option maxRecDepth 100000
open Go.RowKit

def OutS.more (s : OutS) (m : Msg) : OutS := { s with wait := s.wait ++ [m] }
/-- What a call of the sender's leaves: its state, and a row of packets of the call's own. -/
def Sent (w : World) (fb : Nat) (F : List Nat) (s : OutS) (l : List Pkt) (v : Value) (w' : World) : Prop :=
  ∃ F', OutA w' fb F' s ∧ RowOf Pkt.enc 26 w' v l ∧ (l = [] → v = .slice none 0 0) ∧ Chg w w' F ∧ (∀ k ∈ F', k ∈ F ∨ w.heap.size ≤ k) ∧ (∀ g, v.ownBlock = some g → w.heap.size ≤ g ∧ g ∉ F')
section
variable {w : World}
theorem sent_go {W : World} {fb : Nat} {F F1 : List Nat} {s : OutS} (hc : Chg w W F) (hF : ∀ k ∈ F1, k ∈ F ∨ w.heap.size ≤ k) (hO : OutA W fb F1 s) (hon : s.on = true) (hq : ∀ m ∈ s.wait, 0 < m.q) (hm2 : s.most ≤ 64) (hfl : s.fl.length ≤ s.most) (htk : s.taken + s.wait.length < 60000) (hids : ∀ f ∈ s.fl, f.id ≤ (s.taken : Int)) (hwl : s.wait.length ≤ 1000)
    (ov : Value) (out : List Pkt) (hr : RowOf Pkt.enc 26 W ov out) (ho : ∀ g, ov.ownBlock = some g → w.heap.size ≤ g ∧ g ∉ F1) (hnil : out = [] → ov = .slice none 0 0) (hol : out.length ≤ 1000) :
    Calls Tryz.prog 21 #[.pointer (some ⟨fb, 0, none⟩), ov] W fun e w' => ∃ v, e = .returned v ∧ Sent w fb F (s.gone s.room) (out ++ newPub s.taken (s.wait.take s.room)) v w' := by
  refine (goOn_any hO hon hq hm2 hfl htk hids ov out hr (fun g hg => (ho g hg).2) hol hwl).mono fun e w' ⟨ov', F', he, h1, h2, h3, h4, h5, h6⟩ => ?_
  have hsz := hc.size
  refine ⟨ov', he, F', h1, h2, fun hl => ?_, hc.trans h3 fun b hb => ?_, fun k hk => ?_, fun g hg => ?_⟩
  · rw [List.append_eq_nil_iff] at hl
    have hk : s.room = 0 := by
      have := congrArg List.length hl.2
      rw [newPub_len, List.length_take, List.length_nil] at this
      have : s.room ≤ s.wait.length := by unfold OutS.room; omega
      omega
    rw [h6 hk]; exact hnil hl.1
  · rcases List.mem_append.1 hb with hb | hb
    · exact hF b hb
    · exact .inr (ho b (mem_own.1 hb)).1
  · rcases h4 k hk with h | h
    · exact hF k h
    · exact .inr (by omega)
  · obtain ⟨a, b⟩ := h5 g hg
    rcases a with a | a
    · exact ⟨(ho g a).1, b⟩
    · exact ⟨by omega, b⟩
theorem out_wait {W1 W8 w4 : World} {fb pb mb nw cw g1 off1 cap1 : Nat} {fv : Value} {Aw : Option Addr} {s : OutS} {m : Msg} (hO : OutAt W1 fb pb mb fv (.slice Aw nw cw) s) (hn : s.wait.length = nw) (h18 : Chg W1 W8 [])
    (hq4 : QRow w4 5 (.slice (some ⟨g1, off1, none⟩) (nw + 1) cap1) (nw + 1) (flat Msg.enc s.wait ++ m.enc.toList)) (hc4 : Chg W8 w4 (Value.slice Aw nw cw).ownBlock.toList) (hat4 : (Value.slice Aw nw cw).ownBlock = some g1 ∨ W8.heap.size ≤ g1) :
    OutAt (w4.setCell ⟨fb, 4, none⟩ (.slice (some ⟨g1, off1, none⟩) (nw + 1) cap1)) fb pb mb fv (.slice (some ⟨g1, off1, none⟩) (nw + 1) cap1) (s.more m) ∧
      Chg W1 (w4.setCell ⟨fb, 4, none⟩ (.slice (some ⟨g1, off1, none⟩) (nw + 1) cap1)) (foot fb pb mb fv (.slice Aw nw cw)) ∧
      (∀ k ∈ foot fb pb mb fv (.slice (some ⟨g1, off1, none⟩) (nw + 1) cap1), k ∈ foot fb pb mb fv (.slice Aw nw cw) ∨ W1.heap.size ≤ k) := by
  obtain ⟨n1', n2', n3', n4', n5', n6'⟩ := hO.fresh
  have hlt := hO.lt
  have hfl : fb < W1.heap.size := hlt fb (by simp [foot])
  have hpl : pb < W1.heap.size := hlt pb (by simp [foot])
  have hml : mb < W1.heap.size := hlt mb (by simp [foot])
  have hvl : ∀ g, fv.ownBlock = some g → g < W1.heap.size := fun g hg => hlt g (by simp only [foot, List.mem_append, mem_own]; exact .inr (.inl hg))
  have hs := h18.size
  have hg1 : g1 ≠ fb ∧ g1 ≠ pb ∧ g1 ≠ mb ∧ fv.ownBlock ≠ some g1 := by
    rcases hat4 with h | h
    · obtain ⟨a, b, c⟩ := n4' g1 h
      exact ⟨a, b, c, fun e => n5' g1 e h⟩
    · exact ⟨by omega, by omega, by omega, fun e => by have := hvl g1 e; omega⟩
  have hfo : fb ∉ (Value.slice Aw nw cw).ownBlock.toList := fun hm => (n4' fb (mem_own.1 hm)).1 rfl
  have hpo : pb ∉ (Value.slice Aw nw cw).ownBlock.toList := fun hm => (n4' pb (mem_own.1 hm)).2.1 rfl
  have hmo : mb ∉ (Value.slice Aw nw cw).ownBlock.toList := fun hm => (n4' mb (mem_own.1 hm)).2.2 rfl
  have h14 : Chg W1 (w4.setCell ⟨fb, 4, none⟩ (.slice (some ⟨g1, off1, none⟩) (nw + 1) cap1)) (fb :: (Value.slice Aw nw cw).ownBlock.toList) :=
    ((h18.mono (T := fb :: (Value.slice Aw nw cw).ownBlock.toList) fun b hb => by simp at hb).trans hc4 fun b hb => .inl (List.mem_cons_of_mem _ hb)).put _ (.inl (by simp)) _
  have hown : (Value.slice (some ⟨g1, off1, none⟩) (nw + 1) cap1).ownBlock = some g1 := rfl
  refine ⟨⟨?_, ?_, ?_, ?_, ?_⟩, ?_, ?_⟩
  · exact ((hO.blk.chg h18 (by simp)).chg hc4 hfo).put 4 (.slice (some ⟨g1, off1, none⟩) (nw + 1) cap1)
  · exact hO.pool.chg h14 (by simp only [List.mem_cons, not_or]; exact ⟨n1', hpo⟩) (by simp only [List.mem_cons, not_or]; exact ⟨n2', hmo⟩)
  · exact hO.fls.chg h14 fun k hk => by
      simp only [List.mem_cons, not_or]
      exact ⟨(n3' k hk).1, fun hm => n5' k hk (mem_own.1 hm)⟩
  · have := hq4.chg ((Chg.refl w4 [fb]).put ⟨fb, 4, none⟩ (.inl (by simp)) (.slice (some ⟨g1, off1, none⟩) (nw + 1) cap1)) fun k hk => by
      obtain rfl : g1 = k := by simpa [Value.ownBlock] using hk
      simpa using hg1.1
    unfold RowOf OutS.more
    simp only [List.length_append, List.length_cons, List.length_nil, Nat.zero_add, hn, flat_append, flat_one]
    exact this
  · simp only [foot, hown, Option.toList_some, List.cons_append, List.nil_append, List.nodup_cons, List.mem_cons, List.mem_append, List.not_mem_nil, or_false, not_or, mem_own]
    refine ⟨⟨fun e => n1' e.symm, fun e => n2' e.symm, fun e => (n3' fb e).1 rfl, fun e => hg1.1 e.symm⟩, ⟨n6', fun e => (n3' pb e).2.1 rfl, fun e => hg1.2.1 e.symm⟩, ⟨fun e => (n3' mb e).2.2 rfl, fun e => hg1.2.2.1 e.symm⟩, ?_⟩
    rw [List.nodup_append]
    refine ⟨by cases fv.ownBlock <;> simp, by simp, fun a ha b hb => ?_⟩
    obtain rfl : b = g1 := by simpa using hb
    exact fun e => hg1.2.2.2 (by rw [← e]; exact mem_own.1 ha)
  · refine h14.mono fun b hb => .inl ?_
    rcases List.mem_cons.1 hb with h | h
    · simp [foot, h]
    · simp only [foot, List.mem_append]; exact .inr (.inr h)
  · intro k hk
    simp only [foot, hown, List.mem_append, List.mem_cons, List.not_mem_nil, or_false, mem_own] at hk
    rcases hk with (h | h | h) | h | h
    · exact .inl (by simp [foot, h])
    · exact .inl (by simp [foot, h])
    · exact .inl (by simp [foot, h])
    · exact .inl (by simp only [foot, List.mem_append, mem_own]; exact .inr (.inl h))
    · have e : k = g1 := by simpa using h
      subst e
      rcases hat4 with h | h
      · exact .inl (by simp only [foot, List.mem_append, mem_own]; exact .inr (.inr h))
      · exact .inr (by omega)
set_option maxHeartbeats 6400000 in
theorem send_any {fb : Nat} {F : List Nat} {s : OutS} (h : OutA w fb F s) (m : Msg) (hon : s.on = true) (hm0 : 0 < m.q) (hm : m.q ≤ 2) (hq : ∀ m ∈ s.wait, 0 < m.q) (hm2 : s.most ≤ 64) (hfl : s.fl.length ≤ s.most) (htk : s.taken + s.wait.length < 59990) (hids : ∀ f ∈ s.fl, f.id ≤ (s.taken : Int)) (hwl : s.wait.length ≤ 200) :
    Calls Tryz.prog 8 #[.pointer (some ⟨fb, 0, none⟩), .agg m.enc] w fun e w' => ∃ v, e = .returned (.tuple #[v, .int .u8 0]) ∧ Sent w fb F ((s.more m).gone (s.more m).room) (newPub s.taken ((s.more m).wait.take (s.more m).room)) v w' := by
  obtain ⟨pb, mb, fv, wv, hO, rfl⟩ := h
  obtain ⟨mt, mbb, mq⟩ := m
  obtain ⟨Aw, cw, hwv, hAw, hcw, hlw⟩ := hO.wts.slice
  subst hwv
  obtain ⟨nw, hnw⟩ : ∃ nw, s.wait.length = nw := ⟨_, rfl⟩
  have i1 : ¬ mq < 0 := by dsimp only at hm0; omega
  have i2 : ¬ 2 < mq := by dsimp only at hm; omega
  have i3 : ¬ mq = 0 := by dsimp only at hm0; omega
  have i4 : ¬ (256 : Int) ≤ (nw : Int) := by omega
  have HO := Lib.hid hO
  have HNW := Lib.hid hnw
  have c4 : w.cell? ⟨fb, 4, none⟩ = some (.slice Aw nw cw) := by have := hO.blk.cell 4; rw [hnw] at this; exact this
  have c2 : w.cell? ⟨fb, 2, none⟩ = some (.bool true) := by have := hO.blk.cell 2; rw [hon] at this; exact this
  have hlt := hO.blk.lt
  have hM := Blk.new w 38 (Msg.enc ⟨mt, mbb, mq⟩)
  have HQ0 := Lib.hid hq
  have HIds := Lib.hid hids
  have HM0 := Lib.hid hm0
  clear hO hnw hq hids hm0 hm
  unfold Msg.enc
  go_enter Tryz.func8, Tryz.ntmps8
  go_wp2_with fail
  obtain ⟨W1, hW1⟩ : ∃ W1, W1 = w.alloc (.cells (Msg.enc ⟨mt, mbb, mq⟩) 38) := ⟨_, rfl⟩
  have hc1 : Chg w W1 [] := hW1 ▸ (Chg.refl w []).alloc _
  rw [← hW1] at hM
  unfold Msg.enc at hW1
  rw [← hW1]
  clear hW1
  have hO1 := HO.out.chg hc1 (by simp)
  rw [HNW.out] at hO1
  have d4 : W1.cell? ⟨fb, 4, none⟩ = some (.slice Aw nw cw) := hc1.cell c4 (by simp)
  obtain ⟨m0, m1, m2, m3, m4⟩ : W1.cell? ⟨w.heap.size, 0, none⟩ = some (.string mt) ∧ W1.cell? ⟨w.heap.size, 1, none⟩ = some (.string mbb) ∧ W1.cell? ⟨w.heap.size, 2, none⟩ = some (.int .i64 mq) ∧ W1.cell? ⟨w.heap.size, 3, none⟩ = some (.bool false) ∧ W1.cell? ⟨w.heap.size, 4, none⟩ = some (.string ⟨#[]⟩) := ⟨hM.cell 0, hM.cell 1, hM.cell 2, hM.cell 3, hM.cell 4⟩
  obtain ⟨im, him, hf0, hf1, hf2⟩ := info_parts Tryz.infoMsg
  have hq3 : QRow W1 5 (.slice Aw nw cw) nw (flat Msg.enc s.wait) := by
    have := hO1.wts
    unfold RowOf at this
    rw [HNW.out] at this
    exact this
  have hc8 : Chg W1 (W1.drew.alloc (.cells (Msg.enc ⟨mt, mbb, mq⟩) 38)) [] := ((Chg.refl W1 []).drew).alloc _
  have HQ8 := Lib.hid (hq3.chg hc8 (by simp))
  have HN8 := Lib.hid (World.news_of_block (Blk.new W1.drew 38 (Msg.enc ⟨mt, mbb, mq⟩)))
  have HO8 := Lib.hid (one_list (Msg.one ⟨mt, mbb, mq⟩))
  have HB8 := Lib.hid (hO1.blk.chg hc8 (by simp))
  have HC8 := Lib.hid hc8
  have HO1 := Lib.hid hO1
  have HC1 := Lib.hid hc1
  have hfb3 : fb < W1.heap.size := hO1.blk.lt
  obtain ⟨n1', n2', n3', n4', n5', n6'⟩ := hO1.fresh
  have hfbn := Lib.hid (show fb ∉ (Value.slice Aw nw cw).ownBlock.toList from fun hm => (n4' fb (mem_own.1 hm)).1 rfl)
  clear hq3 hc8 hO1 hc1 hM c4 c2 n1' n2' n3' n4' n5' n6'
  go_region_law (first
    | (refine step_append_q (by rfl) (.tmp 40) (.tmp 42) 42 (by rfl) 38 im _ 5 64 Tryz.underlying42 him hf0 hf1 hf2 (by rfl) (by decide) (.slice Aw nw cw) nw _ (by simp [Act.eval]) HQ8.out ⟨W1.heap.size, 0, none⟩ 1 1 (Msg.enc ⟨mt, mbb, mq⟩).toList (by simp [Act.eval]) rfl HN8.out HO8.out (by omega) (by unfold maxLen; omega) (by omega) ?_; intro g1 off1 cap1 w4 hq4 hc4 hat4; have hb4 := HB8.out.chg hc4 hfbn.out; have r3 : w4.cell? ⟨fb, 4, none⟩ = some (.slice Aw nw cw) := hb4.cell 4; have r3f : w4.frozen? ⟨fb, 4, none⟩ = false := hb4.frozen 4))
  all_goals
    obtain ⟨hO5, hc15, hf5⟩ := out_wait HO1.out HNW.out HC8.out hq4 hc4 hat4
    generalize w4.setCell ⟨fb, 4, none⟩ (.slice (some ⟨g1, off1, none⟩) (nw + 1) cap1) = W5 at *
    have hgo := sent_go (w := w) (W := W5) (F := foot fb pb mb fv (.slice Aw s.wait.length cw)) (s := s.more ⟨mt, mbb, mq⟩) ?g1 ?g2 ⟨pb, mb, _, _, hO5, rfl⟩ hon ?g3 hm2 hfl ?g4 HIds.out ?g5 (.slice none 0 0) [] (RowOf.nil _ _ _) (by simp [Value.ownBlock]) (fun _ => rfl) (by simp)
    case g1 => rw [HNW.out]; exact (HC1.out.mono fun b hb => by simp at hb).trans hc15 fun b hb => .inl hb
    case g2 =>
      intro k hk
      rw [HNW.out]
      rcases hf5 k hk with h | h
      · exact .inl h
      · exact .inr (Nat.le_trans HC1.out.size h)
    case g3 =>
      intro x hx
      rcases List.mem_append.1 (show x ∈ s.wait ++ [_] from hx) with h | h
      · exact HQ0.out x h
      · obtain rfl := List.mem_singleton.1 h
        exact HM0.out
    case g4 =>
      show s.taken + (s.wait ++ [_]).length < 60000
      rw [List.length_append, List.length_singleton]; omega
    case g5 =>
      show (s.wait ++ [_]).length ≤ 1000
      rw [List.length_append, List.length_singleton]; omega
    have HGo := Lib.hid hgo
    clear hgo hO5 hc15 hf5 hq4 hc4 hat4 hb4 r3 r3f m0 m1 m2 m3 m4 d4
    go_wp2_with fail
    refine HGo.out.mono ?_
    rintro e w6 ⟨v, rfl, hs⟩
    have HS := Lib.hid hs
    clear hs
    go_wp2_with fail
    go_ret2
    exact ⟨v, rfl, HS.out⟩
end
end Go.Proofs.YtcepfhnlbnlnhaaGreatDoor
