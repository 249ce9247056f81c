/- THE WALK of the sender's goOn. -/
import Derived.Test.YtcepfhnlbnlnhaaGreatDoorOut2
import Derived.Deep.RegionLawGrows
import Derived.BigQuiet
namespace Go.Proofs.YtcepfhnlbnlnhaaGreatDoor
set_option maxRecDepth 100000
open Go.RowKit

def newFl : Nat → List Msg → List Fl
  | _, [] => []
  | t, m :: ms => ⟨(t : Int) + 1, m, false⟩ :: newFl (t + 1) ms
def newPub : Nat → List Msg → List Pkt
  | _, [] => []
  | t, m :: ms => pubOf m ((t : Int) + 1) false :: newPub (t + 1) ms
theorem newFl_append : ∀ (t : Nat) (a b : List Msg), newFl t (a ++ b) = newFl t a ++ newFl (t + a.length) b
  | t, [], b => rfl
  | t, m :: a, b => by
    have := newFl_append (t + 1) a b
    simp only [List.cons_append, newFl, List.length_cons]
    rw [this, show t + 1 + a.length = t + (a.length + 1) by omega]
theorem newPub_append : ∀ (t : Nat) (a b : List Msg), newPub t (a ++ b) = newPub t a ++ newPub (t + a.length) b
  | t, [], b => rfl
  | t, m :: a, b => by
    have := newPub_append (t + 1) a b
    simp only [List.cons_append, newPub, List.length_cons]
    rw [this, show t + 1 + a.length = t + (a.length + 1) by omega]
theorem newFl_len : ∀ (t : Nat) (a : List Msg), (newFl t a).length = a.length
  | t, [] => rfl
  | t, m :: a => by simp [newFl, newFl_len]
theorem newPub_len : ∀ (t : Nat) (a : List Msg), (newPub t a).length = a.length
  | t, [] => rfl
  | t, m :: a => by simp [newPub, newPub_len]
theorem newFl_id : ∀ (t : Nat) (a : List Msg), ∀ f ∈ newFl t a, (t : Int) < f.id ∧ f.id ≤ (t : Int) + a.length
  | t, [], f, h => by simp [newFl] at h
  | t, m :: a, f, h => by
    rcases List.mem_cons.1 h with rfl | h
    · simp only [List.length_cons]; omega
    · have := newFl_id (t + 1) a f h
      simp only [List.length_cons]; omega
def OutS.gone (s : OutS) (k : Nat) : OutS := { s with taken := s.taken + k, fl := s.fl ++ newFl s.taken (s.wait.take k), wait := s.wait.drop k }
def OutS.room (s : OutS) : Nat := min s.wait.length (s.most - s.fl.length)
theorem OutS.gone_succ (s : OutS) (k : Nat) (h : k < s.wait.length) : s.gone (k + 1) = { s with taken := s.taken + k + 1, fl := (s.gone k).fl ++ [⟨((s.taken + k : Nat) : Int) + 1, s.wait[k], false⟩], wait := s.wait.drop (k + 1) } := by
  unfold OutS.gone
  congr 1
  simp only [List.append_assoc]
  rw [List.take_succ_eq_append_getElem h, newFl_append, List.length_take, Nat.min_eq_left (by omega)]
  rfl
def waitLen (w : World) (fb : Nat) : Nat :=
  match w.cell? ⟨fb, 4, none⟩ with
  | some (.slice _ n _) => n
  | _ => 0
theorem fl_step (t : Nat) (m : Msg) : Fl.id ⟨(t : Int) + 1, m, false⟩ = (t : Int) + 1 := rfl
section
variable {w : World}
theorem msg_at {g o : Nat} {m : Msg} (h : w.rangeAt g o m.enc.toList) : w.cell? ⟨g, o, none⟩ = some (.string m.t) ∧ w.cell? ⟨g, o + 1, none⟩ = some (.string m.b) ∧ w.cell? ⟨g, o + 2, none⟩ = some (.int .i64 m.q) ∧ w.cell? ⟨g, o + 3, none⟩ = some (.bool false) ∧ w.cell? ⟨g, o + 4, none⟩ = some (.string ⟨#[]⟩) :=
  ⟨h 0 _ rfl, h 1 _ rfl, h 2 _ rfl, h 3 _ rfl, h 4 _ rfl⟩
theorem fl_at {g o : Nat} {f : Fl} (h : w.rangeAt g o f.enc.toList) : w.cell? ⟨g, o, none⟩ = some (.int .i64 f.id) ∧ w.cell? ⟨g, o + 1, none⟩ = some (.string f.m.t) ∧ w.cell? ⟨g, o + 2, none⟩ = some (.string f.m.b) ∧ w.cell? ⟨g, o + 3, none⟩ = some (.int .i64 f.m.q) ∧ w.cell? ⟨g, o + 4, none⟩ = some (.bool false) ∧ w.cell? ⟨g, o + 5, none⟩ = some (.string ⟨#[]⟩) ∧ w.cell? ⟨g, o + 6, none⟩ = some (.bool f.rel) :=
  ⟨h 0 _ rfl, h 1 _ rfl, h 2 _ rfl, h 3 _ rfl, h 4 _ rfl, h 5 _ rfl, h 6 _ rfl⟩
theorem waitLen_of {fb pb mb : Nat} {fv wv : Value} {s : OutS} (h : OutAt w fb pb mb fv wv s) : waitLen w fb = s.wait.length := by
  obtain ⟨A, c, rfl, _⟩ := h.wts.slice
  unfold waitLen
  rw [h.blk.cell 4]
  rfl
theorem own_slice (A : Option Addr) (n c n' c' : Nat) : (Value.slice A n c).ownBlock = (Value.slice A n' c').ownBlock := by cases A <;> rfl
theorem own_if {cap g off k : Nat} {A1 : Addr} (hA1 : (if cap = 1 then (some ⟨g, off, none⟩ : Option Addr) else some ⟨g, off + k, none⟩) = some A1) (n c : Nat) : (Value.slice (some A1) n c).ownBlock = some g := by
  have : A1.block = g := by
    split at hA1 <;> (have := Option.some.inj hA1; rw [← this])
  show some A1.block = some g
  rw [this]
theorem foot_slice (fb pb mb : Nat) (A B : Option Addr) (n c m d n' c' m' d' : Nat) : foot fb pb mb (.slice A n c) (.slice B m d) = foot fb pb mb (.slice A n' c') (.slice B m' d') := by
  unfold foot
  rw [own_slice A n c n' c', own_slice B m d m' d']
theorem go_end {wr W1 W5 W6 W7 : World} {F foot0 : List Nat} {ov u1 v1 v2 : Value} {fb pb mb g7 off7 n7 c7 : Nat} {s5 : OutS} {o : Obj}
    (hCh : Chg w wr (F ++ ov.ownBlock.toList)) (hF : ∀ k ∈ foot0, k ∈ F ∨ w.heap.size ≤ k) (hOv : ∀ g, u1.ownBlock = some g → (ov.ownBlock = some g ∨ w.heap.size ≤ g) ∧ g ∉ foot0)
    (hlu : ∀ g, u1.ownBlock = some g → g < wr.heap.size) (h1 : Chg wr W1 []) (h15 : Chg W1 W5 foot0) (hO5 : OutAt W5 fb pb mb v1 v2 s5) (hF5 : ∀ k ∈ foot fb pb mb v1 v2, k ∈ foot0 ∨ W1.heap.size ≤ k)
    (h6 : Chg W5 W6 []) (h7 : Chg (W6.alloc o) W7 u1.ownBlock.toList) (hat : u1.ownBlock = some g7 ∨ (W6.alloc o).heap.size ≤ g7) :
    OutA W7 fb (foot fb pb mb v1 v2) s5 ∧ Chg w W7 (F ++ ov.ownBlock.toList) ∧ (∀ k ∈ foot fb pb mb v1 v2, k ∈ F ∨ w.heap.size ≤ k) ∧
      (∀ g, (Value.slice (some ⟨g7, off7, none⟩) n7 c7).ownBlock = some g → (ov.ownBlock = some g ∨ w.heap.size ≤ g) ∧ g ∉ foot fb pb mb v1 v2) := by
  have hs1 := hCh.size
  have hs2 := h1.size
  have hs3 := h15.size
  have hs4 := h6.size
  have hs5 : W6.heap.size ≤ (W6.alloc o).heap.size := ((Chg.refl W6 []).alloc o).size
  have h57 : Chg W5 W7 u1.ownBlock.toList := ((h6.alloc o).mono (T := u1.ownBlock.toList) fun b hb => by simp at hb).trans h7 fun b hb => .inl hb
  have hnin : ∀ k ∈ foot fb pb mb v1 v2, k ∉ u1.ownBlock.toList := fun k hk hm => by
    rcases hF5 k hk with h | h
    · exact (hOv k (mem_own.1 hm)).2 h
    · have := hlu k (mem_own.1 hm); omega
  refine ⟨⟨pb, mb, v1, v2, hO5.chg h57 hnin, rfl⟩, ?_, fun k hk => ?_, fun g hg => ?_⟩
  · have a : Chg wr W7 (foot0 ++ u1.ownBlock.toList) := ((h1.mono (T := foot0 ++ u1.ownBlock.toList) fun b hb => by simp at hb).trans h15 fun b hb => .inl (List.mem_append_left _ hb)).trans h57 fun b hb => .inl (List.mem_append_right _ hb)
    refine hCh.trans a fun b hb => ?_
    rcases List.mem_append.1 hb with hb | hb
    · rcases hF b hb with h | h
      · exact .inl (List.mem_append_left _ h)
      · exact .inr h
    · rcases (hOv b (mem_own.1 hb)).1 with h | h
      · exact .inl (List.mem_append_right _ (mem_own.2 h))
      · exact .inr h
  · rcases hF5 k hk with h | h
    · exact hF k h
    · exact .inr (by omega)
  · have e : g7 = g := by simpa [Value.ownBlock] using hg
    subst e
    rcases hat with h | h
    · exact ⟨(hOv g7 h).1, fun hm => hnin g7 hm (mem_own.2 h)⟩
    · refine ⟨.inr (by omega), fun hm => ?_⟩
      have := hO5.lt g7 hm
      omega
theorem out_step {W1 W3 W8 w4 : World} {fb pb mb g off cap nf n1 cf tk g1 off1 cap1 : Nat} {Af : Option Addr} {A1 : Addr} {s1 : OutS} {m : Msg} {f1 : Fl} {ws : List Msg}
    (hO : OutAt W1 fb pb mb (.slice Af nf cf) (.slice (some ⟨g, off, none⟩) (n1 + 1) cap) s1) (hw : s1.wait = m :: ws) (hnw : ws.length = n1)
    (hA1 : (if cap = 1 then (some ⟨g, off, none⟩ : Option Addr) else some ⟨g, off + 5, none⟩) = some A1)
    (hc3 : Chg (W1.setCell ⟨fb, 4, none⟩ (.slice (some A1) n1 (cap - 1))) W3 [pb, mb]) (hpool : PoolAt W3 pb mb 64 (tk + 1) (s1.fl.map Fl.id ++ [(tk : Int) + 1])) (h38 : Chg W3 W8 [])
    (hq4 : QRow w4 7 (.slice (some ⟨g1, off1, none⟩) (nf + 1) cap1) (nf + 1) (flat Fl.enc s1.fl ++ (Fl.enc f1).toList)) (hc4 : Chg W8 w4 (Value.slice Af nf cf).ownBlock.toList)
    (hat4 : (Value.slice Af nf cf).ownBlock = some g1 ∨ W8.heap.size ≤ g1) (hid : f1.id = (tk : Int) + 1) (hnf : s1.fl.length = nf) :
    OutAt (w4.setCell ⟨fb, 3, none⟩ (.slice (some ⟨g1, off1, none⟩) (nf + 1) cap1)) fb pb mb (.slice (some ⟨g1, off1, none⟩) (nf + 1) cap1) (.slice (some A1) n1 (cap - 1)) { s1 with taken := tk + 1, fl := s1.fl ++ [f1], wait := ws } ∧
      Chg W1 (w4.setCell ⟨fb, 3, none⟩ (.slice (some ⟨g1, off1, none⟩) (nf + 1) cap1)) (foot fb pb mb (.slice Af nf cf) (.slice (some ⟨g, off, none⟩) (n1 + 1) cap)) ∧
      (∀ k ∈ foot fb pb mb (.slice (some ⟨g1, off1, none⟩) (nf + 1) cap1) (.slice (some A1) n1 (cap - 1)), k ∈ foot fb pb mb (.slice Af nf cf) (.slice (some ⟨g, off, none⟩) (n1 + 1) cap) ∨ W1.heap.size ≤ k) := by
  obtain ⟨n1', n2', n3', n4', n5', n6'⟩ := hO.fresh
  have hg := n4' g rfl
  have hlt := hO.lt
  have hgl : g < W1.heap.size := hlt g (by simp [foot, Value.ownBlock])
  have hfl : fb < W1.heap.size := hlt fb (by simp [foot])
  have hpl : pb < W1.heap.size := hlt pb (by simp [foot])
  have hml : mb < W1.heap.size := hlt mb (by simp [foot])
  have hput : Chg W1 (W1.setCell ⟨fb, 4, none⟩ (.slice (some A1) n1 (cap - 1))) [fb] := (Chg.refl W1 _).put _ (.inl (by simp)) _
  have hs18 : W1.heap.size ≤ W8.heap.size := Nat.le_trans hput.size (Nat.le_trans hc3.size h38.size)
  have hg1 : g1 ≠ fb ∧ g1 ≠ pb ∧ g1 ≠ mb ∧ g1 ≠ g := by
    rcases hat4 with h | h
    · obtain ⟨a, b, c⟩ := n3' g1 h
      exact ⟨a, b, c, fun e => n5' g1 h (by rw [e]; rfl)⟩
    · exact ⟨by omega, by omega, by omega, by omega⟩
  have hfo : fb ∉ (Value.slice Af nf cf).ownBlock.toList := fun hm => (n3' fb (mem_own.1 hm)).1 rfl
  have hpo : pb ∉ (Value.slice Af nf cf).ownBlock.toList := fun hm => (n3' pb (mem_own.1 hm)).2.1 rfl
  have hmo : mb ∉ (Value.slice Af nf cf).ownBlock.toList := fun hm => (n3' mb (mem_own.1 hm)).2.2 rfl
  have hgo : g ∉ (Value.slice Af nf cf).ownBlock.toList := fun hm => n5' g (mem_own.1 hm) rfl
  have h84 : Chg W8 (w4.setCell ⟨fb, 3, none⟩ (.slice (some ⟨g1, off1, none⟩) (nf + 1) cap1)) (fb :: (Value.slice Af nf cf).ownBlock.toList) := (hc4.mono fun b hb => .inl (List.mem_cons_of_mem _ hb)).put _ (.inl (by simp)) _
  have h14 : Chg W1 (w4.setCell ⟨fb, 3, none⟩ (.slice (some ⟨g1, off1, none⟩) (nf + 1) cap1)) (fb :: pb :: mb :: (Value.slice Af nf cf).ownBlock.toList) :=
    (((hput.mono (T := fb :: pb :: mb :: (Value.slice Af nf cf).ownBlock.toList) fun b hb => .inl (by simp at hb; simp [hb])).trans hc3 fun b hb => .inl (by simp at hb; rcases hb with h | h <;> simp [h])).trans h38 fun b hb => by simp at hb).trans h84 fun b hb => .inl (by
      rcases List.mem_cons.1 hb with h | h
      · simp [h]
      · simp [h])
  have hA := own_if hA1 n1 (cap - 1)
  refine ⟨⟨?_, ?_, ?_, ?_, ?_⟩, ?_, ?_⟩
  · have := (((hO.blk.put 4 (.slice (some A1) n1 (cap - 1))).chg hc3 (by simp; exact ⟨fun e => n1' e.symm, fun e => n2' e.symm⟩)).chg h38 (by simp)).chg hc4 hfo
    exact this.put 3 (.slice (some ⟨g1, off1, none⟩) (nf + 1) cap1)
  · have := (hpool.chg h38 (by simp) (by simp)).chg h84 (by simp only [List.mem_cons, not_or]; exact ⟨n1', hpo⟩) (by simp only [List.mem_cons, not_or]; exact ⟨n2', hmo⟩)
    simp only [List.map_append, List.map_cons, List.map_nil, hid]
    exact this
  · have := hq4.chg ((Chg.refl w4 [fb]).put ⟨fb, 3, none⟩ (.inl (by simp)) (.slice (some ⟨g1, off1, none⟩) (nf + 1) cap1)) fun k hk => by
      obtain rfl : g1 = k := by simpa [Value.ownBlock] using hk
      simpa using hg1.1
    unfold RowOf
    simp only [List.length_append, List.length_cons, List.length_nil, Nat.zero_add, hnf, flat_append, flat_one]
    exact this
  · have h0 := hO.wts
    unfold RowOf at h0
    simp only [hw, List.length_cons, hnw, flat_cons] at h0
    have := (QRow.pop h0 (by rw [Array.length_toList]; rfl)).chg h14 (fun k hk => by
      have : k = g := by
        split at hk <;> (simp [Value.ownBlock] at hk; exact hk.symm)
      subst this
      simp only [List.mem_cons, not_or]
      exact ⟨hg.1, hg.2.1, hg.2.2, hgo⟩)
    rw [hA1] at this
    unfold RowOf
    rw [hnw]
    exact this
  · simp only [foot, hA]
    simp only [Value.ownBlock, Option.toList_some, List.cons_append, List.nil_append, List.nodup_cons, List.mem_cons, List.not_mem_nil, or_false, not_or, List.nodup_nil, not_false_eq_true, and_true]
    have := hg.1; have := hg.2.1; have := hg.2.2
    omega
  · refine h14.mono fun b hb => .inl ?_
    simp only [List.mem_cons] at hb
    rcases hb with h | h | h | h
    · simp [foot, h]
    · simp [foot, h]
    · simp [foot, h]
    · simp only [foot, List.mem_append]; exact .inr (.inl h)
  · intro k hk
    simp only [foot, hA, List.mem_append, List.mem_cons, List.not_mem_nil, or_false, mem_own] at hk
    rcases hk with (h | h | h) | h | h
    · exact .inl (by simp [foot, h])
    · exact .inl (by simp [foot, h])
    · exact .inl (by simp [foot, h])
    · obtain rfl : g1 = k := by simpa [Value.ownBlock] using h
      rcases hat4 with h | h
      · exact .inl (by simp only [foot, List.mem_append, mem_own]; exact .inr (.inl h))
      · exact .inr (by omega)
    · have e : k = g := by simpa using h
      subst e
      exact .inl (by simp [foot, Value.ownBlock])
set_option maxHeartbeats 6400000 in
theorem goOn_any {fb : Nat} {F : List Nat} {s : OutS} (h : OutA w fb F s) (hon : s.on = true) (hq : ∀ m ∈ s.wait, 0 < m.q) (hm2 : s.most ≤ 64) (hfl : s.fl.length ≤ s.most) (htk : s.taken + s.wait.length < 60000) (hids : ∀ f ∈ s.fl, f.id ≤ (s.taken : Int))
    (ov : Value) (out : List Pkt) (hr : RowOf Pkt.enc 26 w ov out) (ho : ∀ g, ov.ownBlock = some g → g ∉ F) (hol : out.length ≤ 1000) (hwl : s.wait.length ≤ 1000) :
    Calls Tryz.prog 21 #[.pointer (some ⟨fb, 0, none⟩), ov] w fun e w' => ∃ ov' F', e = .returned ov' ∧ OutA w' fb F' (s.gone s.room) ∧ RowOf Pkt.enc 26 w' ov' (out ++ newPub s.taken (s.wait.take s.room)) ∧
      Chg w w' (F ++ ov.ownBlock.toList) ∧ (∀ k ∈ F', k ∈ F ∨ w.heap.size ≤ k) ∧ (∀ g, ov'.ownBlock = some g → (ov.ownBlock = some g ∨ w.heap.size ≤ g) ∧ g ∉ F') ∧ (s.room = 0 → ov' = ov) := by
  have HH := Lib.hid h
  have HQ := Lib.hid hq
  have HIds := Lib.hid hids
  have HR := Lib.hid hr
  have HO := Lib.hid ho
  clear h hq hids hr ho
  have hrm : s.room ≤ s.wait.length ∧ s.room ≤ s.most - s.fl.length := by unfold OutS.room; omega
  have hrm2 : s.room = s.wait.length ∨ s.room = s.most - s.fl.length := by unfold OutS.room; omega
  generalize hK : s.room = K at *
  go_enter Tryz.func21, Tryz.ntmps21
  go_wp2_with fail
  go_loopw [1] (fun ou wr => ∃ (j : Nat) (F' : List Nat), j ≤ K ∧ OutA wr fb F' (s.gone j) ∧ RowOf Pkt.enc 26 wr ou (out ++ newPub s.taken (s.wait.take j)) ∧ Chg w wr (F ++ ov.ownBlock.toList) ∧ (∀ k ∈ F', k ∈ F ∨ w.heap.size ≤ k) ∧ (∀ g, ou.ownBlock = some g → (ov.ownBlock = some g ∨ w.heap.size ≤ g) ∧ g ∉ F') ∧ (j = 0 → ou = ov)) (fun _ wr => waitLen wr fb)
  case atStart =>
    refine ⟨0, F, Nat.zero_le _, ?_, ?_, Chg.refl _ _, fun k hk => .inl hk, fun g hg => ⟨.inl hg, HO.out g hg⟩, fun _ => rfl⟩
    · have : s.gone 0 = s := by unfold OutS.gone; simp [newFl]
      rw [this]; exact HH.out
    · simp only [List.take_zero, newPub, List.append_nil]; exact HR.out
  case round =>
    obtain ⟨j, F', hj, ⟨pb, mb, fv, wv, hO, rfl⟩, hrow, hch, hF', hov, hj0⟩ := hrel
    have HOut := Lib.hid hO
    have HRow := Lib.hid hrow
    have HCh := Lib.hid hch
    have HF := Lib.hid hF'
    have HOv := Lib.hid hov
    have HJ0 := Lib.hid hj0
    have c0 : wr.cell? ⟨fb, 0, none⟩ = some (.pointer (some ⟨pb, 0, none⟩)) := hO.blk.cell 0
    have c1 : wr.cell? ⟨fb, 1, none⟩ = some (.int .i64 (s.most : Int)) := hO.blk.cell 1
    have c2 : wr.cell? ⟨fb, 2, none⟩ = some (.bool true) := by have := hO.blk.cell 2; rw [show (s.gone j).on = true from hon] at this; exact this
    have c3 : wr.cell? ⟨fb, 3, none⟩ = some fv := hO.blk.cell 3
    have c4 : wr.cell? ⟨fb, 4, none⟩ = some wv := hO.blk.cell 4
    have f3 : wr.frozen? ⟨fb, 3, none⟩ = false := hO.blk.frozen 3
    have f4 : wr.frozen? ⟨fb, 4, none⟩ = false := hO.blk.frozen 4
    have hblt := hO.blk.lt
    have hwts := hO.wts
    have hfls := hO.fls
    clear hO hrow hch hF' hov hj0
    by_cases hjw : j < s.wait.length
    · have hwl0 : 0 < (s.gone j).wait.length := by simp [OutS.gone]; omega
      obtain ⟨g, off, cap, rfl, hw1, hw2, hw3, hw4, hw5⟩ := hwts.at_ Msg.size hwl0
      have hwlen : (s.gone j).wait.length = s.wait.length - j := by simp [OutS.gone]
      have hm0 : (s.gone j).wait[0] = s.wait[j] := by simp [OutS.gone]
      rw [hm0, Nat.zero_mul, Nat.add_zero] at hw4
      rw [Nat.zero_mul, Nat.add_zero] at hw5
      obtain ⟨m0, m1, m2, m3, m4⟩ := msg_at hw4
      obtain ⟨Af, cf, rfl, hAf, hcf, hlf⟩ := hfls.slice
      have hflen : (s.gone j).fl.length = s.fl.length + j := by simp [OutS.gone, newFl_len]; omega
      have HFL := Lib.hid hfls
      have HWT := Lib.hid hwts
      clear hfls hwts hw4
      obtain ⟨n1, hn1⟩ : ∃ n1, s.wait.length - j = n1 + 1 := ⟨s.wait.length - j - 1, by omega⟩
      obtain ⟨nf, hnf⟩ : ∃ nf, s.fl.length + j = nf := ⟨_, rfl⟩
      rw [hwlen, hn1] at c4
      rw [hflen, hnf] at c3
      have hq0 := HQ.out s.wait[j] (List.getElem_mem hjw)
      have HM := Lib.hid hm0
      clear hm0
      generalize hmj : s.wait[j] = m at *
      obtain ⟨mt, mbb, mq⟩ := m
      have HMJ := Lib.hid hmj
      have HWL := Lib.hid hwlen
      have HFLen := Lib.hid hflen
      have HN1 := Lib.hid hn1
      have HNF := Lib.hid hnf
      clear hmj hwlen hflen hn1 hnf
      have hq1 : 0 < mq := hq0
      clear hq0
      dsimp only at m0 m1 m2
      by_cases hfull : nf < s.most
      · have i1 : ¬ (s.most : Int) ≤ (nf : Int) := by omega
        go_wp2_with fail
        go_quiet (fail)
        obtain ⟨W1, hW1⟩ : ∃ W1, W1 = (wr.alloc (.cells (Msg.enc ⟨mt, mbb, mq⟩) 38)).drewN nq := ⟨_, rfl⟩
        have hc1 : Chg wr W1 [] := hW1 ▸ ((Chg.refl wr []).alloc _).drewN nq
        have hB1 : Blk W1 wr.heap.size 38 (Msg.enc ⟨mt, mbb, mq⟩) := hW1 ▸ (Blk.new wr _ _).drewN nq
        unfold Msg.enc at hW1
        rw [← hW1]
        clear hW1 m0 m1 m2 m3 m4
        have hO1 := HOut.out.chg hc1 (by simp)
        have hrow1 := HRow.out.chg hc1 (by simp)
        have d0 : W1.cell? ⟨fb, 0, none⟩ = some (.pointer (some ⟨pb, 0, none⟩)) := hO1.blk.cell 0
        have d3 : W1.cell? ⟨fb, 3, none⟩ = some (.slice Af nf cf) := hc1.cell c3 (by simp)
        have d4 : W1.cell? ⟨fb, 4, none⟩ = some (.slice (some ⟨g, off, none⟩) (n1 + 1) cap) := hc1.cell c4 (by simp)
        have e4 : W1.frozen? ⟨fb, 4, none⟩ = false := hO1.blk.frozen 4
        have k2 : W1.cell? ⟨wr.heap.size, 2, none⟩ = some (.int .i64 mq) := hB1.cell 2
        obtain ⟨A1, hA1⟩ : ∃ A1 : Addr, (if cap = 1 then (some ⟨g, off, none⟩ : Option Addr) else some ⟨g, off + 5, none⟩) = some A1 := by split <;> exact ⟨_, rfl⟩
        have HO1 := Lib.hid hO1
        have HRow1 := Lib.hid hrow1
        have HC1 := Lib.hid hc1
        have HB1 := Lib.hid hB1
        have HA1 := Lib.hid hA1
        clear hO1 hrow1 hc1 hB1 c0 c1 c2 c3 c4 f3 f4
        have hfbW : fb < W1.heap.size := HO1.out.blk.lt
        obtain ⟨n1', n2', n3', n4', n5', n6'⟩ := HO1.out.fresh
        obtain ⟨tk, htk2⟩ : ∃ tk, tk = s.taken + j := ⟨_, rfl⟩
        have hU : ((s.gone j).fl.map Fl.id).length = nf := by rw [List.length_map, HFLen.out, HNF.out]
        have hput : Chg W1 (W1.setCell ⟨fb, 4, none⟩ (.slice (some A1) n1 (cap - 1))) [fb] := (Chg.refl W1 _).put _ (.inl (by simp)) _
        have hpool2 : PoolAt (W1.setCell ⟨fb, 4, none⟩ (.slice (some A1) n1 (cap - 1))) pb mb 64 tk ((s.gone j).fl.map Fl.id) := by
          have := HO1.out.pool.chg hput (by simpa using n1') (by simpa using n2')
          rwa [show (s.gone j).taken = tk from htk2.symm] at this
        have hnin : ((tk : Int) + 1) ∉ (s.gone j).fl.map Fl.id := by
          intro hmem
          obtain ⟨f, hf, he⟩ := List.mem_map.1 hmem
          rcases List.mem_append.1 (show f ∈ s.fl ++ newFl s.taken (s.wait.take j) from hf) with hf | hf
          · have := HIds.out f hf; omega
          · have := (newFl_id _ _ f hf).2
            rw [List.length_take] at this
            omega
        have HT := Lib.hid (pool_take hpool2 (by omega) (by rw [hU]; omega) (by omega) hnin)
        have HP2 := Lib.hid hput
        have HTK := Lib.hid htk2
        have hb2 := HO1.out.blk.put 4 (.slice (some A1) n1 (cap - 1))
        have HB2 := Lib.hid hb2
        clear hput hpool2 hnin hU hb2 htk2
        go_wp2_with fail
        refine HT.out.mono ?_
        rintro e W3 ⟨rfl, hpool3, hc3⟩
        have hb3 := HB2.out.chg hc3 (by simp; exact ⟨fun e => n1' e.symm, fun e => n2' e.symm⟩)
        have hpbl : pb < wr.heap.size := HOut.out.pool.blk.lt
        have hmbl : mb < wr.heap.size := HOut.out.pool.set.lt
        have hM3 := (HB1.out.chg HP2.out (by simp; omega)).chg hc3 (by simp; omega)
        have hfls3 := (HO1.out.fls.chg HP2.out fun g hg => by simpa using (n3' g hg).1).chg hc3 fun g hg => by simp; exact (n3' g hg).2
        have q3 : W3.cell? ⟨fb, 3, none⟩ = some (.slice Af nf cf) := by
          have := hb3.cell 3
          rw [HFLen.out, HNF.out] at this
          exact this
        have q3f : W3.frozen? ⟨fb, 3, none⟩ = false := hb3.frozen 3
        have hq3 : QRow W3 7 (.slice Af nf cf) nf (flat Fl.enc (s.gone j).fl) := by
          have := hfls3
          unfold RowOf at this
          rw [HFLen.out, HNF.out] at this
          exact this
        obtain ⟨m0, m1, m2, m3, m4⟩ : W3.cell? ⟨wr.heap.size, 0, none⟩ = some (.string mt) ∧ W3.cell? ⟨wr.heap.size, 1, none⟩ = some (.string mbb) ∧ W3.cell? ⟨wr.heap.size, 2, none⟩ = some (.int .i64 mq) ∧ W3.cell? ⟨wr.heap.size, 3, none⟩ = some (.bool false) ∧ W3.cell? ⟨wr.heap.size, 4, none⟩ = some (.string ⟨#[]⟩) := ⟨hM3.cell 0, hM3.cell 1, hM3.cell 2, hM3.cell 3, hM3.cell 4⟩
        obtain ⟨ifl, hif, hf0, hf1, hf2⟩ := info_parts Tryz.infoFl
        have HQ8 := Lib.hid (hq3.chg (((Chg.refl W3 []).drew).alloc (.cells (Fl.enc ⟨(tk : Int) + 1, ⟨mt, mbb, mq⟩, false⟩) 66)) (by simp))
        have HN8 := Lib.hid (World.news_of_block (Blk.new W3.drew 66 (Fl.enc ⟨(tk : Int) + 1, ⟨mt, mbb, mq⟩, false⟩)))
        have HO8 := Lib.hid (one_list (Fl.one ⟨(tk : Int) + 1, ⟨mt, mbb, mq⟩, false⟩))
        have hb8 := hb3.chg (((Chg.refl W3 []).drew).alloc (.cells (Fl.enc ⟨(tk : Int) + 1, ⟨mt, mbb, mq⟩, false⟩) 66)) (by simp)
        have HB8 := Lib.hid hb8
        have HM3 := Lib.hid hM3
        have HPool3 := Lib.hid hpool3
        have HC3 := Lib.hid hc3
        have HB3 := Lib.hid hb3
        have hfb3 : fb < W3.heap.size := hb3.lt
        have how : (Value.slice Af nf cf).ownBlock = (Value.slice Af (s.gone j).fl.length cf).ownBlock := by cases Af <;> rfl
        have HN3 := Lib.hid (fun g hg => n3' g (how ▸ hg) : ∀ g, (Value.slice Af nf cf).ownBlock = some g → g ≠ fb ∧ g ≠ pb ∧ g ≠ mb)
        have HN5 := Lib.hid (fun g hg => n5' g (how ▸ hg) : ∀ g, (Value.slice Af nf cf).ownBlock = some g → _)
        have HN4 := Lib.hid n4'
        have hfbn := Lib.hid (show fb ∉ (Value.slice Af nf cf).ownBlock.toList from fun hm => (HN3.out fb (mem_own.1 hm)).1 rfl)
        have HO1n := Lib.hid (show OutAt W1 fb pb mb (.slice Af nf cf) (.slice (some ⟨g, off, none⟩) (n1 + 1) cap) (s.gone j) by have := HO1.out; rw [HFLen.out, HNF.out, HWL.out, HN1.out] at this; exact this)
        have HWS := Lib.hid (show (s.gone j).wait = ⟨mt, mbb, mq⟩ :: s.wait.drop (j + 1) by show s.wait.drop j = _; rw [List.drop_eq_getElem_cons hjw, HMJ.out])
        have HWSL := Lib.hid (show (s.wait.drop (j + 1)).length = n1 by rw [List.length_drop]; have := HN1.out; omega)
        clear hq3 hfls3 hb8 hb3 hM3 hpool3 hc3 n3' n4' n5' d0 d3 d4 e4 k2
        go_wp2_with fail
        go_region_law (first
          | (refine step_append_q (by rfl) (.tmp 63) (.tmp 67) 40 (by rfl) 66 ifl _ 7 80 Tryz.underlying40 hif hf0 hf1 hf2 (by rfl) (by decide) (.slice Af nf cf) nf _ (by simp [Act.eval]) HQ8.out ⟨W3.heap.size, 0, none⟩ 1 1 (Fl.enc ⟨(tk : Int) + 1, ⟨mt, mbb, mq⟩, false⟩).toList (by simp [Act.eval]) rfl HN8.out HO8.out (by omega) (by unfold maxLen; omega) (by omega) ?_; intro g1 off1 cap1 w4 hq4 hc4 hat4; have hb4 := HB8.out.chg hc4 hfbn.out; have r3 : w4.cell? ⟨fb, 3, none⟩ = some (.slice Af nf cf) := (by have := hb4.cell 3; rw [HFLen.out, HNF.out] at this; exact this); have r3f : w4.frozen? ⟨fb, 3, none⟩ = false := hb4.frozen 3))
        all_goals
          have hst := out_step (m := ⟨mt, mbb, mq⟩) (ws := s.wait.drop (j + 1)) (f1 := ⟨(tk : Int) + 1, ⟨mt, mbb, mq⟩, false⟩) (s1 := s.gone j) (n1 := n1) (nf := nf) (HO1n.out) HWS.out HWSL.out HA1.out HC3.out HPool3.out (((Chg.refl W3 []).drew).alloc (.cells (Fl.enc ⟨(tk : Int) + 1, ⟨mt, mbb, mq⟩, false⟩) 66)) hq4 hc4 (hat4) rfl (HFLen.out.trans HNF.out)
          obtain ⟨hO5, hc15, hf5⟩ := hst
          have hown0 : ∀ k, (Value.slice Af nf cf).ownBlock = some k → k < wr.heap.size := fun k hk => HOut.out.fls.lt k (how ▸ hk)
          have hM5 := ((HM3.out.chg (((Chg.refl W3 []).drew).alloc (.cells (Fl.enc ⟨(tk : Int) + 1, ⟨mt, mbb, mq⟩, false⟩) 66)) (by simp)).chg hc4 (fun hm => by have := hown0 _ (mem_own.1 hm); omega)).far (p := ⟨fb, 3, none⟩) (by show wr.heap.size ≠ fb; omega) (.slice (some ⟨g1, off1, none⟩) (nf + 1) cap1)
          have hrow5 := HRow1.out.chg hc15 fun k hk => foot_slice fb pb mb Af (some ⟨g, off, none⟩) (s.gone j).fl.length cf (s.gone j).wait.length cap nf cf (n1 + 1) cap ▸ (HOv.out k hk).2
          generalize w4.setCell ⟨fb, 3, none⟩ (.slice (some ⟨g1, off1, none⟩) (nf + 1) cap1) = W5 at *
          have c0 : W5.cell? ⟨wr.heap.size, 0, none⟩ = some (.string mt) := hM5.cell 0
          have c1 : W5.cell? ⟨wr.heap.size, 1, none⟩ = some (.string mbb) := hM5.cell 1
          have c2 : W5.cell? ⟨wr.heap.size, 2, none⟩ = some (.int .i64 mq) := hM5.cell 2
          have c3 : W5.cell? ⟨wr.heap.size, 3, none⟩ = some (.bool false) := hM5.cell 3
          have c4 : W5.cell? ⟨wr.heap.size, 4, none⟩ = some (.string ⟨#[]⟩) := hM5.cell 4
          have HO5 := Lib.hid hO5
          have HC15 := Lib.hid hc15
          have HF5 := Lib.hid hf5
          have HRow5 := Lib.hid hrow5
          have hwr5 : wr.heap.size < W5.heap.size := hM5.lt
          obtain ⟨ip, hip, hq0, hq1, hq2⟩ := info_parts Tryz.infoPkt
          have HFill := Lib.hid (fill_pkt (pubOf ⟨mt, mbb, mq⟩ ((tk : Int) + 1) false) ⟨0, false, 0, 0, ⟨#[]⟩, ⟨#[]⟩, 0⟩)
          have HOne := Lib.hid (one_list (Pkt.one (pubOf ⟨mt, mbb, mq⟩ ((tk : Int) + 1) false)))
          clear hO5 hc15 hf5 hrow5 hM5 hq4 hc4 hat4 hb4 r3 r3f q3 q3f
          go_wp2_with fail
          refine (packet_any ⟨mt, mbb, mq⟩ ((tk : Int) + 1) false).mono ?_
          rintro e W6 ⟨rfl, hc6⟩
          have HC6 := Lib.hid hc6
          clear hc6
          have HN6 := Lib.hid (World.news_of_block (Blk.new W6 56 (pubOf ⟨mt, mbb, mq⟩ ((tk : Int) + 1) false).enc))
          have HQ6 := Lib.hid ((HRow5.out.chg HC6.out (by simp)).chg ((Chg.refl W6 []).alloc (.cells (pubOf ⟨mt, mbb, mq⟩ ((tk : Int) + 1) false).enc 56)) (by simp))
          have HLL := Lib.hid (show (out ++ newPub s.taken (s.wait.take j)).length ≤ 2000 by rw [List.length_append, newPub_len, List.length_take]; omega)
          have HFt := Lib.hid (foot_slice fb pb mb Af (some ⟨g, off, none⟩) (s.gone j).fl.length cf (s.gone j).wait.length cap nf cf (n1 + 1) cap)
          rename_i K0 hKK
          refine hKK _ _ ?_
          refine wpList_buildSliceTo W6.heap.size rfl (by rfl) 30 56 1 _ (by rfl) (pubOf ⟨mt, mbb, mq⟩ ((tk : Int) + 1) false).enc ip _ Tryz.underlying30 hip hq0 (by rw [hq1]; decide) (by rw [hq1]; decide) (by rw [hq1, Array.toList_map]; exact HFill.out) ?_
          refine wpList_append_q (by rfl) (.tmp 71) (.tmp 75) 30 (by rfl) 56 ip _ 26 328 Tryz.underlying30 hip hq0 hq1 hq2 (by rfl) (by decide) u1 _ _ (by rfl) HQ6.out ⟨W6.heap.size, 0, none⟩ 1 1 (pubOf ⟨mt, mbb, mq⟩ ((tk : Int) + 1) false).enc.toList (by rfl) (by rfl) HN6.out HOne.out (by omega) ?b1 ?b2 ?_
          case b1 => unfold maxLen; exact Nat.le_trans (Nat.succ_le_succ HLL.out) (by decide)
          case b2 => exact Nat.le_trans (Nat.mul_le_mul_right _ (Nat.succ_le_succ HLL.out)) (by decide)
          intro g7 off7 cap7 W7 hq7 hc7 hat7
          have hend := go_end (n7 := out.length + (newPub s.taken (s.wait.take j)).length + 1) (c7 := cap7) (off7 := off7) HCh.out (HFt.out ▸ HF.out) (HFt.out ▸ HOv.out) HRow.out.lt HC1.out HC15.out HO5.out HF5.out HC6.out hc7 hat7
          have HEnd := Lib.hid hend
          have HQ7 := Lib.hid hq7
          clear hend hq7 hc7 hat7
          go_wp2_with fail
          obtain ⟨hA7, hC7, hF7, hO7⟩ := HEnd.out
          refine ⟨⟨j + 1, _, by have := HNF.out; omega, ?_, ?_, hC7, hF7, hO7, fun h => by omega⟩, ?_⟩
          · rw [OutS.gone_succ s j hjw, HMJ.out]
            rw [HTK.out] at hA7
            exact hA7
          · have hL : newPub s.taken (s.wait.take (j + 1)) = newPub s.taken (s.wait.take j) ++ [pubOf ⟨mt, mbb, mq⟩ ((tk : Int) + 1) false] := by
              rw [List.take_succ_eq_append_getElem hjw, newPub_append, HMJ.out, List.length_take, Nat.min_eq_left (by omega), HTK.out]
              rfl
            rw [hL, ← List.append_assoc]
            unfold RowOf
            have := HQ7.out
            simp only [List.length_append, List.length_cons, List.length_nil, Nat.zero_add, flat_append, flat_one] at this ⊢
            exact this
          · obtain ⟨pb', mb', fv', wv', hO7', _⟩ := hA7
            rw [waitLen_of hO7', waitLen_of HOut.out]
            have e1 : (s.gone j).wait.length = s.wait.length - j := by simp [OutS.gone]
            rw [e1]
            show (s.wait.drop (j + 1)).length < _
            rw [List.length_drop]
            omega
      · have i1 : (s.most : Int) ≤ (nf : Int) := by omega
        go_wp2_with fail
        go_quiet (fail)
        have hcE : Chg wr ((wr.alloc (.cells (Msg.enc ⟨mt, mbb, mq⟩) 38)).drewN nq) [] := ((Chg.refl wr []).alloc _).drewN nq
        have HCE := Lib.hid hcE
        clear hcE
        go_wp2_with fail
        go_ret
        have hjK : j = K := by have := HNF.out; omega
        subst hjK
        refine ⟨u1, _, rfl, ⟨pb, mb, _, _, HOut.out.chg HCE.out (by simp), rfl⟩, HRow.out.chg HCE.out (by simp), HCh.out.trans HCE.out (by simp), HF.out, HOv.out, HJ0.out⟩
    · have hjK : j = K := by omega
      obtain ⟨A, c, rfl, _, _, _⟩ := hwts.slice
      have hwlen : (s.gone j).wait.length = 0 := by simp [OutS.gone]; omega
      rw [hwlen] at c4
      clear hwts hfls hwlen
      go_wp2_with fail
      go_ret
      subst hjK
      exact ⟨u1, _, rfl, ⟨pb, mb, _, _, HOut.out, rfl⟩, HRow.out, HCh.out, HF.out, HOv.out, HJ0.out⟩
end
end Go.Proofs.YtcepfhnlbnlnhaaGreatDoor
