/- THE WALK of the document's Read: what a file's bytes hold (the same as the program's read). Printed by gen_rread.py. -/
import Derived.Test.YtklcpckjmncdkaaGreatDoorRHead
import Derived.Deep.RegionLawGrows
namespace Go.Proofs.YtklcpckjmncdkaaGreatDoor
set_option maxRecDepth 100000
open Go.RowKit

theorem row_strsR {w : World} {base : Nat} {v : Value} {l : List ByteArray} (hr : w.ownsRow base 9 1 v l.length (l.map Value.string)) : StrsAt w base v l := by
  rcases hr.2 with ⟨hv, h0⟩ | ⟨g, cap, cur, hv, hb, hh, hle, hcm, hcs, htk⟩
  · have : l = [] := List.eq_nil_of_length_eq_zero h0
    subst this; subst hv
    exact StrsAt.nil _ _
  · exact ⟨some ⟨g, 0, none⟩, cap, hv, hle, hcm, fun _ => ⟨g, 0, cur, rfl, hb, hh, by omega, fun j hj => by rw [Nat.zero_add]; exact row_cells htk j hj⟩⟩
theorem StrsAt.lower {w : World} {B B' : Nat} {v : Value} {l : List ByteArray} (h : StrsAt w B v l) (hB : B' ≤ B) : StrsAt w B' v l := by
  obtain ⟨A, c, hv, hl, hm, hat⟩ := h
  exact ⟨A, c, hv, hl, hm, fun h0 => by obtain ⟨b, off, cs, hA, hb, rest⟩ := hat h0; exact ⟨b, off, cs, hA, Nat.le_trans hB hb, rest⟩⟩
theorem StrsAt.putBelow {w : World} {B : Nat} {v : Value} {l : List ByteArray} (h : StrsAt w B v l) {p : Addr} (hp : p.block < B) (u : Value) : StrsAt (w.setCell p u) B v l := by
  obtain ⟨A, c, hv, hl, hm, hat⟩ := h
  exact ⟨A, c, hv, hl, hm, fun h0 => by obtain ⟨b, off, cs, hA, hb, hh, rest⟩ := hat h0; exact ⟨b, off, cs, hA, hb, (Below.heap_setCell w p u b (by omega)).trans hh, rest⟩⟩
set_option maxHeartbeats 3200000 in
theorem rfile_any (s : ByteArray) (hs : s.size ≤ 16777216) (w : World) : Calls Tryz.prog 53 #[.string s] w (IsImg (jread s) w) := by
  have U := Lib.hid (fun p w => runframe_any s (by unfold maxLen; omega) p w)
  obtain ⟨i0, hi0, hz0, hz1, hz2⟩ := info_parts Tryz.infoStr
  have hJ : ∃ I, jread s = I ∧ I = jread s := ⟨_, rfl, rfl⟩
  obtain ⟨I, hI, hI'⟩ := hJ
  rw [hI]
  unfold jread at hI'
  have hU0 := Lib.hid (fun w => U.out 0 w)
  have hp0 := un_next (s := s) (q := 0)
  rw [show (((0 : Nat) : Int)) = 0 from rfl] at hp0
  generalize unframe s 0 = u0 at hI' hU0 hp0
  obtain ⟨h, p0, c0⟩ := u0
  simp only at hI' hU0 hp0
  have hb0 : Below w.heap.size w (w.alloc (.cells #[.int .i64 0, .string ⟨#[]⟩, .slice none 0 0] 103)) := (Below.refl _ w).alloc (Nat.le_refl _) _
  have hr0 : Blk (w.alloc (.cells #[.int .i64 0, .string ⟨#[]⟩, .slice none 0 0] 103)) w.heap.size 103 #[.int .i64 0, .string ⟨#[]⟩, .slice none 0 0] := Blk.new _ _ _
  have q0 := hr0.cell 0
  have q1 := hr0.cell 1
  have q2 := hr0.cell 2
  have qf := fun i => hr0.frozen i
  by_cases h1 : c0 ≠ 0
  · have hI2 : I = Img.none_ := by rw [hI', if_neg (fun hh => h1 hh.1)]
    clear hI hI'
    subst hI2
    have h1b : ((c0 : Int) != 0) = true := by simp [h1]
    go_enter Tryz.func53, Tryz.ntmps53
    go_wp2_with fail
    refine (hU0.out _).mono ?_
    rintro e w' ⟨rfl, rfl⟩
    go_wp2_with fail
    refine bodyPost_ret (by simp [results, Tryz.results53, go_sem, q0, q1, q2]; try rfl) rfl ?_
    first | exact IsImg.none_ w hb0 | exact IsImg.none_ w (((hb0.setCell (p := ⟨w.heap.size, 0, none⟩) (Nat.le_refl _) _).setCell (p := ⟨w.heap.size, 1, none⟩) (Nat.le_refl _) _).setCell (p := ⟨w.heap.size, 2, none⟩) (Nat.le_refl _) _)
  obtain rfl : c0 = 0 := by omega
  by_cases h2 : h.size ≠ 16
  · have hI2 : I = Img.none_ := by rw [hI', if_neg (fun hh => h2 hh.2.1)]
    clear hI hI'
    subst hI2
    have h2b : ((h.size : Int) != 16) = true := by simp; omega
    clear h2
    go_enter Tryz.func53, Tryz.ntmps53
    go_wp2_with fail
    refine (hU0.out _).mono ?_
    rintro e w' ⟨rfl, rfl⟩
    go_wp2_with fail
    refine bodyPost_ret (by simp [results, Tryz.results53, go_sem, q0, q1, q2]; try rfl) rfl ?_
    first | exact IsImg.none_ w hb0 | exact IsImg.none_ w (((hb0.setCell (p := ⟨w.heap.size, 0, none⟩) (Nat.le_refl _) _).setCell (p := ⟨w.heap.size, 1, none⟩) (Nat.le_refl _) _).setCell (p := ⟨w.heap.size, 2, none⟩) (Nat.le_refl _) _)
  have h2' : h.size = 16 := by omega
  clear h2 h1
  have h2b : ((h.size : Int) != 16) = false := by simp; omega
  have hh : h.size ≤ maxLen := by unfold maxLen; omega
  have G1 : ∀ w, Calls Tryz.prog 87 #[.string h, .int .i64 8, .int .i64 4] w fun e w' => e = .returned (.tuple #[.int .i64 (numAt h 8 4 : Nat), .int .i64 12, .int .i64 0]) ∧ w = w' := fun w => rget_ok h hh 4 (.inr (.inr rfl)) 8 (by omega) w
  have G2 : ∀ w, Calls Tryz.prog 87 #[.string h, .int .i64 12, .int .i64 4] w fun e w' => e = .returned (.tuple #[.int .i64 (numAt h 12 4 : Nat), .int .i64 16, .int .i64 0]) ∧ w = w' := fun w => rget_ok h hh 4 (.inr (.inr rfl)) 12 (by omega) w
  have g1 := Lib.hid G1
  have g2 := Lib.hid G2
  clear G1 G2
  have hn1 := numAt_lt4 h 8 4 (by decide)
  have hn2 := numAt_lt4 h 12 4 (by decide)
  have hiff := head_iff h2'
  have HD := Lib.hid (rhead_any (numAt h 8 4) (numAt h 12 4) hn1 hn2)
  generalize numAt h 8 4 = gen at *
  generalize numAt h 12 4 = num at *
  generalize (⟨(headL gen num).toArray⟩ : ByteArray) = hd at hiff HD
  by_cases h3 : h ≠ hd
  · have hI2 : I = Img.none_ := by rw [hI', if_neg (fun hh => h3 (hiff.2 hh.2.2))]
    clear hI hI' hiff
    subst hI2
    have h3b : (h.toList == hd.toList) = false := by
      rw [ByteArray.toList_eq, ByteArray.toList_eq, beq_eq_false_iff_ne]
      intro e
      exact h3 (ByteArray.ext (Array.toList_inj.1 e))
    clear h3
    go_enter Tryz.func53, Tryz.ntmps53
    go_wp2_with fail
    refine (hU0.out _).mono ?_
    rintro e w' ⟨rfl, rfl⟩
    go_wp2_with fail
    refine (g1.out _).mono ?_
    rintro e w' ⟨rfl, rfl⟩
    go_wp2_with fail
    refine (g2.out _).mono ?_
    rintro e w' ⟨rfl, rfl⟩
    go_wp2_with fail
    refine (HD.out _).mono ?_
    rintro e w1 ⟨rfl, hw1⟩
    have hbw : Below w.heap.size w w1 := hb0.trans (hw1.mono (by simp))
    have hr1 : Blk w1 w.heap.size 103 #[.int .i64 0, .string ⟨#[]⟩, .slice none 0 0] := hr0.below hw1 (by simp)
    have q0 := hr1.cell 0
    have q1 := hr1.cell 1
    have q2 := hr1.cell 2
    have qf := fun i => hr1.frozen i
    go_wp2_with fail
    refine bodyPost_ret (by simp [results, Tryz.results53, go_sem, q0, q1, q2]; try rfl) rfl ?_
    first | exact IsImg.none_ w hb0 | exact IsImg.none_ w (((hbw.setCell (p := ⟨w.heap.size, 0, none⟩) (Nat.le_refl _) _).setCell (p := ⟨w.heap.size, 1, none⟩) (Nat.le_refl _) _).setCell (p := ⟨w.heap.size, 2, none⟩) (Nat.le_refl _) _)
  have h3' : h = hd := Classical.byContradiction h3
  have hcond := hiff.1 h3'
  rw [if_pos ⟨rfl, h2', hcond⟩] at hI'
  clear h3 hiff hcond
  subst h3'
  by_cases z1 : gen = 0
  · have hI2 : I = Img.none_ := by rw [hI']; exact if_pos (.inl z1)
    clear hI hI'
    subst hI2
    subst z1
    go_enter Tryz.func53, Tryz.ntmps53
    go_wp2_with fail
    refine (hU0.out _).mono ?_
    rintro e w' ⟨rfl, rfl⟩
    go_wp2_with fail
    refine (g1.out _).mono ?_
    rintro e w' ⟨rfl, rfl⟩
    go_wp2_with fail
    refine (g2.out _).mono ?_
    rintro e w' ⟨rfl, rfl⟩
    go_wp2_with fail
    refine (HD.out _).mono ?_
    rintro e w1 ⟨rfl, hw1⟩
    have hbw : Below w.heap.size w w1 := hb0.trans (hw1.mono (by simp))
    have hr1 : Blk w1 w.heap.size 103 #[.int .i64 0, .string ⟨#[]⟩, .slice none 0 0] := hr0.below hw1 (by simp)
    have q0 := hr1.cell 0
    have q1 := hr1.cell 1
    have q2 := hr1.cell 2
    have qf := fun i => hr1.frozen i
    go_wp2_with fail
    refine bodyPost_ret (by simp [results, Tryz.results53, go_sem, q0, q1, q2]; try rfl) rfl ?_
    first | exact IsImg.none_ w hb0 | exact IsImg.none_ w (((hbw.setCell (p := ⟨w.heap.size, 0, none⟩) (Nat.le_refl _) _).setCell (p := ⟨w.heap.size, 1, none⟩) (Nat.le_refl _) _).setCell (p := ⟨w.heap.size, 2, none⟩) (Nat.le_refl _) _)
  have z1b : ((gen : Int) == 0) = false := by simp [z1]
  by_cases z2 : num = 0
  · have hI2 : I = Img.none_ := by rw [hI']; exact if_pos (.inr (.inl z2))
    clear hI hI'
    subst hI2
    subst z2
    go_enter Tryz.func53, Tryz.ntmps53
    go_wp2_with fail
    refine (hU0.out _).mono ?_
    rintro e w' ⟨rfl, rfl⟩
    go_wp2_with fail
    refine (g1.out _).mono ?_
    rintro e w' ⟨rfl, rfl⟩
    go_wp2_with fail
    refine (g2.out _).mono ?_
    rintro e w' ⟨rfl, rfl⟩
    go_wp2_with fail
    refine (HD.out _).mono ?_
    rintro e w1 ⟨rfl, hw1⟩
    have hbw : Below w.heap.size w w1 := hb0.trans (hw1.mono (by simp))
    have hr1 : Blk w1 w.heap.size 103 #[.int .i64 0, .string ⟨#[]⟩, .slice none 0 0] := hr0.below hw1 (by simp)
    have q0 := hr1.cell 0
    have q1 := hr1.cell 1
    have q2 := hr1.cell 2
    have qf := fun i => hr1.frozen i
    go_wp2_with fail
    refine bodyPost_ret (by simp [results, Tryz.results53, go_sem, q0, q1, q2]; try rfl) rfl ?_
    first | exact IsImg.none_ w hb0 | exact IsImg.none_ w (((hbw.setCell (p := ⟨w.heap.size, 0, none⟩) (Nat.le_refl _) _).setCell (p := ⟨w.heap.size, 1, none⟩) (Nat.le_refl _) _).setCell (p := ⟨w.heap.size, 2, none⟩) (Nat.le_refl _) _)
  have z2b : ((num : Int) == 0) = false := by simp [z2]
  have HI := Lib.hid hI'
  clear hI hI'
  go_enter Tryz.func53, Tryz.ntmps53
  go_wp2_with fail
  refine (hU0.out _).mono ?_
  rintro e w' ⟨rfl, rfl⟩
  go_wp2_with fail
  refine (g1.out _).mono ?_
  rintro e w' ⟨rfl, rfl⟩
  go_wp2_with fail
  refine (g2.out _).mono ?_
  rintro e w' ⟨rfl, rfl⟩
  go_wp2_with fail
  refine (HD.out _).mono ?_
  rintro e w1 ⟨rfl, hw1⟩
  have hbw : Below w.heap.size w w1 := hb0.trans (hw1.mono (by simp))
  have hr1 : Blk w1 w.heap.size 103 #[.int .i64 0, .string ⟨#[]⟩, .slice none 0 0] := hr0.below hw1 (by simp)
  have q0 := hr1.cell 0
  have q1 := hr1.cell 1
  have q2 := hr1.cell 2
  have qf := fun i => hr1.frozen i
  have hwlt := hw1.size
  simp at hwlt
  have hne : w1.heap.size ≠ w.heap.size := by omega
  go_wp2_with fail
  have Hp0 := Lib.hid (hp0 (by trivial)).2
  clear hp0
  have F0 : ∃ F, scan s (s.size + 1) p0 [] = F := ⟨_, rfl⟩
  obtain ⟨F, hF⟩ := F0
  rw [hF] at HI
  have HF := Lib.hid hF
  clear hF
  have hwl : w.heap.size + 1 ≤ w1.heap.size := hwlt
  have hbA : Below (w.heap.size + 1) w1 (w1.alloc (.cells #[.int .i64 (gen : Int), .string ⟨#[]⟩, .slice none 0 0] 103)) := (Below.refl _ w1).alloc hwl _
  have hblA : Blk (w1.alloc (.cells #[.int .i64 (gen : Int), .string ⟨#[]⟩, .slice none 0 0] 103)) w1.heap.size 103 #[.int .i64 (gen : Int), .string (([] : List ByteArray).headD ⟨#[]⟩), .slice none ([] : List ByteArray).tail.length 0] := Blk.new _ _ _
  go_loopw [4, 14] (fun pv kv wr => ∃ (k q : Nat) (L : List ByteArray) (A : Option Addr) (c : Nat), pv = .int .i64 (q : Int) ∧ kv = .int .i64 (L.length : Int) ∧ Blk wr w1.heap.size 103 #[.int .i64 (gen : Int), .string (L.headD ⟨#[]⟩), .slice A L.tail.length c] ∧
    wr.ownsRow (w1.heap.size + 1) 9 1 (.slice A L.tail.length c) L.tail.length (L.tail.map Value.string) ∧ Below (w.heap.size + 1) w1 wr ∧ w1.heap.size < wr.heap.size ∧ scan s k q L = F ∧ s.size < q + k ∧ q ≤ s.size ∧ L.length ≤ q) (fun pv _ _ => s.size + 1 - (intOf pv).toNat)
  case atStart => exact ⟨s.size + 1, p0, [], none, 0, rfl, rfl, hblA, World.ownsRow_nil _ _ _ _, hbA, by simp, HF.out, by omega, Hp0.out, Nat.zero_le _⟩
  case round =>
    obtain ⟨k, q, L, A, c, rfl, rfl, hbl, hrow, hbel, hwr, hsc, hk, hq, hlq⟩ := hrel
    obtain ⟨k, rfl⟩ : ∃ k', k = k' + 1 := ⟨k - 1, by omega⟩
    have hr2 : Blk wr w.heap.size 103 #[.int .i64 0, .string ⟨#[]⟩, .slice none 0 0] := hr1.below hbel (by omega)
    clear q0 q1 q2 qf
    have q0 := hr2.cell 0
    have q1 := hr2.cell 1
    have q2 := hr2.cell 2
    have qf := fun i => hr2.frozen i
    have e0 := hbl.cell 0
    have e1 := hbl.cell 1
    have e2 := hbl.cell 2
    have ef := fun i => hbl.frozen i
    by_cases hend : s.size ≤ q
    · rw [scan_past hend] at hsc
      have hqs : ¬ ((q : Int) < (s.size : Int)) := by omega
      clear hend
      obtain rfl : L = F := hsc
      have hfin : Below w.heap.size w wr := hbw.trans (hbel.mono (by omega))
      by_cases z3 : List.length L < num
      · have hI2 : I = Img.none_ := by rw [HI.out]; exact if_pos (.inr (.inr z3))
        clear HI
        subst hI2
        have z3b : decide ((L.length : Int) < (num : Int)) = true := by simp; omega
        clear z1 z2
        go_wp2_with fail
        refine bodyPost_ret (by simp [results, Tryz.results53, go_sem, q0, q1, q2]; try rfl) rfl ?_
        exact IsImg.none_ w (((hfin.setCell (p := ⟨w.heap.size, 0, none⟩) (Nat.le_refl _) _).setCell (p := ⟨w.heap.size, 1, none⟩) (Nat.le_refl _) _).setCell (p := ⟨w.heap.size, 2, none⟩) (Nat.le_refl _) _)
      · have hI2 : I = ⟨gen, L.head?.getD ⟨#[]⟩, L.tail⟩ := by rw [HI.out, ← List.headD_eq_head?_getD]; exact if_neg (by rintro (h | h | h) <;> omega)
        clear HI
        subst hI2
        have z3b : decide ((L.length : Int) < (num : Int)) = false := by simp; omega
        clear z1 z2
        go_wp2_with fail
        refine bodyPost_ret (by simp [results, Tryz.results53, go_sem, q0, q1, q2]; try rfl) rfl ?_
        have hS := (row_strsR hrow).lower (B' := w.heap.size + 1) (by omega)
        rw [List.length_tail] at hS
        exact ⟨_, rfl, (((hS.putBelow (p := ⟨w.heap.size, 0, none⟩) (Nat.lt_succ_self _) _).putBelow (p := ⟨w.heap.size, 1, none⟩) (Nat.lt_succ_self _) _).putBelow (p := ⟨w.heap.size, 2, none⟩) (Nat.lt_succ_self _) _).lower (Nat.le_succ _), ((hfin.setCell (p := ⟨w.heap.size, 0, none⟩) (Nat.le_refl _) _).setCell (p := ⟨w.heap.size, 1, none⟩) (Nat.le_refl _) _).setCell (p := ⟨w.heap.size, 2, none⟩) (Nat.le_refl _) _⟩
    · have hlt : ((q : Int) < (s.size : Int)) := by omega
      unfold scan at hsc
      have hun := un_next (s := s) (q := q)
      have hus := un_size s q
      have hup := un_pos (s := s) (q := (q : Int))
      have Uq := Lib.hid (fun w => U.out (q : Int) w)
      generalize unframe s (q : Int) = u at hsc hun hus hup Uq
      obtain ⟨ub, un, uc⟩ := u
      simp only at hsc hun hus hup Uq
      by_cases hc : uc ≠ 0
      · rw [if_neg (fun h => hc h.1)] at hsc
        have hcb : ((uc : Int) != 0) = true := by simp [hc]
        clear hc hun hup
        obtain rfl : L = F := hsc
        have hfin : Below w.heap.size w wr := hbw.trans (hbel.mono (by omega))
        by_cases z3 : List.length L < num
        · have hI2 : I = Img.none_ := by rw [HI.out]; exact if_pos (.inr (.inr z3))
          clear HI
          subst hI2
          have z3b : decide ((L.length : Int) < (num : Int)) = true := by simp; omega
          clear z1 z2
          go_wp2_with fail
          refine (Uq.out _).mono ?_
          rintro e w2 ⟨rfl, rfl⟩
          go_wp2_with fail
          refine bodyPost_ret (by simp [results, Tryz.results53, go_sem, q0, q1, q2]; try rfl) rfl ?_
          exact IsImg.none_ w (((hfin.setCell (p := ⟨w.heap.size, 0, none⟩) (Nat.le_refl _) _).setCell (p := ⟨w.heap.size, 1, none⟩) (Nat.le_refl _) _).setCell (p := ⟨w.heap.size, 2, none⟩) (Nat.le_refl _) _)
        · have hI2 : I = ⟨gen, L.head?.getD ⟨#[]⟩, L.tail⟩ := by rw [HI.out, ← List.headD_eq_head?_getD]; exact if_neg (by rintro (h | h | h) <;> omega)
          clear HI
          subst hI2
          have z3b : decide ((L.length : Int) < (num : Int)) = false := by simp; omega
          clear z1 z2
          go_wp2_with fail
          refine (Uq.out _).mono ?_
          rintro e w2 ⟨rfl, rfl⟩
          go_wp2_with fail
          refine bodyPost_ret (by simp [results, Tryz.results53, go_sem, q0, q1, q2]; try rfl) rfl ?_
          have hS := (row_strsR hrow).lower (B' := w.heap.size + 1) (by omega)
          rw [List.length_tail] at hS
          exact ⟨_, rfl, (((hS.putBelow (p := ⟨w.heap.size, 0, none⟩) (Nat.lt_succ_self _) _).putBelow (p := ⟨w.heap.size, 1, none⟩) (Nat.lt_succ_self _) _).putBelow (p := ⟨w.heap.size, 2, none⟩) (Nat.lt_succ_self _) _).lower (Nat.le_succ _), ((hfin.setCell (p := ⟨w.heap.size, 0, none⟩) (Nat.le_refl _) _).setCell (p := ⟨w.heap.size, 1, none⟩) (Nat.le_refl _) _).setCell (p := ⟨w.heap.size, 2, none⟩) (Nat.le_refl _) _⟩
      · obtain rfl : uc = 0 := by omega
        clear hc
        obtain ⟨hn1, hn2⟩ := hun (by trivial)
        have hu1 := hup (by trivial)
        clear hun hup
        have hui : (0 : Int) < (ub.size : Int) := by omega
        have hui1 : (1 : Int) ≤ (ub.size : Int) := by omega
        by_cases h0 : L.length = 0
        · have h0b : ((L.length : Int) == 0) = true := by rw [beq_iff_eq]; omega
          have h0c : ¬ (0 < (L.length : Int)) := by omega
          rw [if_pos h0, show markS = (⟨#[115]⟩ : ByteArray) from rfl, cut_one hu1] at hsc
          by_cases hm : ub[0] = 115
          · rw [if_pos hm, if_pos ⟨rfl, rfl⟩] at hsc
            have hmb : ((ub[0].toNat : Int) != 115) = false := by rw [hm]; rfl
            have Hsc := Lib.hid hsc
            have H0 := Lib.hid h0
            clear hsc h0 hm
            go_wp2_with fail
            refine (Uq.out _).mono ?_
            rintro e w2 ⟨rfl, rfl⟩
            go_wp2_with fail
            go_roundw
            case rel =>
              obtain rfl : L = [] := List.eq_nil_of_length_eq_zero H0.out
              refine ⟨k, un, [] ++ [ub.extract 1 ub.size], A, c, rfl, rfl, hbl.put 1 _, hrow.kept (only_put (only_refl wr (some w1.heap.size)) 1 _) (.inr fun e => ?_), hbel.setCell (by omega) _, by simpa [World.setCell] using hwr, Hsc.out, by omega, hn2, by simp; omega⟩
              have := (hrow.lt _ e).1
              omega
            case measure => simp [intOf]; omega
          · rw [if_neg hm, if_neg (fun h => absurd h.2 (by simp))] at hsc
            have hmb : ((ub[0].toNat : Int) != 115) = true := by
              simp only [bne_iff_ne, ne_eq]
              intro e
              exact hm (UInt8.toNat_inj.1 (by have : ub[0].toNat = 115 := by omega
                                              rw [this]; rfl))
            clear h0 hm
            obtain rfl : L = F := hsc
            have hfin : Below w.heap.size w wr := hbw.trans (hbel.mono (by omega))
            by_cases z3 : List.length L < num
            · have hI2 : I = Img.none_ := by rw [HI.out]; exact if_pos (.inr (.inr z3))
              clear HI
              subst hI2
              have z3b : decide ((L.length : Int) < (num : Int)) = true := by simp; omega
              clear z1 z2
              go_wp2_with fail
              refine (Uq.out _).mono ?_
              rintro e w2 ⟨rfl, rfl⟩
              go_wp2_with fail
              refine bodyPost_ret (by simp [results, Tryz.results53, go_sem, q0, q1, q2]; try rfl) rfl ?_
              exact IsImg.none_ w (((hfin.setCell (p := ⟨w.heap.size, 0, none⟩) (Nat.le_refl _) _).setCell (p := ⟨w.heap.size, 1, none⟩) (Nat.le_refl _) _).setCell (p := ⟨w.heap.size, 2, none⟩) (Nat.le_refl _) _)
            · have hI2 : I = ⟨gen, L.head?.getD ⟨#[]⟩, L.tail⟩ := by rw [HI.out, ← List.headD_eq_head?_getD]; exact if_neg (by rintro (h | h | h) <;> omega)
              clear HI
              subst hI2
              have z3b : decide ((L.length : Int) < (num : Int)) = false := by simp; omega
              clear z1 z2
              go_wp2_with fail
              refine (Uq.out _).mono ?_
              rintro e w2 ⟨rfl, rfl⟩
              go_wp2_with fail
              refine bodyPost_ret (by simp [results, Tryz.results53, go_sem, q0, q1, q2]; try rfl) rfl ?_
              have hS := (row_strsR hrow).lower (B' := w.heap.size + 1) (by omega)
              rw [List.length_tail] at hS
              exact ⟨_, rfl, (((hS.putBelow (p := ⟨w.heap.size, 0, none⟩) (Nat.lt_succ_self _) _).putBelow (p := ⟨w.heap.size, 1, none⟩) (Nat.lt_succ_self _) _).putBelow (p := ⟨w.heap.size, 2, none⟩) (Nat.lt_succ_self _) _).lower (Nat.le_succ _), ((hfin.setCell (p := ⟨w.heap.size, 0, none⟩) (Nat.le_refl _) _).setCell (p := ⟨w.heap.size, 1, none⟩) (Nat.le_refl _) _).setCell (p := ⟨w.heap.size, 2, none⟩) (Nat.le_refl _) _⟩
        · have h0b : ((L.length : Int) == 0) = false := by rw [beq_eq_false_iff_ne]; omega
          have h0c : (0 < (L.length : Int)) := by omega
          rw [if_neg h0, show markR = (⟨#[114]⟩ : ByteArray) from rfl, cut_one hu1] at hsc
          by_cases hm : ub[0] = 114
          · rw [if_pos hm, if_pos ⟨rfl, rfl⟩] at hsc
            have hmb : ((ub[0].toNat : Int) != 114) = false := by rw [hm]; rfl
            have Hsc := Lib.hid hsc
            have hLt : L.tail.length + 1 = L.length := by rw [List.length_tail]; omega
            have HLt := Lib.hid hLt
            have hL0 : L ≠ [] := fun e => h0 (by rw [e]; rfl)
            have hcons : ∀ x : ByteArray, (L ++ [x]).tail = L.tail ++ [x] ∧ (L ++ [x]).headD ⟨#[]⟩ = L.headD ⟨#[]⟩ := by
              intro x
              cases L with
              | nil => exact absurd rfl hL0
              | cons a l => exact ⟨rfl, rfl⟩
            have Hcons := Lib.hid hcons
            have HL0 := Lib.hid hL0
            have hap : some w1.heap.size ≠ (Value.slice A L.tail.length c).ownBlock := fun e => by have := (hrow.lt _ e.symm).1; omega
            have hap4 := Lib.hid hap
            have HR := Lib.hid hrow
            have e2' : ∀ o, (wr.alloc o).cell? ⟨w1.heap.size, 2, none⟩ = some (.slice A L.tail.length c) := fun o => by rw [World.cell?_alloc_lt _ _ _ hwr]; exact e2
            generalize hT : L.tail = LT at *
            have hltm : LT.length < 16777216 := by have := HLt.out; omega
            clear hsc h0 hm hLt hL0 hcons hap hrow
            go_wp2_with fail
            refine (Uq.out _).mono ?_
            rintro e w2 ⟨rfl, rfl⟩
            go_wp2_with fail
            have hrow := HR.out
            go_region_law (refine step_append_lies _ (by rfl) (.tmp 94) (.tmp 97) 32 (by rfl) (w1.heap.size + 1) 9 i0 _ 1 16 Tryz.underlying32 hi0 hz0 hz1 hz2 rfl (by decide) (.slice A LT.length c) LT.length (LT.map Value.string) (by simp [Act.eval]) (hrow.alloc _) ⟨wr.heap.size, 0, none⟩ 1 1 [.string (ub.extract 1 ub.size)] (by simp [Act.eval]) rfl (one_cell _ _ _) (by intro u hu; simp at hu; subst hu; rfl) (by omega) (by unfold maxLen; omega) (by omega) (by simp; omega) (wr.heap.size + 1) (by simp) ?_; intro g1 cap w2 hown1 hg1 hat1 hlt1; have hb2 := (Blk.alloc (Blk.drew hbl) (.cells #[.string (ub.extract 1 ub.size)] 9)).grown hg1 hap4.out; have e7 : w2.cell? ⟨w1.heap.size, 2, none⟩ = some (.slice A LT.length c) := hb2.cell 2; have f7 := hb2.frozen 2)
            all_goals
              go_wp2_with fail
              go_roundw
              case rel =>
                have hl2 : (LT ++ [ub.extract 1 ub.size]).length = LT.length + 1 := by simp
                refine ⟨k, un, L ++ [ub.extract 1 ub.size], some ⟨g1, 0, none⟩, cap, rfl, by simp, ?_, ?_, ?_, ?_, Hsc.out, by omega, hn2, by simp; omega⟩
                · rw [(Hcons.out _).1, (Hcons.out _).2, hl2]; exact hb2.put 2 _
                · rw [(Hcons.out _).1, hl2, List.map_append]
                  refine (hown1).kept (only_put (only_refl w2 (some w1.heap.size)) 2 _) (.inr fun e => ?_)
                  have := (hown1.lt _ e).1
                  omega
                · refine Below.setCell ?_ (by omega) _
                  refine (((hbel).drew).alloc (by have := hbel.size; simp at this ⊢; omega) _).grown hg1 (by have := hbel.size; simp; omega) (fun k hk => by have := (hrow.lt k hk).1; omega)
                · have := hg1.size; simp [World.setCell] at this ⊢; omega
              case measure => simp [intOf]; omega
          · rw [if_neg hm, if_neg (fun h => absurd h.2 (by simp))] at hsc
            have hmb : ((ub[0].toNat : Int) != 114) = true := by
              simp only [bne_iff_ne, ne_eq]
              intro e
              exact hm (UInt8.toNat_inj.1 (by have : ub[0].toNat = 114 := by omega
                                              rw [this]; rfl))
            clear h0 hm
            obtain rfl : L = F := hsc
            have hfin : Below w.heap.size w wr := hbw.trans (hbel.mono (by omega))
            by_cases z3 : List.length L < num
            · have hI2 : I = Img.none_ := by rw [HI.out]; exact if_pos (.inr (.inr z3))
              clear HI
              subst hI2
              have z3b : decide ((L.length : Int) < (num : Int)) = true := by simp; omega
              clear z1 z2
              go_wp2_with fail
              refine (Uq.out _).mono ?_
              rintro e w2 ⟨rfl, rfl⟩
              go_wp2_with fail
              refine bodyPost_ret (by simp [results, Tryz.results53, go_sem, q0, q1, q2]; try rfl) rfl ?_
              exact IsImg.none_ w (((hfin.setCell (p := ⟨w.heap.size, 0, none⟩) (Nat.le_refl _) _).setCell (p := ⟨w.heap.size, 1, none⟩) (Nat.le_refl _) _).setCell (p := ⟨w.heap.size, 2, none⟩) (Nat.le_refl _) _)
            · have hI2 : I = ⟨gen, L.head?.getD ⟨#[]⟩, L.tail⟩ := by rw [HI.out, ← List.headD_eq_head?_getD]; exact if_neg (by rintro (h | h | h) <;> omega)
              clear HI
              subst hI2
              have z3b : decide ((L.length : Int) < (num : Int)) = false := by simp; omega
              clear z1 z2
              go_wp2_with fail
              refine (Uq.out _).mono ?_
              rintro e w2 ⟨rfl, rfl⟩
              go_wp2_with fail
              refine bodyPost_ret (by simp [results, Tryz.results53, go_sem, q0, q1, q2]; try rfl) rfl ?_
              have hS := (row_strsR hrow).lower (B' := w.heap.size + 1) (by omega)
              rw [List.length_tail] at hS
              exact ⟨_, rfl, (((hS.putBelow (p := ⟨w.heap.size, 0, none⟩) (Nat.lt_succ_self _) _).putBelow (p := ⟨w.heap.size, 1, none⟩) (Nat.lt_succ_self _) _).putBelow (p := ⟨w.heap.size, 2, none⟩) (Nat.lt_succ_self _) _).lower (Nat.le_succ _), ((hfin.setCell (p := ⟨w.heap.size, 0, none⟩) (Nat.le_refl _) _).setCell (p := ⟨w.heap.size, 1, none⟩) (Nat.le_refl _) _).setCell (p := ⟨w.heap.size, 2, none⟩) (Nat.le_refl _) _⟩
end Go.Proofs.YtklcpckjmncdkaaGreatDoor
