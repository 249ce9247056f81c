/- THE WALKS of the statements' equal and wakes. -/
import Derived.Test.YtklcpckjmncdkaaGreatDoorOpenM
import Derived.Test.YtklcpckjmncdkaaGreatDoorLaw2
namespace Go.Proofs.YtklcpckjmncdkaaGreatDoor
set_option maxRecDepth 100000
open Go.RowKit

theorem str_ne {a b : ByteArray} (h : a ≠ b) : a.toList ≠ b.toList := by
  intro e
  apply h
  rw [ByteArray.toList_eq, ByteArray.toList_eq] at e
  exact ByteArray.ext (Array.toList_inj.1 e)
section
variable {w : World}
theorem StrsAt.cell {w : World} {B : Nat} {A : Option Addr} {n c : Nat} {l : List ByteArray} (h : StrsAt w B (.slice A n c) l) (hl : 0 < l.length) :
    ∃ b off, A = some ⟨b, off, none⟩ ∧ ∀ j (hj : j < l.length), w.cell? ⟨b, off + j, none⟩ = some (.string l[j]) := by
  obtain ⟨A', c', hv, h1, _, h3⟩ := h
  injection hv with e1 e2 e3
  subst e1; subst e3
  obtain ⟨b, off, cs, hA, _, hb, _, hcell⟩ := h3 (by omega)
  exact ⟨b, off, hA, fun j hj => (cell_of_row w b (off + j) cs _ (0, 0) hb).trans (hcell j hj)⟩
set_option maxHeartbeats 1600000 in
theorem equal_any {B : Nat} {va vb : Value} {la lb : List ByteArray} (ha : StrsAt w B va la) (hb : StrsAt w B vb lb) (hn : la.length ≤ 100000000) :
    Calls Tryz.prog 24 #[va, vb] w fun e w' => e = .returned (.bool (decide (la = lb))) ∧ w.grownBy w' none := by
  have ha' := ha
  obtain ⟨Aa, ca, rfl, _⟩ := ha'.at_
  have hb' := hb
  obtain ⟨Ab, cb, rfl, _⟩ := hb'.at_
  clear ha' hb'
  by_cases hl : la.length = lb.length
  · have hlb : ((la.length : Int) != (lb.length : Int)) = false := by simp [hl]
    go_enter Tryz.func24, Tryz.ntmps24
    go_wp2_with fail
    go_loopw [13] (fun iv wr => ∃ k : Nat, iv = .int .i64 (k : Int) ∧ k ≤ la.length ∧ (∀ j (h : j < k) (h1 : j < la.length) (h2 : j < lb.length), la[j] = lb[j]) ∧ w.grownBy wr none) (fun iv _ => la.length - (intOf iv).toNat)
    case atStart => exact ⟨0, rfl, Nat.zero_le _, fun j h => absurd h (by omega), only_refl _ _⟩
    case round =>
      obtain ⟨k, rfl, hk, heq, hg⟩ := hrel
      have hkw : IntKind.i64.wrap ((k : Int) + 1) = (k : Int) + 1 := IntWalk.i64_in _ (by omega)
      by_cases hkl : k < la.length
      · obtain ⟨b1, o1, rfl, hc1⟩ := (ha.grown hg).cell (by omega)
        obtain ⟨b2, o2, rfl, hc2⟩ := (hb.grown hg).cell (by omega)
        have d1 := hc1 k hkl
        have d2 := hc2 k (by omega)
        have i1 : (k : Int) < (la.length : Int) := by omega
        have i2 : (k : Int) < (lb.length : Int) := by omega
        have hstep := fun (e : la[k] = lb[k]'(by omega)) j (h : j < k + 1) (h1 : j < la.length) (h2 : j < lb.length) => (by
          rcases Nat.lt_or_ge j k with h3 | h3
          · exact heq j h3 h1 h2
          · obtain rfl : j = k := by omega
            exact e : la[j] = lb[j])
        by_cases he : la[k] = lb[k]'(by omega)
        · have Hs := Lib.hid (hstep he)
          rw [← he] at d2
          clear hc1 hc2 heq hstep ha hb
          generalize la[k] = x at *
          clear he
          go_wp2_with fail
          go_quiet (fail)
          go_wp2_with fail
          exact ⟨⟨k + 1, rfl, by omega, Hs.out, only_drewN hg _⟩, by simp [intOf]; omega⟩
        · have hne := str_ne he
          have hfin : decide (la = lb) = false := by
            simp only [decide_eq_false_iff_not]
            rintro rfl
            exact he rfl
          clear hc1 hc2 heq hstep ha hb
          generalize la[k] = x at *
          generalize lb[k]'(by omega) = y at *
          have hneb : (x.toList == y.toList) = false := by rw [beq_eq_false_iff_ne]; exact hne
          clear hne
          go_wp2_with fail
          go_quiet (fail)
          go_wp2_with fail
          go_ret
          first
            | exact ⟨rfl, only_drewN hg _⟩
            | (rw [hfin]; exact ⟨rfl, only_drewN hg _⟩)
      · obtain rfl : k = la.length := by omega
        have i1 : ¬ (la.length : Int) < (la.length : Int) := by omega
        have hfin : decide (la = lb) = true := by
          simp only [decide_eq_true_eq]
          exact List.ext_getElem hl fun j h1 h2 => heq j h1 h1 h2
        go_wp2_with fail
        go_ret
        first
          | exact ⟨rfl, hg⟩
          | (rw [hfin]; exact ⟨rfl, hg⟩)
  · have hlb : ((la.length : Int) != (lb.length : Int)) = true := by simp; omega
    have hfin : decide (la = lb) = false := by
      simp only [decide_eq_false_iff_not]
      rintro rfl
      exact hl rfl
    rw [hfin]
    go_enter Tryz.func24, Tryz.ntmps24
    go_wp2_with fail
    go_ret
    exact ⟨rfl, only_refl _ _⟩
theorem Hand.duo {w' : World} {g jb : Nat} (h : Hand w) (hd : Duo w w' g jb) (hg : 0 < g) (hj : 0 < jb) : Hand w' := by
  have h0 := Hand.lt h
  unfold Hand at h ⊢
  rw [← h]
  exact World.cell?_of_block (w := w) (a := ⟨0, 0, none⟩) (hd.block 0 h0 (by omega) (by omega))
theorem grown_duo {a b c : World} {g jb : Nat} (h : a.grownBy b none) (hd : Duo b c g jb) (hg : a.heap.size ≤ g) (hj : a.heap.size ≤ jb) : a.grownBy c none :=
  ⟨hd.os.trans h.os, hd.tape.trans h.tape, hd.output.trans h.output, Nat.le_trans h.size hd.size, fun i hi _ => (hd.block i (Nat.lt_of_lt_of_le hi h.size) (by omega) (by omega)).trans (h.block i hi (by simp))⟩
theorem grown_own {a b c : World} {g : Nat} (h : a.grownBy b none) (hd : b.grownBy c (some g)) (hg : a.heap.size ≤ g) : a.grownBy c none :=
  ⟨hd.os.trans h.os, hd.tape.trans h.tape, hd.output.trans h.output, Nat.le_trans h.size hd.size, fun i hi _ => (hd.block i (Nat.lt_of_lt_of_le hi h.size) (by simp; omega)).trans (h.block i hi (by simp))⟩
theorem strs_one (w : World) (s : ByteArray) : StrsAt (w.alloc (.cells #[.string s] 9)) w.heap.size (.slice (some ⟨w.heap.size, 0, none⟩) 1 1) [s] :=
  ⟨some ⟨w.heap.size, 0, none⟩, 1, rfl, Nat.le_refl _, by unfold maxLen; omega, fun _ => ⟨w.heap.size, 0, #[.string s], rfl, Nat.le_refl _, heap_alloc_new w _, by simp, fun j hj => by
    obtain rfl : j = 0 := by simp at hj; omega
    rfl⟩⟩
theorem ints_nil (w : World) (g : Nat) : Ints w g (.slice none 0 0) [] := ⟨none, 0, rfl, fun j hj => absurd hj (by simp)⟩
set_option maxHeartbeats 3200000 in
theorem wakes_any (hH : Hand w) : Calls Tryz.prog 22 #[] w fun e w' => e = .returned (.bool true) ∧ w.grownBy w' none := by
  obtain ⟨D1, J1, D2, J2, D3, J3, D4, J4, D6, J6, I6, o1, hg1, a1, s2, a3, o6, hs6, hr6⟩ := wakes_plain
  unfold Img.none_ at o1
  have H0 := Lib.hid (fun W => new_any 1000 W)
  have h0 := Hand.lt hH
  go_enter Tryz.func22, Tryz.ntmps22
  go_wp2_with fail
  refine (H0.out _).mono ?_
  rintro e w1 ⟨g, rfl, hgw, hd1, hk1⟩
  have hH1 := hH.grown hk1 (by simp)
  have hg0 : 0 < g := by omega
  have H1 := open_any hH1 hg0 hd1
  rw [o1] at H1
  have H1 := Lib.hid H1
  go_wp2_with fail
  refine H1.out.mono ?_
  rintro e w2 ⟨hd2, hk2, hres⟩
  simp only at hd2
  rcases hres with ⟨_, jb, v2, rfl, hjb, hj2, hst2⟩ | ⟨h, _⟩
  rotate_left
  · exact absurd rfl h
  have hk2' := grown_own hk1 hk2 hgw
  have hj0 : 0 < jb := by have := hk1.size; omega
  have hjw : w.heap.size ≤ jb := Nat.le_trans hk1.size hjb
  have hH2 := hH.grown hk2' (by simp)
  simp only at hj2 hst2
  obtain ⟨A2, c2, rfl, _⟩ := hst2.at_
  have hG := gen_any hj2
  rw [hg1] at hG
  have HG := Lib.hid hG
  have HS := Lib.hid (fun W => (sum_any ⟨#[49, 50, 51, 52, 53, 54, 55, 56, 57]⟩ W (by decide)))
  have hsm : ((Jr.sum (⟨#[49, 50, 51, 52, 53, 54, 55, 56, 57]⟩ : ByteArray).data.toList : Nat) : Int) = 10673 := by decide
  go_wp2_with fail
  refine HG.out.mono ?_
  rintro e w' ⟨rfl, rfl⟩
  go_wp2_with fail
  refine (HS.out _).mono ?_
  rintro e w' ⟨rfl, rfl⟩
  rw [hsm]
  have HA := add_any hH2 hj0 hg0 hd2 hj2 strA (by decide)
  rw [a1] at HA
  have HA := Lib.hid HA
  go_wp2_with fail
  refine HA.out.mono ?_
  rintro e w3 ⟨v3, rfl, he3, hd3, hj3, hduo3⟩
  obtain rfl := isErr_no he3
  have hk3 := grown_duo hk2' hduo3 hgw hjw
  have hH3 := hH.grown hk3 (by simp)
  have HB := jsync_any hH3 hj0 hg0 hd3 hj3
  rw [s2] at HB
  have HB := Lib.hid HB
  go_wp2_with fail
  refine HB.out.mono ?_
  rintro e w4 ⟨v4, rfl, he4, hd4, hj4, hduo4⟩
  obtain rfl := isErr_no he4
  have hk4 := grown_duo hk3 hduo4 hgw hjw
  have hH4 := hH.grown hk4 (by simp)
  have HC := add_any hH4 hj0 hg0 hd4 hj4 strBC (by decide)
  rw [a3] at HC
  have HC := Lib.hid HC
  go_wp2_with fail
  refine HC.out.mono ?_
  rintro e w5 ⟨v5, rfl, he5, hd5, hj5, hduo5⟩
  obtain rfl := isErr_no he5
  have hk5 := grown_duo hk4 hduo5 hgw hjw
  simp only at hd5
  have HD := Lib.hid (crash_any hd5 (ints_nil w5 g) (by simp))
  go_wp2_with fail
  refine HD.out.mono ?_
  rintro e w6 ⟨rfl, hd6, hk6⟩
  have hk6' := grown_own hk5 hk6 hgw
  have HE := open_any (hH.grown hk6' (by simp)) hg0 hd6
  rw [o6] at HE
  have HE := Lib.hid HE
  go_wp2_with fail
  refine HE.out.mono ?_
  rintro e w7 ⟨hd7, hk7, hres⟩
  rcases hres with ⟨_, jb7, v7, rfl, hjb7, hj7, hst7⟩ | ⟨h, _⟩
  rotate_left
  · exact absurd rfl h
  simp only at hst7
  rw [hs6]
  rw [hr6] at hst7
  have hk7' := grown_own hk6' hk7 hgw
  have hst8 := (hst7.mono (Nat.zero_le _)).grown (only_alloc (only_refl w7 none) (.cells #[.string strA] 9))
  have HF := Lib.hid (equal_any hst8 ((strs_one w7 strA).mono (Nat.zero_le _)) (by decide))
  obtain ⟨A7, c7, rfl, _⟩ := hst7.at_
  unfold strA at HF
  go_wp2_with fail
  refine HF.out.mono ?_
  rintro e w8 ⟨rfl, hk8⟩
  go_wp2_with fail
  go_ret
  exact ⟨rfl, only_trans hk7' (only_trans (only_alloc (only_refl _ _) _) hk8)⟩
end
end Go.Proofs.YtklcpckjmncdkaaGreatDoor
