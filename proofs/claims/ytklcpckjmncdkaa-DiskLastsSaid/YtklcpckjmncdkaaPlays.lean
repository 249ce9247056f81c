/- THE WALK of DiskPlays. -/
import Derived.Test.YtklcpckjmncdkaaScript
import Derived.Test.YtklcpckjmncdkaaWakes
namespace Go.Proofs.Ytklcpckjmncdkaa
open Go.RowKit
attribute [local go_sem ↓] Go.wp_at_zero Go.wp_at_succ

/-- The two disks are new to the call. -/
structure Own (B g r : Nat) : Prop where
  g : B ≤ g
  r : B ≤ r
theorem below_two {B : Nat} {a b c : World} {g r : Nat} (h : Below B a b) (hB : B ≤ b.heap.size) (k : Two b c g r) (ho : Own B g r) : Below B a c := h.trans (k.below hB ho.g ho.r)
theorem below_none {B : Nat} {a b c : World} (h : Below B a b) (hB : B ≤ b.heap.size) (k : b.grownBy c none) : Below B a c := h.grown k hB (by simp)

set_option maxHeartbeats 3200000 in
theorem plays_any (limit : Int) (w : World) {A : Option Addr} {c : Nat} {L : List ActW} (hScr : Script w w.heap.size A c L) :
    Calls Try.prog 4 #[.int .i64 limit, .slice A L.length c] w fun e w' => e = .returned (.bool true) ∧ Below w.heap.size w w' := by
  have hcap := hScr.cap
  have hmost := hScr.most
  unfold maxLen at hmost
  go_enter Try.func4, Try.ntmps4
  go_wp2_with fail
  refine (new_any limit _).mono ?_
  rintro e w1 ⟨g, rfl, hgs, hd0, hg0⟩
  go_wp2_with fail
  refine (rnew_any limit _).mono ?_
  rintro e w2 ⟨r, rfl, hrs, hr0, hg1⟩
  have hB0 : Both w2 g r (Dk.new limit) := ⟨hd0.grown hg1, hr0⟩
  have b1 : Below w.heap.size w w1 := (Below.refl _ w).grown hg0 (Nat.le_refl _) (by simp)
  have b2 : Below w.heap.size w w2 := b1.grown hg1 b1.size (by simp)
  have ho : Own w.heap.size g r := ⟨hgs, Nat.le_trans b1.size hrs⟩
  clear hgs hrs hd0 hr0
  go_wp2_with fail
  refine (wakes_any _).mono ?_
  rintro e w3 ⟨rfl, hg2⟩
  have b3 := b2.grown hg2 b2.size (by simp)
  have hB3 := hB0.grown hg2
  go_wp2_with fail
  refine (same_any hB3).mono ?_
  rintro e w4 ⟨rfl, hg3⟩
  have b4 := b3.grown hg3 b3.size (by simp)
  have hB4 := hB3.grown hg3
  clear b1 b2 b3 hg0 hg1 hg2 hg3 hB0 hB3
  by_cases hq : L.length ≤ 100
  · skip
    go_wp2_with fail
    go_loopw [27] (fun i wr => ∃ (m : Nat) (D : Dk), m ≤ L.length ∧ i = .int .i64 (m : Int) ∧ Both wr g r D ∧ Below w.heap.size w wr) (fun i _ => L.length - (intOf i).toNat)
    case atStart => exact ⟨0, _, Nat.zero_le _, rfl, hB4, b4⟩
    case round =>
      obtain ⟨m, D, hm, rfl, hB, hb⟩ := hrel
      by_cases hlt : m < L.length
      · have hS := hScr.below hb
        have hml : m < L.length := by omega
        have hAct := hS.act m hml
        obtain ⟨b, off, hA, hbw, hcell⟩ := hS.cell m hml
        have q0 : wr.cell? ⟨b, off + m * 5, none⟩ = some (.int .i64 L[m].a.do_) := hcell 0 (by omega)
        have q1 : wr.cell? ⟨b, off + m * 5 + 1, none⟩ = some (.int .i64 L[m].a.file) := hcell 1 (by omega)
        have q2 : wr.cell? ⟨b, off + m * 5 + 2, none⟩ = some (.int .i64 L[m].a.n) := hcell 2 (by omega)
        have q3 : wr.cell? ⟨b, off + m * 5 + 3, none⟩ = some (.string L[m].a.data) := hcell 3 (by omega)
        have q4 : wr.cell? ⟨b, off + m * 5 + 4, none⟩ = some (.slice L[m].A L[m].a.keep.length L[m].c) := hcell 4 (by omega)
        clear hcell
        generalize L[m] = x at hAct q0 q1 q2 q3 q4
        have hAt := Lib.hid (act_any ((hB.grown (only_alloc (only_refl _ _) (.cells x.cells 42)))) ((hAct.below ((Below.refl _ _).alloc hb.size _)).at_ ho.g ho.r))
        subst hA
        go_wp2_with fail
        refine hAt.out.mono ?_
        rintro e w5 ⟨rfl, hB5, h25⟩
        have b5 : Below w.heap.size w w5 := below_two (hb.alloc hb.size _) (hb.alloc hb.size (.cells x.cells 42)).size h25 ho
        clear q0 q1 q2 q3 q4
        go_wp2_with fail
        refine (same_any hB5).mono ?_
        rintro e w6 ⟨rfl, hg6⟩
        go_wp2_with fail
        go_roundw
        case rel => exact ⟨m + 1, _, by omega, by simp, hB5.grown hg6, below_none b5 b5.size hg6⟩
        case measure => simp [intOf]; omega
      · obtain rfl : m = L.length := by omega
        go_wp2_with fail
        go_ret
        exact ⟨rfl, hb⟩
  · skip
    go_wp2_with fail
    go_loopw [27] (fun i wr => ∃ (m : Nat) (D : Dk), m ≤ 100 ∧ i = .int .i64 (m : Int) ∧ Both wr g r D ∧ Below w.heap.size w wr) (fun i _ => 100 - (intOf i).toNat)
    case atStart => exact ⟨0, _, Nat.zero_le _, rfl, hB4, b4⟩
    case round =>
      obtain ⟨m, D, hm, rfl, hB, hb⟩ := hrel
      by_cases hlt : m < 100
      · have hS := hScr.below hb
        have hml : m < L.length := by omega
        have hAct := hS.act m hml
        obtain ⟨b, off, hA, hbw, hcell⟩ := hS.cell m hml
        have q0 : wr.cell? ⟨b, off + m * 5, none⟩ = some (.int .i64 L[m].a.do_) := hcell 0 (by omega)
        have q1 : wr.cell? ⟨b, off + m * 5 + 1, none⟩ = some (.int .i64 L[m].a.file) := hcell 1 (by omega)
        have q2 : wr.cell? ⟨b, off + m * 5 + 2, none⟩ = some (.int .i64 L[m].a.n) := hcell 2 (by omega)
        have q3 : wr.cell? ⟨b, off + m * 5 + 3, none⟩ = some (.string L[m].a.data) := hcell 3 (by omega)
        have q4 : wr.cell? ⟨b, off + m * 5 + 4, none⟩ = some (.slice L[m].A L[m].a.keep.length L[m].c) := hcell 4 (by omega)
        clear hcell
        generalize L[m] = x at hAct q0 q1 q2 q3 q4
        have hAt := Lib.hid (act_any ((hB.grown (only_alloc (only_refl _ _) (.cells x.cells 42)))) ((hAct.below ((Below.refl _ _).alloc hb.size _)).at_ ho.g ho.r))
        subst hA
        go_wp2_with fail
        refine hAt.out.mono ?_
        rintro e w5 ⟨rfl, hB5, h25⟩
        have b5 : Below w.heap.size w w5 := below_two (hb.alloc hb.size _) (hb.alloc hb.size (.cells x.cells 42)).size h25 ho
        clear q0 q1 q2 q3 q4
        go_wp2_with fail
        refine (same_any hB5).mono ?_
        rintro e w6 ⟨rfl, hg6⟩
        go_wp2_with fail
        go_roundw
        case rel => exact ⟨m + 1, _, by omega, by simp, hB5.grown hg6, below_none b5 b5.size hg6⟩
        case measure => simp [intOf]; omega
      · obtain rfl : m = 100 := by omega
        go_wp2_with fail
        go_ret
        exact ⟨rfl, hb⟩
end Go.Proofs.Ytklcpckjmncdkaa
