/- THE WALK of DiskBounded. -/
import Derived.Test.YtklcpckjmncdkaaPlays
namespace Go.Proofs.Ytklcpckjmncdkaa
open Go.RowKit
attribute [local go_sem ↓] Go.wp_at_zero Go.wp_at_succ

theorem Dk.change_same (D : Dk) (A C : Dk → Dk) : (D.change A C).1 = 241 → (D.change A C).2.b0 = D.b0 ∧ (D.change A C).2.b1 = D.b1 ∧ (D.change A C).2.off = D.off := by
  unfold Dk.change
  split
  · intro h; exact absurd h (show ¬ (240 = 241) by decide)
  · split
    · intro _
      have h1 := D.ticked.broken_sizes
      have h2 := D.ticked_sizes
      refine ⟨h1.1.trans h2.1, h1.2.1.trans h2.2.1, ?_⟩
      unfold Dk.broken
      split <;> rfl
    · intro h; exact absurd h (show ¬ (0 = 241) by decide)
/-- What is refused changes nothing. -/
theorem Dk.append_refused (D : Dk) (n : Int) (s : ByteArray) (h : (D.append n s).1 ≠ 0) (h' : (D.append n s).1 ≠ 240 ∨ D.off = true) :
    (D.append n s).2.b0 = D.b0 ∧ (D.append n s).2.b1 = D.b1 ∧ (D.append n s).2.off = D.off := by
  revert h h'
  unfold Dk.append
  split
  · intro _ _; exact ⟨rfl, rfl, rfl⟩
  rename_i hf
  split
  · intro _ _; exact ⟨rfl, rfl, rfl⟩
  split
  · intro _ _; exact ⟨rfl, rfl, rfl⟩
  have hoff : D.off = false := by
    cases ho : D.off with
    | false => rfl
    | true => exact absurd (by unfold Dk.find at hf; rw [ho] at hf; simp at hf) id
  intro h h'
  refine Dk.change_same D _ _ ?_
  unfold Dk.change at h h' ⊢
  split at h <;> rename_i hc
  · rw [if_pos hc] at h'
    rcases h' with h' | h'
    · exact absurd rfl h'
    · rw [hoff] at h'; cases h'
  · rw [if_neg hc]
    split at h <;> rename_i hc2
    · rw [if_pos hc2]
    · exact absurd rfl h
/-- What is read of a file. -/
theorem Dk.read_same {D E : Dk} (h0 : E.b0 = D.b0) (h1 : E.b1 = D.b1) (ho : E.off = D.off) (n : Int) : E.read n = D.read n := by
  unfold Dk.read Dk.find Dk.bytes
  rw [h0, h1, ho]
theorem Dk.read_size {D : Dk} (h : D.Ok) : (D.read 0).1.size + (D.read 1).1.size ≤ D.lim := by
  have hs := h.sum
  unfold Dk.read Dk.find Dk.bytes
  cases D.off with
  | false => simpa using hs
  | true => exact Nat.zero_le _
theorem Dk.act_lim (D : Dk) (a : ActD) : (D.act a).lim = D.lim := by
  have hch : ∀ (A C : Dk → Dk), (∀ D, (A D).lim = D.lim) → (∀ D, (C D).lim = D.lim) → (D.change A C).2.lim = D.lim := fun A C hA hC => by
    unfold Dk.change
    split
    · exact hC _
    · split
      · exact D.ticked.broken_sizes.2.2
      · exact (hA _).trans D.ticked.broken_sizes.2.2
  have hput : ∀ s n (D : Dk), (Dk.put s n D).lim = D.lim := fun s n D => by unfold Dk.put; split <;> rfl
  have hsy : ∀ n (D : Dk), (Dk.sync n D).lim = D.lim := fun n D => by unfold Dk.sync; split <;> rfl
  have hwi : ∀ n (D : Dk), (Dk.wipe n D).lim = D.lim := fun n D => by unfold Dk.wipe; split <;> rfl
  have hap : ∀ n s, (D.append n s).2.lim = D.lim := fun n s => by
    unfold Dk.append
    split
    · rfl
    split
    · rfl
    split
    · rfl
    exact hch _ _ (hput s n) (hput s n)
  unfold Dk.act
  split
  · unfold Dk.doSync
    split
    · rfl
    · exact hch _ _ (hsy _) (fun _ => rfl)
  · unfold Dk.doClear
    split
    · rfl
    · exact hch _ _ (hwi _) (fun _ => rfl)
  · rfl
  · rfl
  · rfl
  · unfold Dk.crash; split <;> rfl
  · rfl
  · exact hap _ _
theorem Dk.append_lim (D : Dk) (n : Int) (s : ByteArray) : (D.append n s).2.lim = D.lim := by
  have h := D.act_lim ⟨0, n, 0, s.extract 0 500, []⟩
  unfold Dk.append
  split
  · rfl
  split
  · rfl
  split
  · rfl
  unfold Dk.change
  split
  · unfold Dk.lose Dk.put; split <;> rfl
  · split
    · exact D.ticked.broken_sizes.2.2
    · refine Eq.trans ?_ D.ticked.broken_sizes.2.2
      unfold Dk.put; split <;> rfl
/- THE LOOP. -/
set_option maxRecDepth 100000 in
set_option maxHeartbeats 3200000 in
theorem bounded_any (limit : Int) (hlim64 : I64 limit) (w : World) {A : Option Addr} {c : Nat} {L : List ActW} (hScr : Script w w.heap.size A c L) :
    Calls Try.prog 6 #[.int .i64 limit, .slice A L.length c] w fun e w' => e = .returned (.bool true) ∧ Below w.heap.size w w' := by
  have hcap := hScr.cap
  have hmost := hScr.most
  unfold maxLen at hmost
  unfold I64 at hlim64
  go_enter Try.func6, Try.ntmps6
  go_wp2_with fail
  refine (new_any limit _).mono ?_
  rintro e w1 ⟨g, rfl, hgs, hd0, hg0⟩
  go_wp2_with fail
  refine (rnew_any limit _).mono ?_
  rintro e w2 ⟨r, rfl, hrs, hr0, hg1⟩
  have hB4 : Pair w2 g r (Dk.new limit) (Dk.new limit) := ⟨hd0.grown hg1, hr0⟩
  have b1 : Below w.heap.size w w1 := (Below.refl _ w).grown hg0 (Nat.le_refl _) (by simp)
  have b4 : Below w.heap.size w w2 := b1.grown hg1 b1.size (by simp)
  have ho : Own w.heap.size g r := ⟨hgs, Nat.le_trans b1.size hrs⟩
  clear hgs hrs hd0 hr0 b1 hg0 hg1
  by_cases hq : L.length ≤ 100
  · skip
    go_wp2_with fail
    go_loopw [29] (fun i wr => ∃ (m : Nat) (D E : Dk), m ≤ L.length ∧ i = .int .i64 (m : Int) ∧ Pair wr g r D E ∧ D.lim = (Dk.new limit).lim ∧ Below w.heap.size w wr) (fun i _ => L.length - (intOf i).toNat)
    case atStart => exact ⟨0, _, _, Nat.zero_le _, rfl, hB4, rfl, b4⟩
    case round =>
      obtain ⟨m, D, E, hm, rfl, hB, hlm, hb⟩ := hrel
      by_cases hlt : m < L.length
      · have hS := hScr.below hb
        have hml : m < L.length := by omega
        have hAct := hS.act m hml
        obtain ⟨b, off, hA, hbw, hcell⟩ := hS.cell m hml
        have q0 : wr.cell? ⟨b, off + m * 5, none⟩ = some (.int .i64 L[m].a.do_) := hcell 0 (by omega)
        have q1 : wr.cell? ⟨b, off + m * 5 + 1, none⟩ = some (.int .i64 L[m].a.file) := hcell 1 (by omega)
        have q2 : wr.cell? ⟨b, off + m * 5 + 2, none⟩ = some (.int .i64 L[m].a.n) := hcell 2 (by omega)
        have q3 : wr.cell? ⟨b, off + m * 5 + 3, none⟩ = some (.string L[m].a.data) := hcell 3 (by omega)
        have q4 : wr.cell? ⟨b, off + m * 5 + 4, none⟩ = some (.slice L[m].A L[m].a.keep.length L[m].c) := hcell 4 (by omega)
        clear hcell
        generalize L[m] = x at hAct q0 q1 q2 q3 q4
        have hgr : wr.grownBy (wr.alloc (.cells #[.int .i64 x.a.do_, .int .i64 x.a.file, .int .i64 x.a.n, .string x.a.data, .slice x.A x.a.keep.length x.c] 42)) none := only_alloc (only_refl _ _) _
        have hBa := hB.grown hgr
        have hba := hb.alloc hb.size (.cells #[.int .i64 x.a.do_, .int .i64 x.a.file, .int .i64 x.a.n, .string x.a.data, .slice x.A x.a.keep.length x.c] 42)
        have hAx := hAct.below ((Below.refl _ _).alloc hb.size (.cells #[.int .i64 x.a.do_, .int .i64 x.a.file, .int .i64 x.a.n, .string x.a.data, .slice x.A x.a.keep.length x.c] 42))
        have hdata := hAct.data
        have hap : ∀ n s, (D.append n s).1 ≠ 0 → ((D.append n s).1 ≠ 240 ∨ D.off = true) → (D.append n s).2.read 0 = D.read 0 ∧ (D.append n s).2.read 1 = D.read 1 := fun n s h1 h2 => by
          obtain ⟨e0, e1, e2⟩ := D.append_refused n s h1 h2
          exact ⟨Dk.read_same e0 e1 e2 0, Dk.read_same e0 e1 e2 1⟩
        have hapl := D.append_lim x.a.file x.a.data
        have hsz := Dk.read_size hB.d.ok
        rw [hlm] at hsz
        have hlim : ((Dk.new limit).lim : Int) = max 0 (min limit 16777216) := by simp only [Dk.new]; omega
        have hlimN : (Dk.new limit).lim ≤ 16777216 := (Dk.new_ok limit).lim
        have hac := append_any hBa.d x.a.file x.a.data hdata
        have hlt256 := D.append_lt x.a.file x.a.data
        have hap := hap x.a.file x.a.data
        have hRd0 := Lib.hid (read_any hBa.d 0)
        have hRd1 := Lib.hid (read_any hBa.d 1)
        have hOff := Lib.hid (off_any hBa.d)
        have hAt := Lib.hid (act2_any hBa (hAx.at_ ho.g ho.r))
        subst hA
        generalize D.append x.a.file x.a.data = pr at hac hlt256 hap hapl
        obtain ⟨pc, pd⟩ := pr
        simp only at hac hlt256 hap hapl
        have hAc := Lib.hid hac
        clear hac
        have hrd0' : ∀ (W : World), DiskAt W g pd → pc ≠ 0 → (pc ≠ 240 ∨ D.off = true) → Calls Try.prog 19 #[.pointer (some ⟨g, 0, none⟩), .int .i64 0] W fun e w' => e = .returned (.tuple #[.string (D.read 0).1, .int .u8 ((D.read 0).2 : Nat)]) ∧ W = w' :=
          fun W hW h1 h2 => by have := read_any hW 0; rw [(hap h1 h2).1] at this; exact this
        have hrd1' : ∀ (W : World), DiskAt W g pd → pc ≠ 0 → (pc ≠ 240 ∨ D.off = true) → Calls Try.prog 19 #[.pointer (some ⟨g, 0, none⟩), .int .i64 1] W fun e w' => e = .returned (.tuple #[.string (D.read 1).1, .int .u8 ((D.read 1).2 : Nat)]) ∧ W = w' :=
          fun W hW h1 h2 => by have := read_any hW 1; rw [(hap h1 h2).2] at this; exact this
        clear hap
        have Hrd0 := Lib.hid hrd0'
        have Hrd1 := Lib.hid hrd1'
        clear hrd0' hrd1'
        generalize D.read 0 = p0 at hRd0 Hrd0 hsz
        generalize D.read 1 = p1 at hRd1 Hrd1 hsz
        generalize hof : D.off = ob at hOff Hrd0 Hrd1
        obtain ⟨s0, c0⟩ := p0
        obtain ⟨s1, c1⟩ := p1
        simp only at hsz
        have Hlm := Lib.hid hlm
        have Hapl := Lib.hid hapl
        have Hlim := Lib.hid hlim
        generalize (Dk.new limit).lim = lm at *
        clear hlm hapl hof hlim
        go_wp2_with fail
        refine hRd0.out.mono ?_
        rintro e w' ⟨rfl, rfl⟩
        go_wp2_with fail
        refine hRd1.out.mono ?_
        rintro e w' ⟨rfl, rfl⟩
        go_upto_region 7 with fail
        go_cut [51] (fun v wx => v = .bool false ∧ wx = wr.alloc (.cells #[.int .i64 x.a.do_, .int .i64 x.a.file, .int .i64 x.a.n, .string x.a.data, .slice x.A x.a.keep.length x.c] 42))
        case first =>
          go_wp2_with fail
          all_goals go_meet
          all_goals exact ⟨congrArg Value.bool (decide_eq_false (by have := Hlim.out; omega)), rfl⟩
        case rest =>
          obtain ⟨rfl, rfl⟩ := hcut
          by_cases h9 : x.a.do_.tmod 9 = 0
          · go_wp2_with fail
            refine hOff.out.mono ?_
            rintro e w' ⟨rfl, rfl⟩
            go_wp2_with fail
            refine hAc.out.mono ?_
            rintro e w5 ⟨rfl, hd5, hg5⟩
            have b5 : Below w.heap.size w w5 := hba.grown hg5 hba.size (fun k hk => by injection hk with hk; have := ho.g; omega)
            have hP5 : Pair w5 g r pd E := ⟨hd5, hBa.r.overD hBa.d hg5⟩
            have hl5 : pd.lim = lm := Hapl.out.trans Hlm.out
            have hL5 := Lib.hid hl5
            clear hl5
            by_cases hz : pc = 0
            · subst hz
              go_wp2_with fail
              go_roundw
              case rel => exact ⟨m + 1, _, _, by omega, by simp, hP5, hL5.out, b5⟩
              case measure =>
                show L.length - (intOf (Value.int .i64 ((m : Int) + 1))).toNat < L.length - (intOf (Value.int .i64 (m : Int))).toNat
                simp only [intOf]
                omega
            · have hzb : ((pc : Int) != 0) = true := by simp [hz]
              by_cases hr : pc ≠ 240 ∨ ob = true
              · have hR0 := Lib.hid (Hrd0.out w5 hd5 hz hr)
                have hR1 := Lib.hid (Hrd1.out w5 hd5 hz hr)
                have hzz := Lib.hid hz
                clear hz
                by_cases h24 : pc = 240
                · subst h24
                  obtain rfl : ob = true := by rcases hr with h | h; exact absurd rfl h; exact h
                  go_wp2_with fail
                  refine hR0.out.mono ?_
                  rintro e w' ⟨rfl, rfl⟩
                  go_wp2_with fail
                  refine hR1.out.mono ?_
                  rintro e w' ⟨rfl, rfl⟩
                  go_wp2_with fail
                  go_roundw
                  case rel => exact ⟨m + 1, _, _, by omega, by simp, hP5, hL5.out, b5⟩
                  case measure =>
                    show L.length - (intOf (Value.int .i64 ((m : Int) + 1))).toNat < L.length - (intOf (Value.int .i64 (m : Int))).toNat
                    simp only [intOf]
                    omega
                · have h24b : ((pc : Int) != 240) = true := by simp; omega
                  clear h24 hr
                  go_wp2_with fail
                  refine hR0.out.mono ?_
                  rintro e w' ⟨rfl, rfl⟩
                  go_wp2_with fail
                  refine hR1.out.mono ?_
                  rintro e w' ⟨rfl, rfl⟩
                  go_wp2_with fail
                  go_roundw
                  case rel => exact ⟨m + 1, _, _, by omega, by simp, hP5, hL5.out, b5⟩
                  case measure =>
                    show L.length - (intOf (Value.int .i64 ((m : Int) + 1))).toNat < L.length - (intOf (Value.int .i64 (m : Int))).toNat
                    simp only [intOf]
                    omega
              · obtain rfl : pc = 240 := by omega
                obtain rfl : ob = false := by cases ob; rfl; exact absurd (Or.inr rfl) hr
                go_wp2_with fail
                go_roundw
                case rel => exact ⟨m + 1, _, _, by omega, by simp, hP5, hL5.out, b5⟩
                case measure =>
                  show L.length - (intOf (Value.int .i64 ((m : Int) + 1))).toNat < L.length - (intOf (Value.int .i64 (m : Int))).toNat
                  simp only [intOf]
                  omega
          · have h9b : (x.a.do_.tmod 9 != 0) = true := by simp [h9]
            go_wp2_with fail
            refine hAt.out.mono ?_
            rintro e w5 ⟨⟨bb, rfl, _⟩, hB5, h25⟩
            have b5 : Below w.heap.size w w5 := below_two hba hba.size h25 ho
            go_wp2_with fail
            go_roundw
            case rel => exact ⟨m + 1, _, _, by omega, by simp, hB5, (D.act_lim x.a).trans Hlm.out, b5⟩
            case measure =>
              show L.length - (intOf (Value.int .i64 ((m : Int) + 1))).toNat < L.length - (intOf (Value.int .i64 (m : Int))).toNat
              simp only [intOf]
              omega
      · obtain rfl : m = L.length := by omega
        go_wp2_with fail
        refine (wakes_any _).mono ?_
        rintro e w9 ⟨rfl, hg9⟩
        go_wp2_with fail
        go_ret
        exact ⟨rfl, below_none hb hb.size hg9⟩
  · skip
    go_wp2_with fail
    go_loopw [29] (fun i wr => ∃ (m : Nat) (D E : Dk), m ≤ 100 ∧ i = .int .i64 (m : Int) ∧ Pair wr g r D E ∧ D.lim = (Dk.new limit).lim ∧ Below w.heap.size w wr) (fun i _ => 100 - (intOf i).toNat)
    case atStart => exact ⟨0, _, _, Nat.zero_le _, rfl, hB4, rfl, b4⟩
    case round =>
      obtain ⟨m, D, E, hm, rfl, hB, hlm, hb⟩ := hrel
      by_cases hlt : m < 100
      · have hS := hScr.below hb
        have hml : m < L.length := by omega
        have hAct := hS.act m hml
        obtain ⟨b, off, hA, hbw, hcell⟩ := hS.cell m hml
        have q0 : wr.cell? ⟨b, off + m * 5, none⟩ = some (.int .i64 L[m].a.do_) := hcell 0 (by omega)
        have q1 : wr.cell? ⟨b, off + m * 5 + 1, none⟩ = some (.int .i64 L[m].a.file) := hcell 1 (by omega)
        have q2 : wr.cell? ⟨b, off + m * 5 + 2, none⟩ = some (.int .i64 L[m].a.n) := hcell 2 (by omega)
        have q3 : wr.cell? ⟨b, off + m * 5 + 3, none⟩ = some (.string L[m].a.data) := hcell 3 (by omega)
        have q4 : wr.cell? ⟨b, off + m * 5 + 4, none⟩ = some (.slice L[m].A L[m].a.keep.length L[m].c) := hcell 4 (by omega)
        clear hcell
        generalize L[m] = x at hAct q0 q1 q2 q3 q4
        have hgr : wr.grownBy (wr.alloc (.cells #[.int .i64 x.a.do_, .int .i64 x.a.file, .int .i64 x.a.n, .string x.a.data, .slice x.A x.a.keep.length x.c] 42)) none := only_alloc (only_refl _ _) _
        have hBa := hB.grown hgr
        have hba := hb.alloc hb.size (.cells #[.int .i64 x.a.do_, .int .i64 x.a.file, .int .i64 x.a.n, .string x.a.data, .slice x.A x.a.keep.length x.c] 42)
        have hAx := hAct.below ((Below.refl _ _).alloc hb.size (.cells #[.int .i64 x.a.do_, .int .i64 x.a.file, .int .i64 x.a.n, .string x.a.data, .slice x.A x.a.keep.length x.c] 42))
        have hdata := hAct.data
        have hap : ∀ n s, (D.append n s).1 ≠ 0 → ((D.append n s).1 ≠ 240 ∨ D.off = true) → (D.append n s).2.read 0 = D.read 0 ∧ (D.append n s).2.read 1 = D.read 1 := fun n s h1 h2 => by
          obtain ⟨e0, e1, e2⟩ := D.append_refused n s h1 h2
          exact ⟨Dk.read_same e0 e1 e2 0, Dk.read_same e0 e1 e2 1⟩
        have hapl := D.append_lim x.a.file x.a.data
        have hsz := Dk.read_size hB.d.ok
        rw [hlm] at hsz
        have hlim : ((Dk.new limit).lim : Int) = max 0 (min limit 16777216) := by simp only [Dk.new]; omega
        have hlimN : (Dk.new limit).lim ≤ 16777216 := (Dk.new_ok limit).lim
        have hac := append_any hBa.d x.a.file x.a.data hdata
        have hlt256 := D.append_lt x.a.file x.a.data
        have hap := hap x.a.file x.a.data
        have hRd0 := Lib.hid (read_any hBa.d 0)
        have hRd1 := Lib.hid (read_any hBa.d 1)
        have hOff := Lib.hid (off_any hBa.d)
        have hAt := Lib.hid (act2_any hBa (hAx.at_ ho.g ho.r))
        subst hA
        generalize D.append x.a.file x.a.data = pr at hac hlt256 hap hapl
        obtain ⟨pc, pd⟩ := pr
        simp only at hac hlt256 hap hapl
        have hAc := Lib.hid hac
        clear hac
        have hrd0' : ∀ (W : World), DiskAt W g pd → pc ≠ 0 → (pc ≠ 240 ∨ D.off = true) → Calls Try.prog 19 #[.pointer (some ⟨g, 0, none⟩), .int .i64 0] W fun e w' => e = .returned (.tuple #[.string (D.read 0).1, .int .u8 ((D.read 0).2 : Nat)]) ∧ W = w' :=
          fun W hW h1 h2 => by have := read_any hW 0; rw [(hap h1 h2).1] at this; exact this
        have hrd1' : ∀ (W : World), DiskAt W g pd → pc ≠ 0 → (pc ≠ 240 ∨ D.off = true) → Calls Try.prog 19 #[.pointer (some ⟨g, 0, none⟩), .int .i64 1] W fun e w' => e = .returned (.tuple #[.string (D.read 1).1, .int .u8 ((D.read 1).2 : Nat)]) ∧ W = w' :=
          fun W hW h1 h2 => by have := read_any hW 1; rw [(hap h1 h2).2] at this; exact this
        clear hap
        have Hrd0 := Lib.hid hrd0'
        have Hrd1 := Lib.hid hrd1'
        clear hrd0' hrd1'
        generalize D.read 0 = p0 at hRd0 Hrd0 hsz
        generalize D.read 1 = p1 at hRd1 Hrd1 hsz
        generalize hof : D.off = ob at hOff Hrd0 Hrd1
        obtain ⟨s0, c0⟩ := p0
        obtain ⟨s1, c1⟩ := p1
        simp only at hsz
        have Hlm := Lib.hid hlm
        have Hapl := Lib.hid hapl
        have Hlim := Lib.hid hlim
        generalize (Dk.new limit).lim = lm at *
        clear hlm hapl hof hlim
        go_wp2_with fail
        refine hRd0.out.mono ?_
        rintro e w' ⟨rfl, rfl⟩
        go_wp2_with fail
        refine hRd1.out.mono ?_
        rintro e w' ⟨rfl, rfl⟩
        go_upto_region 7 with fail
        go_cut [51] (fun v wx => v = .bool false ∧ wx = wr.alloc (.cells #[.int .i64 x.a.do_, .int .i64 x.a.file, .int .i64 x.a.n, .string x.a.data, .slice x.A x.a.keep.length x.c] 42))
        case first =>
          go_wp2_with fail
          all_goals go_meet
          all_goals exact ⟨congrArg Value.bool (decide_eq_false (by have := Hlim.out; omega)), rfl⟩
        case rest =>
          obtain ⟨rfl, rfl⟩ := hcut
          by_cases h9 : x.a.do_.tmod 9 = 0
          · go_wp2_with fail
            refine hOff.out.mono ?_
            rintro e w' ⟨rfl, rfl⟩
            go_wp2_with fail
            refine hAc.out.mono ?_
            rintro e w5 ⟨rfl, hd5, hg5⟩
            have b5 : Below w.heap.size w w5 := hba.grown hg5 hba.size (fun k hk => by injection hk with hk; have := ho.g; omega)
            have hP5 : Pair w5 g r pd E := ⟨hd5, hBa.r.overD hBa.d hg5⟩
            have hl5 : pd.lim = lm := Hapl.out.trans Hlm.out
            have hL5 := Lib.hid hl5
            clear hl5
            by_cases hz : pc = 0
            · subst hz
              go_wp2_with fail
              go_roundw
              case rel => exact ⟨m + 1, _, _, by omega, by simp, hP5, hL5.out, b5⟩
              case measure =>
                show 100 - (intOf (Value.int .i64 ((m : Int) + 1))).toNat < 100 - (intOf (Value.int .i64 (m : Int))).toNat
                simp only [intOf]
                omega
            · have hzb : ((pc : Int) != 0) = true := by simp [hz]
              by_cases hr : pc ≠ 240 ∨ ob = true
              · have hR0 := Lib.hid (Hrd0.out w5 hd5 hz hr)
                have hR1 := Lib.hid (Hrd1.out w5 hd5 hz hr)
                have hzz := Lib.hid hz
                clear hz
                by_cases h24 : pc = 240
                · subst h24
                  obtain rfl : ob = true := by rcases hr with h | h; exact absurd rfl h; exact h
                  go_wp2_with fail
                  refine hR0.out.mono ?_
                  rintro e w' ⟨rfl, rfl⟩
                  go_wp2_with fail
                  refine hR1.out.mono ?_
                  rintro e w' ⟨rfl, rfl⟩
                  go_wp2_with fail
                  go_roundw
                  case rel => exact ⟨m + 1, _, _, by omega, by simp, hP5, hL5.out, b5⟩
                  case measure =>
                    show 100 - (intOf (Value.int .i64 ((m : Int) + 1))).toNat < 100 - (intOf (Value.int .i64 (m : Int))).toNat
                    simp only [intOf]
                    omega
                · have h24b : ((pc : Int) != 240) = true := by simp; omega
                  clear h24 hr
                  go_wp2_with fail
                  refine hR0.out.mono ?_
                  rintro e w' ⟨rfl, rfl⟩
                  go_wp2_with fail
                  refine hR1.out.mono ?_
                  rintro e w' ⟨rfl, rfl⟩
                  go_wp2_with fail
                  go_roundw
                  case rel => exact ⟨m + 1, _, _, by omega, by simp, hP5, hL5.out, b5⟩
                  case measure =>
                    show 100 - (intOf (Value.int .i64 ((m : Int) + 1))).toNat < 100 - (intOf (Value.int .i64 (m : Int))).toNat
                    simp only [intOf]
                    omega
              · obtain rfl : pc = 240 := by omega
                obtain rfl : ob = false := by cases ob; rfl; exact absurd (Or.inr rfl) hr
                go_wp2_with fail
                go_roundw
                case rel => exact ⟨m + 1, _, _, by omega, by simp, hP5, hL5.out, b5⟩
                case measure =>
                  show 100 - (intOf (Value.int .i64 ((m : Int) + 1))).toNat < 100 - (intOf (Value.int .i64 (m : Int))).toNat
                  simp only [intOf]
                  omega
          · have h9b : (x.a.do_.tmod 9 != 0) = true := by simp [h9]
            go_wp2_with fail
            refine hAt.out.mono ?_
            rintro e w5 ⟨⟨bb, rfl, _⟩, hB5, h25⟩
            have b5 : Below w.heap.size w w5 := below_two hba hba.size h25 ho
            go_wp2_with fail
            go_roundw
            case rel => exact ⟨m + 1, _, _, by omega, by simp, hB5, (D.act_lim x.a).trans Hlm.out, b5⟩
            case measure =>
              show 100 - (intOf (Value.int .i64 ((m : Int) + 1))).toNat < 100 - (intOf (Value.int .i64 (m : Int))).toNat
              simp only [intOf]
              omega
      · obtain rfl : m = 100 := by omega
        go_wp2_with fail
        refine (wakes_any _).mono ?_
        rintro e w9 ⟨rfl, hg9⟩
        go_wp2_with fail
        go_ret
        exact ⟨rfl, below_none hb hb.size hg9⟩
end Go.Proofs.Ytklcpckjmncdkaa
