/- THE WALK of the statement TopDelivers. -/
import Derived.Test.YtcepfhnlbnlnhaaGreatDoorDelS
import Derived.Deep.RegionHeld3
import Derived.Deep.DeepCutAuto
import Derived.Deep.QuietTactic
namespace Go.Proofs.YtcepfhnlbnlnhaaGreatDoor
set_option maxRecDepth 100000
open Go.RowKit

theorem wrap_most (k : Int) : ∃ m : Nat, 1 ≤ m ∧ m ≤ 5 ∧ 1 + max 0 k % 5 = (m : Int) :=
  ⟨(1 + max 0 k % 5).toNat, by omega, by omega, by omega⟩
section
variable {w : World}
set_option maxHeartbeats 6400000 in
theorem del_walk (v0 v1 : Value) (l0 l1 : List Int) (k : Int) (h0 : Nums w v0 l0) (h1 : Nums w v1 l1) :
    Calls Tryz.prog 3 #[v0, v1, .int .i64 k] w fun e w' => e = .returned (.bool true) ∧ w.grownBy w' none := by
  obtain ⟨A0, c0, rfl, hl0, hm0, hn0, hx0⟩ := h0
  obtain ⟨A1, c1, rfl, hl1, hm1, hn1, hx1⟩ := h1
  obtain ⟨m, hma, hmb, hmw⟩ := wrap_most k
  obtain ⟨n, hn, hn1, hn2⟩ : ∃ n : Nat, min (l0.length : Int) 40 = (n : Int) ∧ n ≤ l0.length ∧ n ≤ 40 := ⟨min l0.length 40, by omega, by omega, by omega⟩
  obtain ⟨t, ht, ht1, ht2⟩ : ∃ t : Nat, min (l1.length : Int) 300 = (t : Int) ∧ t ≤ l1.length ∧ t ≤ 300 := ⟨min l1.length 300, by omega, by omega, by omega⟩
  have hnx : max (n : Int) 0 = (n : Int) := by omega
  have htx : max (t : Int) 0 = (t : Int) := by omega
  have HX0 := Lib.hid hx0
  have HX1 := Lib.hid hx1
  clear hx0 hx1
  have hmm := @run_makeMap Tryz.prog
  go_enter Tryz.func3, Tryz.ntmps3
  go_wp2_with fail
  refine flows_any.mono ?_
  rintro e w1 ⟨rfl, hc1⟩
  have HB3 := Lib.hid (((Blk.new w 22 #[.slice A0 l0.length c0]).chg ((Chg.refl _ []).alloc (.cells #[.int .i64 k] 3)) (by simp)).chg hc1 (by simp))
  have hsz : (w.alloc (.cells #[.slice A0 l0.length c0] 22)).heap.size = w.heap.size + 1 := by simp
  have hB5 := ((Blk.new (w.alloc (.cells #[.slice A0 l0.length c0] 22)) 3 #[.int .i64 k]).chg hc1 (by simp))
  rw [hsz] at hB5
  have HB5 := Lib.hid hB5
  clear hB5 hsz
  have d5 := HB5.out.cell 0
  have f5 := HB5.out.frozen 0
  go_wp2_with fail
  clear d5 f5
  have HN := Lib.hid (HB3.out.chg ((Chg.refl w1 [w.heap.size + 1]).put ⟨w.heap.size + 1, 0, none⟩ (.inl (by simp)) (.int .i64 (m : Int))) (by simp))
  have HM := Lib.hid (show Blk _ _ _ #[.int .i64 (m : Int)] from HB5.out.put 0 (.int .i64 (m : Int)))
  have HC := Lib.hid (show Chg w (w1.setCell ⟨w.heap.size + 1, 0, none⟩ (.int .i64 (m : Int))) [] from ((((Chg.refl w []).alloc _).alloc _).trans hc1 (by simp)).put _ (.inr (by simp)) _)
  generalize w1.setCell ⟨w.heap.size + 1, 0, none⟩ (.int .i64 (m : Int)) = W1 at *
  clear HB3 HB5 hc1
  refine (out_new m hma (by omega)).mono ?_
  rintro e w2 ⟨fb, F, rfl, hO2, hF2, hc2⟩
  have HO2 := Lib.hid hO2
  have HF2 := Lib.hid hF2
  have HC2 := Lib.hid hc2
  clear hO2 hF2 hc2
  go_wp2_with fail
  refine (in_new 64 64 (by decide)).mono ?_
  rintro e w3 ⟨ib, ipb, imb, rfl, hi1, hi2, hi3, hi4, hi5, hI3, hc3⟩
  have HI3 := Lib.hid hI3
  have HC3 := Lib.hid hc3
  have HN3 := Lib.hid ((HN.out.chg HC2.out (by simp)).chg hc3 (by simp))
  have HM3 := Lib.hid ((HM.out.chg HC2.out (by simp)).chg hc3 (by simp))
  have s3 := HN3.out.lt
  have s5 := HM3.out.lt
  go_upto_region 5 with fail
  obtain ⟨pr, hpr⟩ : ∃ pr, pr = w3.heap.size + 1 := ⟨_, rfl⟩
  obtain ⟨pv, hpv⟩ : ∃ pv, pv = w3.heap.size + 1 + 1 := ⟨_, rfl⟩
  obtain ⟨W4, hW4⟩ : ∃ W4, W4 = (((w3.alloc (.map #[] 0)).alloc (.cells #[.pointer (some ⟨fb, 0, none⟩), .pointer (some ⟨ib, 0, none⟩), .slice none 0 0, .slice none 0 0, .map (some w3.heap.size)] 32)).alloc (.cells #[.pointer (some ⟨w3.heap.size + 1, 0, none⟩)] 24)) := ⟨_, rfl⟩
  rw [← hW4, ← hpv, ← hpr]
  have s7 : (((w3.alloc (.map #[] 0)).alloc (.cells #[.pointer (some ⟨fb, 0, none⟩), .pointer (some ⟨ib, 0, none⟩), .slice none 0 0, .slice none 0 0, .map (some w3.heap.size)] 32))).heap.size = pv := by simp [hpv]
  have s8 : W4.heap.size = pv + 1 := by simp [hW4, hpv]
  have hpB : Blk W4 pr 32 #[.pointer (some ⟨fb, 0, none⟩), .pointer (some ⟨ib, 0, none⟩), .slice none 0 0, .slice none 0 0, .map (some w3.heap.size)] := by
    have := (Blk.new (w3.alloc (.map #[] 0)) 32 #[.pointer (some ⟨fb, 0, none⟩), .pointer (some ⟨ib, 0, none⟩), .slice none 0 0, .slice none 0 0, .map (some w3.heap.size)]).chg ((Chg.refl _ []).alloc (.cells #[.pointer (some ⟨w3.heap.size + 1, 0, none⟩)] 24)) (by simp)
    rw [show (w3.alloc (.map #[] 0)).heap.size = pr by simp [hpr]] at this
    rw [hW4]
    exact this
  have hpV : Blk W4 pv 24 #[.pointer (some ⟨pr, 0, none⟩)] := by
    have := Blk.new ((w3.alloc (.map #[] 0)).alloc (.cells #[.pointer (some ⟨fb, 0, none⟩), .pointer (some ⟨ib, 0, none⟩), .slice none 0 0, .slice none 0 0, .map (some w3.heap.size)] 32)) 24 #[.pointer (some ⟨w3.heap.size + 1, 0, none⟩)]
    rw [s7, ← hpr] at this
    rw [hW4, ← hpr]
    exact this
  have hC34 : Chg w3 W4 [] := by
    rw [hW4]
    exact (((Chg.refl w3 []).alloc _).alloc _).alloc _
  have hC14 : Chg w W4 [] := ((HC.out.trans HC2.out (by simp)).trans HC3.out (by simp)).trans hC34 (by simp)
  have HO4 := Lib.hid ((HO2.out.chg HC3.out (by simp)).chg hC34 (by simp))
  have HI4 := Lib.hid (HI3.out.chg hC34 (by simp) (by simp) (by simp))
  have HG4 := Lib.hid (show GotAt W4 w3.heap.size [] fun _ => 0 by
    rw [hW4]
    exact (GotAt.made w3).chg (((Chg.refl _ []).alloc _).alloc _) (by simp))
  have HFlt := Lib.hid HO2.out.lt
  have HIlt := Lib.hid (And.intro HI3.out.blk.lt (And.intro HI3.out.pool.blk.lt (And.intro HI3.out.pool.set.lt HI3.out.pool.ne)))
  have HN4 := Lib.hid (HN3.out.chg hC34 (by simp))
  have HM4 := Lib.hid (HM3.out.chg hC34 (by simp))
  have d4 : W4.cell? ⟨w.heap.size, 0, none⟩ = some (.slice A0 l0.length c0) := HN4.out.cell 0
  have f4 := HN4.out.frozen 0
  have HPB := Lib.hid hpB
  have HPV := Lib.hid hpV
  have HC14 := Lib.hid hC14
  have HPr := Lib.hid hpr
  have HPv := Lib.hid hpv
  have S8 := Lib.hid s8
  clear hW4 hpB hpV hC34 hC14 HN3 HM3 HO2 HI3 s7 hpr hpv s8
  go_upto_region 9 with fail
  obtain ⟨nv, hnv⟩ : ∃ nv, nv = W4.heap.size := ⟨_, rfl⟩
  have hnB := Blk.new (W4.setCell ⟨w.heap.size, 0, none⟩ (.slice A0 n c0)) 3 #[.int .i64 0]
  have hcP : Chg W4 ((W4.setCell ⟨w.heap.size, 0, none⟩ (.slice A0 n c0)).alloc (.cells #[.int .i64 0] 3)) [w.heap.size] := ((Chg.refl W4 _).put _ (.inl (by simp)) _).alloc _
  obtain ⟨W9, hW9⟩ : ∃ W9, W9 = (W4.setCell ⟨w.heap.size, 0, none⟩ (.slice A0 n c0)).alloc (.cells #[.int .i64 0] 3) := ⟨_, rfl⟩
  have hc9 := hcP
  rw [show (W4.setCell ⟨w.heap.size, 0, none⟩ (.slice A0 n c0)).heap.size = nv by simp [hnv]] at hnB
  rw [← hW9] at hnB hc9 ⊢
  rw [← hnv]
  have hqB : Blk W9 w.heap.size 22 #[.slice A0 n c0] := by
    rw [hW9]
    exact (show Blk _ _ _ #[.slice A0 n c0] from HN4.out.put 0 (.slice A0 n c0)).chg ((Chg.refl _ []).alloc _) (by simp)
  obtain ⟨q, hqd⟩ : ∃ q : Nat → Nat, ∀ i, (q i : Int) = 1 + max 0 (l0.getD i 0) % 2 := ⟨fun i => (1 + max 0 (l0.getD i 0) % 2).toNat, fun i => by dsimp only; omega⟩
  have s8 := S8.out
  have hpv := HPv.out
  have hpr := HPr.out
  have hg := HM.out.lt
  have hc2s := HC2.out.size
  obtain ⟨hib, hipb, himb, hine⟩ := HIlt.out
  have hFa : ∀ k ∈ F, w.heap.size + 1 < k ∧ k < w2.heap.size := fun k hk => ⟨by have := HF2.out k hk; omega, HFlt.out k hk⟩
  have hapart : ∀ b ∈ [pr, ib, ipb, imb, w3.heap.size] ++ F, w.heap.size ≤ b ∧ b ≠ nv ∧ b ≠ w.heap.size ∧ b ≠ pv ∧ b ≠ w.heap.size + 1 := fun b hb => by
    rcases List.mem_append.1 hb with hb | hb
    · simp only [List.mem_cons, List.not_mem_nil, or_false] at hb
      omega
    · have := hFa b hb
      omega
  have hG : Good w q ⟨pr, nv, w.heap.size, pv, w.heap.size + 1, n, m, A0, c0⟩ := ⟨fun i => by have := hqd i; omega, hn2, hma, by show m ≤ 64; omega, fun j hj => by
      have hj0 : j < l0.length := by have : j < n := hj; omega
      obtain ⟨-, b, off, hA, hcl⟩ := HX0.out j hj0
      refine ⟨b, off, l0[j], hA, hcl, ?_⟩
      rw [hqd j, List.getD_eq_getElem?_getD, List.getElem?_eq_getElem hj0]
      rfl, ⟨by show w.heap.size ≤ nv; omega, Nat.le_refl _, by show w.heap.size ≤ pv; omega, Nat.le_succ _⟩, ⟨by show nv ≠ w.heap.size; omega, by show nv ≠ pv; omega, by show nv ≠ w.heap.size + 1; omega⟩⟩
  have hc09 : Chg w W9 [] := HC14.out.trans hc9 fun b hb => by
    obtain rfl : b = w.heap.size := by simpa using hb
    exact .inr (Nat.le_refl _)
  have hpw : pv ∉ [w.heap.size] := by simp only [List.mem_singleton]; omega
  have hE : Env w ⟨pr, nv, w.heap.size, pv, w.heap.size + 1, n, m, A0, c0⟩ ([pr, ib, ipb, imb, w3.heap.size] ++ F) 0 W9 := ⟨hc09, hnB, hqB.cell 0, (HPV.out.chg hc9 hpw).cell 0, (HM4.out.chg hc9 (by simp)).cell 0, hapart⟩
  have hnw : ∀ b ∈ [pr, ib, ipb, imb, w3.heap.size] ++ F, b ∉ [w.heap.size] := fun b hb => by simpa using (hapart b hb).2.2.1
  have hFB := first_breaks hG (HPB.out.chg hc9 (hnw _ (by simp))) (HO4.out.chg hc9 fun k hk => hnw k (List.mem_append_right _ hk)) (HI4.out.chg hc9 (hnw _ (by simp)) (hnw _ (by simp)) (hnw _ (by simp))) (HG4.out.chg hc9 (hnw _ (by simp)))
    (by simp only [List.nodup_cons, List.mem_cons, List.not_mem_nil, or_false, not_or, not_false_eq_true, List.nodup_nil, and_true]; omega)
    (fun k hk => by have := hFa k hk; simp only [List.mem_cons, List.not_mem_nil, or_false, not_or]; omega) hE
  have HG := Lib.hid hG
  have HFB := Lib.hid hFB
  clear hG hFB hE hc09 hpw hnw hapart hFa hib hipb himb hine hg hc2s s8 hpv hpr hqB hnB hc9 hcP hW9 hnv HPB HPV HO4 HI4 HG4 HN4 HM4 HIlt HFlt HF2 HC2 HC3 HC14 HM HN HC HPr HPv S8 d4 f4 hmm s3 s5 hi1 hi2 hi3 hi4 hi5
  go_wp2_with fail
  refine HFB.out.mono ?_
  rintro e w4 ⟨rfl, hH⟩
  have HH := Lib.hid hH
  clear hH
  go_wp2_with fail
  go_loopw [43] (fun iv wr => ∃ (i : Nat) (s : St), i ≤ t ∧ iv = .int .i64 (i : Int) ∧ Held w q ⟨pr, nv, w.heap.size, pv, w.heap.size + 1, n, m, A0, c0⟩ i s wr) (fun iv _ => t - (intOf iv).toNat)
  case atStart => exact ⟨0, _, Nat.zero_le _, rfl, HH.out⟩
  case round =>
    obtain ⟨i, s, hi, rfl, hh⟩ := hrel
    have HS := Lib.hid hh
    by_cases hlt : i < t
    · have i1 : (i : Int) < (t : Int) := by omega
      obtain ⟨-, b, off, rfl, hz0⟩ := HX1.out i (by omega)
      have hpd : wr.cell? ⟨pv, 0, none⟩ = some (.pointer (some ⟨pr, 0, none⟩)) := by
        obtain ⟨P, p, h⟩ := hh
        exact h.env.p
      have hz : wr.cell? ⟨b, off + i, none⟩ = some (.int .i64 l1[i]) := by
        obtain ⟨P, p, h⟩ := hh
        exact h.env.chg.cell hz0 (by simp)
      clear hz0 hh
      generalize l1[i] = z at *
      obtain ⟨d, hd⟩ : ∃ d, max 0 z % 8 = d := ⟨_, rfl⟩
      have hd8 : d = 0 ∨ d = 1 ∨ d = 2 ∨ d = 3 ∨ d = 4 ∨ d = 5 ∨ d = 6 ∨ d = 7 := by omega
      rcases hd8 with rfl | rfl | rfl | rfl | rfl | rfl | rfl | rfl
      · go_wp2_with fail
        refine (HS.out.send HG.out).mono ?_
        rintro e w5 ⟨rfl, hh⟩
        have HS5 := Lib.hid (hh.mono (Nat.le_succ i))
        clear hh
        go_wp2_with fail
        exact ⟨⟨i + 1, _, by omega, by go_num, HS5.out⟩, by simp [intOf]; omega⟩
      · go_wp2_with fail
        refine (HS.out.send HG.out).mono ?_
        rintro e w5 ⟨rfl, hh⟩
        have HS5 := Lib.hid (hh.mono (Nat.le_succ i))
        clear hh
        go_wp2_with fail
        exact ⟨⟨i + 1, _, by omega, by go_num, HS5.out⟩, by simp [intOf]; omega⟩
      · go_wp2_with fail
        refine (HS.out.move HG.out (by omega)).mono ?_
        rintro e w5 ⟨rfl, hh⟩
        have HS5 := Lib.hid hh
        clear hh
        go_wp2_with fail
        exact ⟨⟨i + 1, _, by omega, by go_num, HS5.out⟩, by simp [intOf]; omega⟩
      · go_wp2_with fail
        refine (HS.out.move HG.out (by omega)).mono ?_
        rintro e w5 ⟨rfl, hh⟩
        have HS5 := Lib.hid hh
        clear hh
        go_wp2_with fail
        exact ⟨⟨i + 1, _, by omega, by go_num, HS5.out⟩, by simp [intOf]; omega⟩
      · go_wp2_with fail
        refine (HS.out.move HG.out (by omega)).mono ?_
        rintro e w5 ⟨rfl, hh⟩
        have HS5 := Lib.hid hh
        clear hh
        go_wp2_with fail
        exact ⟨⟨i + 1, _, by omega, by go_num, HS5.out⟩, by simp [intOf]; omega⟩
      · go_wp2_with fail
        refine (HS.out.answer HG.out).mono ?_
        rintro e w5 ⟨rfl, hh⟩
        have HS5 := Lib.hid (hh.mono (Nat.le_succ i))
        clear hh
        go_wp2_with fail
        exact ⟨⟨i + 1, _, by omega, by go_num, HS5.out⟩, by simp [intOf]; omega⟩
      · go_wp2_with fail
        refine (HS.out.answer HG.out).mono ?_
        rintro e w5 ⟨rfl, hh⟩
        have HS5 := Lib.hid (hh.mono (Nat.le_succ i))
        clear hh
        go_wp2_with fail
        exact ⟨⟨i + 1, _, by omega, by go_num, HS5.out⟩, by simp [intOf]; omega⟩
      · go_wp2_with fail
        refine (HS.out.breaks HG.out).mono ?_
        rintro e w5 ⟨rfl, hh⟩
        have HS5 := Lib.hid (hh.mono (Nat.le_succ i))
        clear hh
        go_wp2_with fail
        exact ⟨⟨i + 1, _, by omega, by go_num, HS5.out⟩, by simp [intOf]; omega⟩
    · obtain rfl : i = t := by omega
      have i1 : ¬ (i : Int) < (i : Int) := by omega
      have HS0 := Lib.hid (show Held w q ⟨pr, nv, w.heap.size, pv, w.heap.size + 1, n, m, A0, c0⟩ 300 s wr from hh.mono (by omega))
      clear hh HS HH
      go_wp2_with fail
      go_loopw [] (fun wr => ∃ s : St, Held w q ⟨pr, nv, w.heap.size, pv, w.heap.size + 1, n, m, A0, c0⟩ 300 s wr) (fun wr => n - (intOf ((wr.cell? ⟨nv, 0, none⟩).getD (.bool false))).toNat)
      case atStart => exact ⟨s, HS0.out⟩
      case round =>
        clear HS0 s
        obtain ⟨s, hh⟩ := hrel
        have hpn : wr.cell? ⟨nv, 0, none⟩ = some (.int .i64 (s.next : Int)) := by
          obtain ⟨P, p, h⟩ := hh
          exact h.env.next.cell 0
        have hpq : wr.cell? ⟨w.heap.size, 0, none⟩ = some (.slice A0 n c0) := by
          obtain ⟨P, p, h⟩ := hh
          exact h.env.qos
        have hsn : s.next ≤ n := by
          obtain ⟨P, p, h⟩ := hh
          exact h.inv.nn
        have HS := Lib.hid hh
        clear hh
        by_cases hlt : s.next < n
        · have i1 : (s.next : Int) < (n : Int) := by omega
          go_wp2_with fail
          refine (HS.out.send HG.out).mono ?_
          rintro e w5 ⟨rfl, hh⟩
          have hse : (s.sent n m).next = s.next + 1 := by
            unfold St.sent
            rw [if_pos hlt]
            rfl
          have hp5 : w5.cell? ⟨nv, 0, none⟩ = some (.int .i64 ((s.next + 1 : Nat) : Int)) := by
            obtain ⟨P, p, h⟩ := hh
            have := h.env.next.cell 0
            rw [← hse]
            exact this
          have HS5 := Lib.hid hh
          have HP5 := Lib.hid hp5
          clear hh hp5 hse
          go_wp2_with fail
          refine ⟨⟨_, HS5.out⟩, ?_⟩
          rw [HP5.out, hpn]
          simp only [Option.getD_some, intOf]
          omega
        · have i1 : ¬ (s.next : Int) < (n : Int) := by omega
          have hne : s.next = n := by omega
          go_wp2_with fail
          refine (HS.out.breaks HG.out).mono ?_
          rintro e w5 ⟨rfl, hh⟩
          have HS5 := Lib.hid hh
          have hbn : (s.breaks m).next = n := hne
          have HB := Lib.hid hbn
          clear hh hbn
          generalize s.breaks m = s5 at *
          clear HS hpn hpq hsn
          go_wp2_with fail
          go_loopw [80] (fun iv wr => ∃ (r : Nat) (s : St), iv = .int .i64 (r : Int) ∧ Held w q ⟨pr, nv, w.heap.size, pv, w.heap.size + 1, n, m, A0, c0⟩ (300 + r) s wr ∧ s.next = n ∧ s.far n + r ≤ 160) (fun iv _ => 1000 - (intOf iv).toNat)
          case atStart => exact ⟨0, s5, rfl, HS5.out, HB.out, by have := far_most s5 n; omega⟩
          case round =>
            clear HS5 HB s5
            obtain ⟨r, s6, rfl, hh, hn6, hfar⟩ := hrel
            have r1 : (r : Int) < 1000 := by omega
            obtain ⟨P, p, hat⟩ := id hh
            have hpp : wr.cell? ⟨pv, 0, none⟩ = some (.pointer (some ⟨pr, 0, none⟩)) := hat.env.p
            have hpq : wr.cell? ⟨w.heap.size, 0, none⟩ = some (.slice A0 n c0) := hat.env.qos
            have hint := hat.inv
            obtain ⟨fb6, ib6, ipb6, imb6, gb6, F6, At, ct, Ab, cb, q0, q1, q2, q3, q4, hO6, hI6, hG6⟩ := hat.parts
            have hfl := hat.inv.few
            have hpl := hat.inv.perm.length_eq
            rw [List.length_append] at hpl
            simp only at hfl q0 q1 q2 q3 q4
            obtain ⟨la, hla⟩ : ∃ a, s6.there.length = a := ⟨_, rfl⟩
            obtain ⟨lb, hlb⟩ : ∃ b, s6.back.length = b := ⟨_, rfl⟩
            rw [hla] at q2
            rw [hlb] at q3
            by_cases hz : la + lb = 0
            · obtain rfl : la = 0 := by omega
              obtain rfl : lb = 0 := by omega
              have HAT := Lib.hid hat
              have HN6 := Lib.hid hn6
              have HLA := Lib.hid hla
              have HLB := Lib.hid hlb
              have HO6 := Lib.hid hO6
              have HI6 := Lib.hid hI6
              have HG6 := Lib.hid hG6
              clear hh hint hO6 hI6 hG6 hfl hpl hla hlb hat hn6
              go_wp2_with fail
              go_quiet (fail)
              go_wp2_with fail
              have hcB : Chg wr (wr.drewN nq) [] := (Chg.refl wr []).drewN nq
              generalize wr.drewN nq = WB at *
              obtain ⟨e1, e2, e3, e4, e5⟩ := HAT.out.rest HG.out HN6.out (List.eq_nil_of_length_eq_zero HLA.out) (List.eq_nil_of_length_eq_zero HLB.out)
              simp only at e4 e5
              have HKeep := Lib.hid (show ∀ W, Chg wr W [] → W.cell? ⟨pv, 0, none⟩ = some (.pointer (some ⟨pr, 0, none⟩)) ∧ W.cell? ⟨pr, 0, none⟩ = some (.pointer (some ⟨fb6, 0, none⟩)) ∧ W.cell? ⟨pr, 1, none⟩ = some (.pointer (some ⟨ib6, 0, none⟩)) ∧ W.cell? ⟨pr, 4, none⟩ = some (.map (some gb6)) ∧ W.cell? ⟨w.heap.size, 0, none⟩ = some (.slice A0 n c0) ∧ (∀ ty, (Builtin.len_ #[29] ty #[.map (some gb6)]).run Tryz.prog W = .ok (.int .i64 (n : Int)) W)
                from fun W hc => ⟨hc.cell hpp (by simp), hc.cell q0 (by simp), hc.cell q1 (by simp), hc.cell q4 (by simp), hc.cell hpq (by simp), fun ty => by rw [← e4]; exact (HG6.out.chg hc (by simp)).len ty⟩)
              have HE := Lib.hid e5
              have HC0 := Lib.hid (hcB.drew)
              have hO0 := HO6.out.chg HC0.out (by simp)
              have HO0 := Lib.hid hO0
              obtain ⟨k0, k1, k2, k3, k4, k5⟩ := HKeep.out WB hcB
              have tA := HKeep.out WB.drew HC0.out
              clear hpp hpq q0 q1 q2 q3 q4 hO0 hcB e4 e5
              go_region_held3 (fun W => W.cell? ⟨pv, 0, none⟩ = some (.pointer (some ⟨pr, 0, none⟩)) ∧ W.cell? ⟨pr, 0, none⟩ = some (.pointer (some ⟨fb6, 0, none⟩)) ∧ W.cell? ⟨pr, 1, none⟩ = some (.pointer (some ⟨ib6, 0, none⟩)) ∧ W.cell? ⟨pr, 4, none⟩ = some (.map (some gb6)) ∧ W.cell? ⟨w.heap.size, 0, none⟩ = some (.slice A0 n c0) ∧ (∀ ty, (Builtin.len_ #[29] ty #[.map (some gb6)]).run Tryz.prog W = .ok (.int .i64 (n : Int)) W))
                (first | assumption | exact ⟨by assumption, by assumption, by assumption, by assumption, by assumption, by assumption⟩)
                (first
                  | (go_at_call 14; refine (flights_any HO0.out e1).mono ?_; rintro e w5 ⟨⟨A5, c5, rfl⟩, hc5⟩; have HC5 := Lib.hid (HC0.out.trans hc5 (by simp)); have tB := HKeep.out _ HC5.out; have hO5 := HO6.out.chg HC5.out (by simp); have HO5 := Lib.hid hO5; clear hc5 hO5)
                  | (go_at_call 15; refine (waiting_any HO5.out e2).mono ?_; rintro e w6 ⟨⟨A6, c6, rfl⟩, hc6⟩; have HC6 := Lib.hid (HC5.out.trans hc6 (by simp)); have tC := HKeep.out _ HC6.out; have hI5 := HI6.out.chg HC6.out (by simp) (by simp) (by simp); have HI5 := Lib.hid hI5; clear hc6 hI5)
                  | (go_at_call 16; refine (open_any HI5.out (by rw [e3]; simp)).mono ?_; rw [e3]; rintro e w7 ⟨A7, c7, rfl, hc7⟩; have HC7 := Lib.hid (HC6.out.trans hc7 (by simp)); have tD := HKeep.out _ HC7.out; clear hc7))
              go_wp2_with fail
              clear k0 k1 k2 k3 k4 k5 tA tB tC tD
              obtain ⟨wQ, rfl⟩ : ∃ wQ : World, wQ = wr := ⟨_, rfl⟩
              have HLook := Lib.hid (show ∀ W, Chg wQ W [] → ∀ j, j < n → W.cell? ⟨pv, 0, none⟩ = some (.pointer (some ⟨pr, 0, none⟩)) ∧ W.cell? ⟨pr, 4, none⟩ = some (.map (some gb6)) ∧ (Instr.lookup 29 (.map (some gb6)) (.string (keyB j)) false).run Tryz.prog W = .ok (.int .i64 (p.g j : Int)) W
                from fun W hc j hj => ⟨(HKeep.out W hc).1, (HKeep.out W hc).2.2.2.1, (HG6.out.chg hc (by simp)).look (by omega)⟩)
              go_loopw [138] (fun iv wr => ∃ j : Nat, j ≤ n ∧ iv = .int .i64 (j : Int) ∧ Chg wQ wr []) (fun iv _ => n - (intOf iv).toNat)
              case atStart => exact ⟨0, Nat.zero_le _, rfl, HC7.out⟩
              case round =>
                obtain ⟨j, hj, rfl, hcx⟩ := hrel
                by_cases hlt : j < n
                · have i1 : (j : Int) < (n : Int) := by omega
                  obtain ⟨b, off, z, hA, hz, hqz⟩ := HG.out.cells j hlt
                  simp only at hA
                  subst hA
                  have hgj := HE.out j hlt
                  have hcA : Chg wQ (wr.alloc (.cells #[.int .u8 (IntKind.u8.wrap (j : Int))] 5)).drew [] := (hcx.alloc _).drew
                  have hz5 := (HAT.out.env.chg.trans hcA (by simp)).cell hz (by simp)
                  have hq5 := (HKeep.out _ hcA).2.2.2.2.1
                  have TB := Lib.hid (HLook.out wr.drew hcx.drew j hlt)
                  have TA := Lib.hid (HLook.out _ hcA j hlt)
                  have HCA := Lib.hid hcA
                  have HQZ := Lib.hid hqz
                  have HGJ := Lib.hid hgj
                  have HZ5 := Lib.hid hz5
                  have HQ5 := Lib.hid hq5
                  have hconv : (convert 36 9 (.slice (some ⟨wr.heap.size, 0, none⟩) 1 1)).run Tryz.prog ((wr.alloc (.cells #[.int .u8 (IntKind.u8.wrap (j : Int))] 5)).drew) = .ok (.string (keyB j)) ((wr.alloc (.cells #[.int .u8 (IntKind.u8.wrap (j : Int))] 5)).drew) := by
                    rw [wrap_byte j (by omega)]
                    exact conv_one wr.drew (UInt8.ofNat j)
                  clear hcA hqz hgj hz5 hq5 hz
                  go_wp2_with fail
                  refine wp_region_held_drew (S := (fun W => W.cell? ⟨pv, 0, none⟩ = some (.pointer (some ⟨pr, 0, none⟩)) ∧ W.cell? ⟨pr, 4, none⟩ = some (.map (some gb6)) ∧ (Instr.lookup 29 (.map (some gb6)) (.string (keyB j)) false).run Tryz.prog W = .ok (.int .i64 (p.g j : Int)) W)) (by kernel_rfl) ?_ (fun hHeld => ?_)
                  · exact TB.out
                  refine' wpAnyH_take (i := 0) (v := _) rfl (by kernel_rfl) (by kernel_rfl) (by kernel_rfl) (fun _ _ _ h => h) (Or.inl ⟨by rfl, ?hy0⟩) (by assumption) ?rest0
                  case hy0 =>
                    intro w hSw
                    try dsimp only at hSw
                    go_simp
                    try with_reducible rfl
                  change wpAnyH _ _ _ _ _ _ _ (Act.put _ (some 141) _) _
                  simp only [Act.put, List.setIfInBounds_toArray, List.set_cons_zero, List.set_cons_succ]
                  refine' wpAnyH_take (i := 1) (v := _) rfl (by kernel_rfl) (by kernel_rfl) (by kernel_rfl) (fun _ _ _ h => h) (Or.inl ⟨by rfl, ?hy1⟩) (by assumption) ?rest1
                  case hy1 =>
                    intro w hSw
                    try dsimp only at hSw
                    go_simp
                    try with_reducible rfl
                  change wpAnyH _ _ _ _ _ _ _ (Act.put _ (some 142) _) _
                  simp only [Act.put, List.setIfInBounds_toArray, List.set_cons_zero, List.set_cons_succ]
                  refine' wpAnyH_take (i := 2) (v := _) rfl (by kernel_rfl) (by kernel_rfl) (by kernel_rfl) (fun _ _ _ h => h) (Or.inl ⟨by rfl, ?hy2⟩) (by assumption) ?rest2
                  case hy2 =>
                    intro w hSw
                    try dsimp only at hSw
                    go_simp
                    try with_reducible rfl
                  change wpAnyH _ _ _ _ _ _ _ (Act.put _ (some 143) _) _
                  simp only [Act.put, List.setIfInBounds_toArray, List.set_cons_zero, List.set_cons_succ]
                  refine' wpAnyH_take (i := 3) (v := _) rfl (by kernel_rfl) (by kernel_rfl) (by kernel_rfl) (fun _ _ _ h => h) (Or.inl ⟨by rfl, ?hy3⟩) (by assumption) ?rest3
                  case hy3 =>
                    intro w hSw
                    try dsimp only at hSw
                    go_simp
                    try with_reducible rfl
                  change wpAnyH _ _ _ _ _ _ _ (Act.put _ (some 144) _) _
                  simp only [Act.put, List.setIfInBounds_toArray, List.set_cons_zero, List.set_cons_succ]
                  refine' wpAnyH_take (i := 4) (v := _) rfl (by kernel_rfl) (by kernel_rfl) (by kernel_rfl) (fun _ _ _ h => h) (Or.inl ⟨by rfl, ?hy4⟩) (by assumption) ?rest4
                  case hy4 =>
                    intro w hSw
                    try dsimp only at hSw
                    go_simp
                    try with_reducible rfl
                  change wpAnyH _ _ _ _ _ _ _ (Act.put _ (some 145) _) _
                  simp only [Act.put, List.setIfInBounds_toArray, List.set_cons_zero, List.set_cons_succ]
                  refine' wpAnyH_take (i := 5) (v := _) rfl (by kernel_rfl) (by kernel_rfl) (by kernel_rfl) (fun _ _ _ h => h) (Or.inl ⟨by rfl, ?hy5⟩) (by assumption) ?rest5
                  case hy5 =>
                    intro w hSw
                    try dsimp only at hSw
                    go_simp
                    try with_reducible rfl
                  change wpAnyH _ _ _ _ _ _ _ (Act.put _ (some 146) _) _
                  simp only [Act.put, List.setIfInBounds_toArray, List.set_cons_zero, List.set_cons_succ]
                  refine wpAnyH_ready (rs := [6]) (by kernel_rfl) (by simp) ?_
                  refine AllReadyH.cons rfl (fun K hK => ?_) AllReadyH.nil
                  go_simp
                  refine hK.out _ _ ?_ (fun hHeldA => ?_)
                  · exact TA.out
                  clear hK K
                  try simp only [Act.put, List.setIfInBounds_toArray, List.set_cons_zero, List.set_cons_succ]
                  refine wpAnyH_ready (rs := [7]) (by kernel_rfl) (by simp) ?_
                  refine AllReadyH.cons rfl (fun K hK => ?_) AllReadyH.nil
                  go_simp
                  refine hK.out _ _ ?_ (fun hHeldB => ?_)
                  · exact TA.out
                  clear hK K
                  try simp only [Act.put, List.setIfInBounds_toArray, List.set_cons_zero, List.set_cons_succ]
                  refine' wpAnyH_take (i := 8) (v := _) rfl (by kernel_rfl) (by kernel_rfl) (by kernel_rfl) (fun _ _ _ h => h) (Or.inl ⟨by rfl, ?hy8⟩) (by assumption) ?rest8
                  case hy8 =>
                    intro w hSw
                    try dsimp only at hSw
                    go_simp
                    try with_reducible rfl
                  change wpAnyH _ _ _ _ _ _ _ (Act.put _ (some 149) _) _
                  simp only [Act.put, List.setIfInBounds_toArray, List.set_cons_zero, List.set_cons_succ]
                  refine' wpAnyH_take (i := 9) (v := _) rfl (by kernel_rfl) (by kernel_rfl) (by kernel_rfl) (fun _ _ _ h => h) (Or.inl ⟨by rfl, ?hy9⟩) (by assumption) ?rest9
                  case hy9 =>
                    intro w hSw
                    try dsimp only at hSw
                    go_simp
                    try with_reducible rfl
                  change wpAnyH _ _ _ _ _ _ _ (Act.put _ (some 15) _) _
                  simp only [Act.put, List.setIfInBounds_toArray, List.set_cons_zero, List.set_cons_succ]
                  refine wpAnyH_done (by kernel_rfl) ?_ _
                  clear hHeld hHeldA hHeldB hconv
                  generalize (wr.alloc (.cells #[.int .u8 (IntKind.u8.wrap (j : Int))] 5)).drew = wE at *
                  have hz5 := HZ5.out
                  have hq5 := HQ5.out
                  have hqz := HQZ.out
                  obtain ⟨hg1, hg2⟩ := HGJ.out
                  have HGS := HG.out.qs j
                  have g1 : ¬ (p.g j : Int) < 1 := by omega
                  rcases HGS with hq1 | hq2
                  · have ho : max 0 z % 2 = 0 := by omega
                    clear hqz hg1 hg2
                    go_wp2_with fail
                    exact ⟨⟨j + 1, by omega, by go_num, HCA.out⟩, by simp [intOf]; omega⟩
                  · have ho : max 0 z % 2 = 1 := by omega
                    have hg3 := hg2 hq2
                    clear hqz hg1 hg2
                    go_wp2_with fail
                    exact ⟨⟨j + 1, by omega, by go_num, HCA.out⟩, by simp [intOf]; omega⟩
                · have i1 : ¬ (j : Int) < (n : Int) := by omega
                  have HCX := Lib.hid hcx
                  clear hcx
                  go_wp2_with fail
                  go_ret
                  exact ⟨rfl, (HAT.out.env.chg.trans HCX.out (by simp)).new⟩
            · have hz1 : ¬ ((la : Int) + (lb : Int) = 0) := by omega
              have hab : la + lb ≤ 64 := by omega
              have hfr := far_round hint HG.out.qs (m := m) (by omega)
              have HS6 := Lib.hid hh
              have HFR := Lib.hid hfr
              have HN6 := Lib.hid hn6
              clear hh hint hO6 hI6 hG6 hfl hpl hla hlb hat hfr hn6
              go_wp2_with fail
              go_quiet (fail)
              go_wp2_with fail
              refine ((HS6.out.chg ((Chg.refl wr []).drewN nq)).move HG.out (by omega)).mono ?_
              rintro e w7 ⟨rfl, hh⟩
              have hpp7 : w7.cell? ⟨pv, 0, none⟩ = some (.pointer (some ⟨pr, 0, none⟩)) := by
                obtain ⟨P, p, h⟩ := hh
                exact h.env.p
              have HS7 := Lib.hid hh
              clear hh
              go_wp2_with fail
              refine (HS7.out.answer HG.out).mono ?_
              rintro e w8 ⟨rfl, hh⟩
              have HS8 := Lib.hid hh
              clear hh
              go_wp2_with fail
              have hfr := HFR.out
              have hn6 := HN6.out
              exact ⟨⟨r + 1, _, by go_num, HS8.out, by rw [answer_next, move_next]; exact hn6, by omega⟩, by simp [intOf]; omega⟩
end
end Go.Proofs.YtcepfhnlbnlnhaaGreatDoor
