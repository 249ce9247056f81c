/- THE WALK of the statement TopSums. -/
import Derived.Test.YtklcpckjmncdkaaGreatDoorTopSums0
namespace Go.Proofs.YtklcpckjmncdkaaGreatDoor
set_option maxRecDepth 100000
open Go.RowKit

section
variable {w : World}
set_option maxHeartbeats 12800000 in
theorem sums_walk (hH : Hand w) (v0 : Value) (l0 : List AddW) (hv0 : Adds w v0 l0) (v1 : Value) (l1 : List CutW) (hv1 : Cuts w v1 l1) :
    Calls Tryz.prog 3 #[v0, v1] w fun e w' => e = .returned (.bool true) ∧ w.grownBy w' none := by
  have h0 := Hand.lt hH
  have hv0' := hv0
  have hv1' := hv1
  obtain ⟨A0, c0, rfl, hc0, hm0, _⟩ := hv0'
  obtain ⟨A1, c1, rfl, hc1, hm1, _⟩ := hv1'
  have H0 := Lib.hid (fun W => new_any 1048576 W)
  have HK := Lib.hid (keeps_any hH)
  obtain ⟨m0, hq0, hq0a, hq0b⟩ : ∃ m : Nat, min (l0.length : Int) 60 = (m : Int) ∧ m ≤ 60 ∧ m ≤ l0.length := ⟨min l0.length 60, by omega, by omega, by omega⟩
  obtain ⟨m1, hq1, hq1a, hq1b⟩ : ∃ m : Nat, min (l1.length : Int) 6 = (m : Int) ∧ m ≤ 6 ∧ m ≤ l1.length := ⟨min l1.length 6, by omega, by omega, by omega⟩
  have hz0 : max (m0 : Int) 0 = (m0 : Int) := by omega
  have hz1 : max (m1 : Int) 0 = (m1 : Int) := by omega
  have hx0 : (m0 : Int) ≤ (c0 : Int) := by omega
  have hx1 : (m1 : Int) ≤ (c1 : Int) := by omega
  have i64z : I64 0 := by unfold I64; omega
  have hmm := @run_makeMap Tryz.prog
  go_enter Tryz.func3, Tryz.ntmps3
  go_wp2_with fail
  refine HK.out.mono ?_
  rintro e w1 ⟨rfl, hk1⟩
  go_wp2_with fail
  refine (H0.out _).mono ?_
  rintro e w2 ⟨g, rfl, hgw, hd2, hk2⟩
  have hg2 := only_trans hk1 hk2
  have hg0 : 0 < g := by have := hk1.size; omega
  go_wp2_with fail
  go_region
  have hgW2 := only_drew hg2
  generalize hW2 : w2.drew = W2 at *
  go_wp2_with (refine wpList_mset (by rfl) _ _ _ (.inr rfl) W2.heap.size 0 [] 0 rfl rfl rfl (MSet.made W2) (by unfold maxLen; omega) i64z ?_; intro wm hms hgm)
  have hgW3 : W2.grownBy wm none := grown_own (only_alloc (only_refl W2 none) _) hgm (Nat.le_refl _)
  have hgM := only_trans hgW2 hgW3
  have hdM : DiskAt wm g (Dk.new 1048576) := hd2.grown (only_trans (hW2 ▸ only_drew (only_refl w2 none)) hgW3)
  have hgm2 : g < W2.heap.size := by have := hd2.lt; have : W2.heap.size = w2.heap.size := by rw [← hW2]; rfl
                                     omega
  have hwm2 := hgW2.size
  have hgl : w.heap.size ≤ g := Nat.le_trans hk1.size hgw
  have hv0m : Adds w (.slice A0 m0 c0) (l0.take m0) := hv0.take hq0b
  have hl0m : (l0.take m0).length = m0 := by rw [List.length_take]; omega
  clear hgm hgW2 hd2 hk1 hk2 hg2 hW2 hgW3
  go_loopw [0, 6, 7, 8] (fun sv mv nv kv wr => ∃ (l : List AddW) (k i mb nM : Nat) (z : Int) (M : List Int) (D : Dk), Adds w sv l ∧ l.length + i ≤ 60 ∧ mv = .map (some mb) ∧ g < mb ∧ w.heap.size ≤ mb ∧ MSet wr mb nM M ∧ nM ≤ 1 + i ∧ nv = .int .i64 z ∧ kv = .int .i64 (k : Int) ∧ k ≤ m1 + 1 ∧ DiskAt wr g D ∧ HeadS D.on M (k + i) i ∧ w.grownBy wr none)
    (fun _ _ _ kv _ => m1 + 2 - (intOf kv).toNat)
  case atStart => exact ⟨l0.take m0, 0, 0, W2.heap.size, 1, 0, [0], Dk.new 1048576, hv0m, by omega, rfl, hgm2, hwm2, hms, Nat.le_refl _, rfl, rfl, Nat.zero_le _, hdM, heads_new, hgM⟩
  case round =>
    clear hms hgM hdM hgm2 hwm2 hv0m hl0m hv0
    obtain ⟨l, k, i, mb, nM, z, M, D, hst, hli, rfl, hgb, hwb, hms, hnM, rfl, rfl, hkm1, hdr, hhd, hgr⟩ := hrel
    obtain ⟨AS, cS, rfl, hAS1, hAS2, hAS3⟩ := hst
    have hws := hgr.size
    have hkw : IntKind.i64.wrap ((k : Int) + 1) = (k : Int) + 1 := IntWalk.i64_in _ (by omega)
    have hON := Lib.hid (on_any hdr)
    by_cases hkm : k ≤ m1
    · have hki : (k : Int) ≤ (m1 : Int) := by omega
      go_wp2_with fail
      refine hON.out.mono ?_
      rintro e wa ⟨rfl, hda, hka⟩
      have hga := grown_own hgr hka (by omega)
      have hmsa := hms.kept hka (by simp; omega)
      go_upto_if 42 with fail
      go_cut [8] (fun kv wx => kv = .int .i64 (k : Int) ∧ ∃ (N : Int) (ks : List Int), (k = m1 → N.toNat = 0) ∧ DiskAt wx g (Dk.doCut D.on N ks) ∧ MSet wx mb nM M ∧ w.grownBy wx none)
      case first =>
        by_cases hn : k < m1
        · obtain ⟨_, _, hvE, _, _, hcell⟩ := hv1
          obtain ⟨hN64, hK64, bb, ob, hA1, hcN, hcK⟩ := hcell k (by omega)
          injection hvE with e1 e2 e3
          subst e1
          subst e3
          subst hA1
          clear hcell
          generalize l1[k] = X at *
          obtain ⟨XN, XK⟩ := X
          simp only at hcN hcK hN64 hK64
          have dN := hga.cell hcN (by simp)
          have dK := hga.cell hcK (by simp)
          have hni : (k : Int) < (m1 : Int) := by omega
          have hbg : bb ≠ g := by
            have := World.block_lt_of_cell? w _ hcN
            simp only at this
            omega
          go_wp2_with fail
          have hgc := only_drew (only_alloc (only_refl wa none) (.cells #[.int .i64 XK, .int .i64 XK] 3))
          have hin : Ints ((wa.alloc (.cells #[.int .i64 XK, .int .i64 XK] 3)).drew) g (.slice (some ⟨wa.heap.size, 0, none⟩) 2 2) [XK, XK] := ints_two wa XK g hda.lt
          have HCU := Lib.hid (cut_any (hda.grown hgc) hN64 hin (by intro k hk; simp at hk; rw [hk]; exact hK64) (by simp))
          clear hin
          go_region_held3 (fun w' => w'.cell? ⟨bb, ob + k * 2, none⟩ = some (.int .i64 XN) ∧ w'.cell? ⟨bb, ob + k * 2 + 1, none⟩ = some (.int .i64 XK)) (first | go_keep | assumption | exact ⟨by assumption, by assumption⟩)
            (first
              | (go_at_call 8; refine HCU.out.mono ?_; rintro e wb ⟨rfl, hdb, hkb⟩; have m0 := hkb.cell (hgc.cell dN (by simp)) (by simpa using hbg); have m1 := hkb.cell (hgc.cell dK (by simp)) (by simpa using hbg)))
          have hkab := only_trans (only_weak hgc g) hkb
          go_wp2_with fail
          go_meet
          exact ⟨rfl, XN, [XK, XK], fun h => by omega, hdb, hmsa.kept hkab (by simp; omega), grown_own hga hkab (by omega)⟩
        · have hni : ¬ (k : Int) < (m1 : Int) := by omega
          go_wp2_with fail
          go_meet
          exact ⟨rfl, 0, [], fun _ => rfl, by rw [← hhd.asks]; exact hda, hmsa, hga⟩
      case rest =>
        obtain ⟨rfl, N, ks, hNk, hdx, hmsx, hgx⟩ := hcut
        clear hmsa hga hda hka hON hms hdr
        have hwx := hgx.size
        obtain ⟨c, hc⟩ : ∃ c, N.toNat = c := ⟨_, rfl⟩
        rw [hc] at hNk
        have hOP := sums_open (ks := ks) hhd (by omega) (by omega) N hc
        have hDopen := open_any (hH.grown hgx (by simp)) hg0 hdx
        generalize Dk.doCut D.on N ks = D1 at *
        rcases hOP with ⟨D2, o, gen, st, recs, c', eo, hgn, hok, hv, hrun, hcc⟩ | ⟨hcne, D2, J2, I2, eo, hhd2⟩
        · rw [eo] at hDopen
          have HO := Lib.hid hDopen
          clear hDopen
          go_wp2_with fail
          refine HO.out.mono ?_
          rintro e w3 ⟨hd3, hk3, hres⟩
          rcases hres with ⟨_, jb, v3, rfl, hjb, hj3, hst3⟩ | ⟨h, _⟩
          rotate_left
          · exact absurd rfl h
          simp only at hd3 hj3 hst3
          have hg3 := grown_own hgx hk3 hgl
          have hms3 := hmsx.kept hk3 (by simp; omega)
          have hln := hok.len
          have hle := hok.le
          have hHT := tsum_any (st := st) (by have := hok.size (by omega); omega) (by unfold valN at hle; omega) (hst3.mono (Nat.zero_le _)) hok.one (by omega)
          obtain ⟨A3, c3, rfl, -⟩ := hst3.at_
          have HT := Lib.hid hHT
          clear hHT
          go_wp2_with fail
          refine HT.out.mono ?_
          rintro e w4 ⟨rfl, hk4⟩
          have hg4 := only_trans hg3 hk4
          have hms4 := hms3.kept hk4 (by simp)
          have hd4 := hd3.grown hk4
          have hj4 := hj3.grown hk4 (by simp)
          have hv64 : I64 (valN st recs : Int) := by unfold I64; omega
          have hlk := hms4.look hv hv64
          have hjw : w.heap.size ≤ jb := by omega
          have hj0 : 0 < jb := by omega
          have hjl := hj4.blk.lt
          have hgl4 := hd4.lt
          have hb4 := hg4.size
          generalize hvn : (valN st recs : Int) = vn at *
          go_wp2_with (refine wpList_mset (by rfl) _ _ _ (.inr rfl) w4.heap.size 0 [] vn rfl rfl rfl (MSet.made w4) (by unfold maxLen; omega) hv64 ?_; intro w5 hms5 hgm5)
          have hk5 : w4.grownBy w5 none := grown_own (only_alloc (only_refl w4 none) _) hgm5 (Nat.le_refl _)
          have hg5 := only_trans hg4 hk5
          have hd5 := hd4.grown hk5
          have hj5 := hj4.grown hk5 (by simp)
          obtain ⟨B4, hB4⟩ : ∃ B, B = w4.heap.size := ⟨_, rfl⟩
          have hgB : g < B4 := by omega
          have hjB : jb < B4 := by omega
          rw [← hB4] at hms5 ⊢
          clear hgm5 hk5 hd4 hj4 hg4 hms4 hlk hms3 hg3 hd3 hj3 HT HO hk4 hk3 hmsx hgx hdx hst3 hB4 hgl4 hjl hb4
          go_loopw [0, 6, 7, 12] (fun sv mv nv ev wr => ∃ (l : List AddW) (i mb nM : Nat) (z : Int) (M : List Int) (D : Dk), Adds w sv l ∧ l.length + i ≤ 60 ∧ mv = .map (some mb) ∧ B4 ≤ mb ∧ MSet wr mb nM M ∧ nM ≤ 1 + i ∧ nv = .int .i64 z ∧ DiskAt wr g D ∧ w.grownBy wr none ∧
            ((ev = .nilIface ∧ ∃ (o : Int) (gen : Nat) (st : ByteArray) (la si : List ByteArray) (c' : Nat), JrAt wr jb g ⟨o, gen, false⟩ ∧ RunS D o gen st la si M c' ks i ∧ gen ≤ k + 1 + i ∧ z = (valN st (la ++ si) : Int) ∧ (c = 0 → c' = 0)) ∨
             (c ≠ 0 ∧ ∃ p, ev = .iface 153 (.pointer (some ⟨p, 0, none⟩)) ∧ Faulty wr p 240 ∧ HeadS D.on M (k + 1 + i) i))) (fun sv _ _ _ _ => lenOf sv)
          case atStart => exact ⟨l, i, B4, 1, vn, [vn], D2, ⟨AS, cS, rfl, hAS1, hAS2, hAS3⟩, hli, rfl, Nat.le_refl _, hms5, by omega, rfl, hd5, hg5, .inl ⟨rfl, o, gen + 1, st, recs, [], c', hj5, hrun, by omega, by rw [List.append_nil, hvn], hcc⟩⟩
          case round =>
            clear hms5 hg5 hd5 hj5 hrun hok hv hli hAS1 hAS2 hAS3 hhd hnM hgb hwb
            obtain ⟨l2, i2, mb2, nM2, z2, M2, D3, hst, hli2, rfl, hB2, hms2, hnM2, rfl, hdr2, hgr2, hstate⟩ := hrel
            obtain ⟨AS2, cS2, rfl, -⟩ := id hst
            have hws2 := hgr2.size
            have hgl2 := hdr2.lt
            rcases hstate with ⟨rfl, o2, gen2, st2, la, si, c2, hjr, hrun2, hgen2, rfl, hcc2⟩ | ⟨hcne, p, rfl, hf, hhd2⟩
            · rcases l2 with _ | ⟨x, l2⟩
              · have hh := hrun2.head (by omega) (by omega)
                go_wp2_with fail
                exact ⟨⟨[], k + 1, i2, mb2, nM2, _, M2, D3, hst, hli2, rfl, by omega, by omega, hms2, hnM2, rfl, rfl, by omega, hdr2, hh.mono (fun _ h => h) (by omega) (Nat.le_refl _), hgr2⟩, by simp [intOf]; omega⟩
              · obtain ⟨b, off, rfl, -, hcS2, hcM2, q0, q1, q2, htl⟩ := hst.uncons
                obtain ⟨xa, xs, xc⟩ := x
                simp only at q0 q1 q2
                have r0 := hgr2.cell q0 (by simp)
                have r1 := hgr2.cell q1 (by simp)
                have r2 := hgr2.cell q2 (by simp)
                have hi60 : i2 < 60 := by rw [List.length_cons] at hli2; omega
                have hRA := run_add' hrun2 (b := ⟨#[xa]⟩) (by omega) hi60 rfl
                rw [valN_add] at hRA
                have hle2 := hrun2.ok.le
                have hxa := xa.toNat_lt
                obtain ⟨v, hv⟩ : ∃ v, valN st2 (la ++ si) = v := ⟨_, rfl⟩
                rw [hv] at hRA hle2 ⊢
                have hva : valN st2 (la ++ si ++ [⟨#[xa]⟩]) = v + xa.toNat := by rw [valN_add, hv]
                have h64 : I64 ((v : Int) + (xa.toNat : Int)) := by unfold I64; omega
                have hmb2 := (show mb2 < wr.heap.size by obtain ⟨_, _, hmm2, _⟩ := hms2; exact hmm2.lt)
                have hgX := only_alloc (only_refl wr none) (.cells #[.int .u8 (xa.toNat : Int), .bool xs, .bool xc] 40)
                have hmsX := hms2.kept hgX (by simp)
                have hpos : (0 : Int) < ((⟨xa, xs, xc⟩ :: l2 : List AddW).length : Int) := by simp only [List.length_cons]; omega
                have hpos1 : (1 : Int) ≤ ((⟨xa, xs, xc⟩ :: l2 : List AddW).length : Int) := by omega
                go_upto_region 21 with fail
                go_cut [0] (fun sv wx => Adds w sv l2 ∧ wx = wr.alloc (.cells #[.int .u8 (xa.toNat : Int), .bool xs, .bool xc] 40))
                case first =>
                  by_cases hcap : cS2 = 1
                  · subst hcap
                    have : l2 = [] := List.eq_nil_of_length_eq_zero (by omega)
                    subst this
                    go_wp2_with fail
                    go_meet
                    exact ⟨⟨_, _, rfl, Nat.le_refl _, Nat.zero_le _, fun j hj => by simp at hj⟩, rfl⟩
                  · have hcap2 : ((cS2 - 1 : Nat) == 0) = false := by simp; omega
                    have hcap3 : ¬ cS2 - 1 = 0 := by omega
                    go_wp2_with fail
                    go_meet
                    exact ⟨htl, rfl⟩
                case rest =>
                  obtain ⟨hst20, rfl⟩ := hcut
                  obtain ⟨AS4, cS4, rfl, -⟩ := id hst20
                  go_wp2_with (refine wpList_mset (by rfl) _ _ _ (.inl rfl) mb2 nM2 M2 ((v : Int) + (xa.toNat : Int)) rfl (by rfl) rfl hmsX (by unfold maxLen; omega) h64 ?_; intro w23 hms23 hgm23; have hconv := conv_one w23 xa; have hX23 := (Blk.new wr 40 #[.int .u8 (xa.toNat : Int), .bool xs, .bool xc]).grown hgm23 (by simp; omega); have y0 := hX23.cell 0)
                  obtain ⟨W24, hW24⟩ : ∃ W, W = w23.alloc (.cells #[.int .u8 (xa.toNat : Int)] 5) := ⟨_, rfl⟩
                  rw [← hW24] at hconv ⊢
                  have hgX24 : w23.grownBy W24 none := hW24 ▸ only_alloc (only_refl w23 none) _
                  have hX24 := hX23.grown hgX24 (by simp)
                  have hd24 := ((hdr2.grown hgX).mapped hmsX hgm23).grown hgX24
                  have hj24 := ((hjr.grown hgX (by simp)).grown hgm23 (by simp; omega)).grown hgX24 (by simp)
                  have hms24 := hms23.kept hgX24 (by simp)
                  have hg24 : w.grownBy W24 none := only_trans (grown_own (only_trans hgr2 hgX) hgm23 (by omega)) hgX24
                  have hsz24 := hg24.size
                  have hwr24 : wr.heap.size < W24.heap.size := hX24.lt
                  have HA := add_any (hH.grown hg24 (by simp)) hj0 hg0 hd24 hj24 ⟨#[xa]⟩ (by show 1 ≤ _; decide)
                  obtain ⟨kv24, hDb24, _⟩ := hd24.at_
                  have hjb24 := hj24.blk
                  have hi61 : l2.length + (i2 + 1) ≤ 60 := by rw [List.length_cons] at hli2; omega
                  rw [Int.natCast_add] at hRA
                  clear hms23 hgm23 hX23 hconv y0 hdr2 hjr hms2 hmsX hgX hgX24 hd24 hj24 hW24 hst htl q0 q1 q2 r0 r1 r2 hrun2 hgr2 hli2
                  rcases hRA with ⟨D4, c4, ea, hrun4, hcc4⟩ | ⟨hcn2, D4, J4, ea, hhd4⟩
                  · rw [ea] at HA
                    have HA := Lib.hid HA
                    go_wp2_with fail
                    refine HA.out.mono ?_
                    rintro e w25 ⟨v25, rfl, he25, hd25, hj25, hduo25⟩
                    obtain rfl := isErr_no he25
                    simp only at hd25 hj25
                    have hX25 := hduo25.keep hX24 (by omega) (by omega)
                    have hms25 := hms24.duo hduo25 (by omega) (by omega)
                    have hg25 := grown_duo hg24 hduo25 (by omega) (by omega)
                    have y1 := hX25.cell 1
                    have hsz25 := hduo25.size
                    clear hX24 hms24 hg24 hduo25 hDb24 hjb24 he25 HA
                    go_upto_if 118 with fail
                    go_cut [6, 12] (fun mv ev wx => ∃ (mb nM : Nat) (M : List Int) (D : Dk), mv = .map (some mb) ∧ B4 ≤ mb ∧ mb ≠ wr.heap.size ∧ MSet wx mb nM M ∧ nM ≤ 1 + (i2 + 1) ∧ DiskAt wx g D ∧ w.grownBy wx none ∧ Blk wx wr.heap.size 40 #[.int .u8 (xa.toNat : Int), .bool xs, .bool xc] ∧
                      ((ev = .nilIface ∧ JrAt wx jb g ⟨o2, gen2, false⟩ ∧ ∃ (la si : List ByteArray) (c' : Nat), RunS D o2 gen2 st2 la si M c' ks (i2 + 1) ∧ valN st2 (la ++ si) = v + xa.toNat ∧ (c = 0 → c' = 0)) ∨
                       (c ≠ 0 ∧ ∃ p, ev = .iface 153 (.pointer (some ⟨p, 0, none⟩)) ∧ Faulty wx p 240 ∧ HeadS D.on M (k + 1 + (i2 + 1)) (i2 + 1))))
                    case first =>
                      cases xs
                      · skip
                        go_wp2_with fail
                        go_meet
                        exact ⟨mb2, nM2 + 1, _, D4, rfl, hB2, by omega, hms25, by omega, hd25, hg25, hX25, .inl ⟨rfl, hj25, la, si ++ [⟨#[xa]⟩], c4, hrun4, by rw [← List.append_assoc]; exact hva, fun h => hcc4 (hcc2 h)⟩⟩
                      · have HS := jsync_any (hH.grown hg25 (by simp)) hj0 hg0 hd25 hj25
                        obtain ⟨kv25, hDb25, _⟩ := hd25.at_
                        have hjb25 := hj25.blk
                        have hv3 : valN st2 (la ++ (si ++ [⟨#[xa]⟩])) = v + xa.toNat := by rw [← List.append_assoc]; exact hva
                        rcases run_sync' hrun4 (by omega) (by omega) with ⟨D5, c5', es, hrun5, hcc5⟩ | ⟨hcn5, D5, J5, es, hhd5⟩
                        · rw [es] at HS
                          have HS := Lib.hid HS
                          go_wp2_with fail
                          refine HS.out.mono ?_
                          rintro e w26 ⟨v26, rfl, he26, hd26, hj26, hduo26⟩
                          obtain rfl := isErr_no he26
                          simp only at hd26 hj26
                          have hX26 := hduo26.keep hX25 (by omega) (by omega)
                          have hg26 := grown_duo hg25 hduo26 (by omega) (by omega)
                          have hsz26 := hduo26.size
                          rw [hv3, Int.natCast_add] at hrun5
                          clear hX25 hms25 hg25 hduo26 hDb25 hjb25 he26 HS hd25 hj25
                          go_wp2_with (refine wpList_mset (by rfl) _ _ _ (.inr rfl) w26.heap.size 0 [] ((v : Int) + (xa.toNat : Int)) rfl (by rfl) rfl (MSet.made w26) (by unfold maxLen; omega) h64 ?_; intro w27 hms27 hgm27)
                          go_meet
                          have hk27 : w26.grownBy w27 none := grown_own (only_alloc (only_refl w26 none) _) hgm27 (Nat.le_refl _)
                          exact ⟨w26.heap.size, 1, _, D5, rfl, by omega, by have := hX26.lt; omega, hms27, by omega, hd26.grown hk27, only_trans hg26 hk27, hX26.grown hk27 (by simp), .inl ⟨rfl, hj26.grown hk27 (by simp), _, [], c5', hrun5, by rw [List.append_nil]; exact hv3, fun h => hcc5 (hcc4 (hcc2 h))⟩⟩
                        · rw [es] at HS
                          have HS := Lib.hid HS
                          go_wp2_with fail
                          refine HS.out.mono ?_
                          rintro e w26 ⟨v26, rfl, he26, hd26, hj26, hduo26⟩
                          rcases he26 with ⟨h, _⟩ | ⟨_, p, rfl, hf⟩
                          · exact absurd h (show ¬ (240 : Nat) = 0 by decide)
                          simp only at hd26
                          unfold errV
                          go_wp2_with fail
                          go_meet
                          exact ⟨mb2, nM2 + 1, _, D5, rfl, hB2, by omega, hms25.duo hduo26 (by omega) (by omega), by omega, hd26, grown_duo hg25 hduo26 (by omega) (by omega), hduo26.keep hX25 (by omega) (by omega), .inr ⟨fun h => hcn5 (hcc4 (hcc2 h)), p, rfl, hf, hhd5.mono (fun _ h => h) (by omega) (Nat.le_refl _)⟩⟩
                    case rest =>
                      clear hms25 hd25 hj25 hX25 hg25 hrun4 hcc4 y1
                      obtain ⟨mb5, nM5, M5, D5, rfl, hB5, hmx5, hms5, hnM5, hd5, hg5, hX5, hst5⟩ := hcut
                      rcases hst5 with ⟨rfl, hj5, la5, si5, c5, hrun5, hv5, hcc5⟩ | ⟨hcne, p, rfl, hf, hhd5⟩
                      · have y2 := hX5.cell 2
                        have hvc : (valN st2 (la5 ++ si5) : Int) = (v : Int) + (xa.toNat : Int) := by rw [hv5]; rfl
                        cases xc
                        · skip
                          go_wp2_with fail
                          exact ⟨⟨l2, i2 + 1, mb5, nM5, _, M5, D5, hst20, hi61, rfl, hB5, hms5, hnM5, rfl, hd5, hg5, .inl ⟨rfl, o2, gen2, st2, la5, si5, c5, hj5, hrun5, by omega, hvc.symm, hcc5⟩⟩, by simp [lenOf]⟩
                        · have HD := fun W => digits_any (w := W) (v + xa.toNat) (by omega)
                          rw [Int.natCast_add] at HD
                          have HD := Lib.hid HD
                          go_wp2_with fail
                          refine (HD.out _).mono ?_
                          rintro e w6 ⟨rfl, hk6⟩
                          have hg6 := only_trans hg5 hk6
                          have hd6 := hd5.grown hk6
                          have hj6 := hj5.grown hk6 (by simp)
                          have hms6 := hms5.kept hk6 (by simp)
                          have hX6 := hX5.grown hk6 (by simp)
                          have HC := compact_any (hH.grown hg6 (by simp)) hj0 hg0 hd6 hj6 (digB (v + xa.toNat)) (by have := digB_size (v + xa.toNat); omega)
                          have hRC := run_compact' hrun5 (by omega) (by omega)
                          rw [hv5] at hRC
                          obtain ⟨kv6, hDb6, _⟩ := hd6.at_
                          have hjb6 := hj6.blk
                          rcases hRC with ⟨D7, c7, es, hrun7, hcc7⟩ | ⟨hcn7, D7, J7, es, hhd7⟩
                          · rw [es] at HC
                            have HC := Lib.hid HC
                            go_wp2_with fail
                            refine HC.out.mono ?_
                            rintro e w7 ⟨v7, rfl, he7, hd7, hj7, hduo7⟩
                            obtain rfl := isErr_no he7
                            simp only at hd7 hj7
                            have hg7 := grown_duo hg6 hduo7 (by omega) (by omega)
                            have hX7 := hduo7.keep hX6 (by omega) (by omega)
                            have hsz7 := hX7.lt
                            rw [Int.natCast_add] at hrun7
                            clear hX6 hms6 hg6 hduo7 hDb6 hjb6 he7 HC hd6 hj6 hd5 hj5 hms5 hX5 hg5 y2
                            go_wp2_with (refine wpList_mset (by rfl) _ _ _ (.inr rfl) w7.heap.size 0 [] ((v : Int) + (xa.toNat : Int)) rfl (by rfl) rfl (MSet.made w7) (by unfold maxLen; omega) h64 ?_; intro w8 hms8 hgm8)
                            have hk8 : w7.grownBy w8 none := grown_own (only_alloc (only_refl w7 none) _) hgm8 (Nat.le_refl _)
                            exact ⟨⟨l2, i2 + 1, w7.heap.size, 1, _, _, D7, hst20, hi61, rfl, by omega, hms8, by omega, rfl, hd7.grown hk8, only_trans hg7 hk8, .inl ⟨rfl, 1 - o2, gen2 + 1, _, [], [], c7, hj7.grown hk8 (by simp), hrun7, by omega, by rw [List.append_nil, valN_nil]; rfl, fun h => hcc7 (hcc5 h)⟩⟩, by simp [lenOf]⟩
                          · rw [es] at HC
                            have HC := Lib.hid HC
                            go_wp2_with fail
                            refine HC.out.mono ?_
                            rintro e w7 ⟨v7, rfl, he7, hd7, hj7, hduo7⟩
                            rcases he7 with ⟨h, _⟩ | ⟨_, p, rfl, hf⟩
                            · exact absurd h (show ¬ (240 : Nat) = 0 by decide)
                            simp only at hd7
                            unfold errV
                            go_wp2_with fail
                            exact ⟨⟨l2, i2 + 1, mb5, nM5, _, M5, D7, hst20, hi61, rfl, hB5, hms6.duo hduo7 (by omega) (by omega), hnM5, rfl, hd7, grown_duo hg6 hduo7 (by omega) (by omega), .inr ⟨fun h => hcn7 (hcc5 h), p, rfl, hf, hhd7.mono (fun _ h => h) (by omega) (Nat.le_refl _)⟩⟩, by simp [lenOf]⟩
                      · skip
                        go_wp2_with fail
                        exact ⟨⟨l2, i2 + 1, mb5, nM5, _, M5, D5, hst20, hi61, rfl, hB5, hms5, hnM5, rfl, hd5, hg5, .inr ⟨hcne, p, rfl, hf, hhd5⟩⟩, by simp [lenOf]⟩
                  · rw [ea] at HA
                    have HA := Lib.hid HA
                    go_wp2_with fail
                    refine HA.out.mono ?_
                    rintro e w25 ⟨v25, rfl, he25, hd25, hj25, hduo25⟩
                    simp only at hd25 he25
                    have hms25 := hms24.duo hduo25 (by omega) (by omega)
                    have hg25 := grown_duo hg24 hduo25 (by omega) (by omega)
                    rcases he25 with ⟨h, _⟩ | ⟨_, p, rfl, hf⟩
                    · exact absurd h (show ¬ (240 : Nat) = 0 by decide)
                    unfold errV
                    go_wp2_with fail
                    exact ⟨⟨l2, i2 + 1, mb2, nM2 + 1, _, _, D4, hst20, hi61, rfl, hB2, hms25, by omega, rfl, hd25, hg25, .inr ⟨fun h => hcn2 (hcc2 h), p, rfl, hf, hhd4.mono (fun _ h => h) (by omega) (Nat.le_refl _)⟩⟩, by simp [lenOf]⟩
            · have hHas := Lib.hid (has_any (c := 240) (by decide) (isErr_of (c := 240) (by decide) hf))
              have hne : ((k : Int) == (m1 : Int)) = false := by
                have : k ≠ m1 := fun h => hcne (hNk h)
                simp; omega
              rcases l2 with _ | ⟨x, l2⟩
              · skip
                go_wp2_with fail
                refine hHas.out.mono ?_
                rintro e w6 ⟨rfl, hk6⟩
                go_wp2_with fail
                exact ⟨⟨[], k + 1, i2, mb2, nM2, _, M2, D3, hst, hli2, rfl, by omega, by omega, hms2.kept hk6 (by simp), hnM2, rfl, rfl, by omega, hdr2.grown hk6, hhd2.mono (fun _ h => h) (by omega) (Nat.le_refl _), only_trans hgr2 hk6⟩, by simp [intOf]; omega⟩
              · have hpos : (0 : Int) < ((x :: l2).length : Int) := by simp only [List.length_cons]; omega
                go_wp2_with fail
                refine hHas.out.mono ?_
                rintro e w6 ⟨rfl, hk6⟩
                go_wp2_with fail
                exact ⟨⟨x :: l2, k + 1, i2, mb2, nM2, _, M2, D3, hst, hli2, rfl, by omega, by omega, hms2.kept hk6 (by simp), hnM2, rfl, rfl, by omega, hdr2.grown hk6, hhd2.mono (fun _ h => h) (by omega) (Nat.le_refl _), only_trans hgr2 hk6⟩, by simp [intOf]; omega⟩
        · rw [eo] at hDopen
          have HO := Lib.hid hDopen
          clear hDopen
          go_wp2_with fail
          refine HO.out.mono ?_
          rintro e w3 ⟨hd3, hk3, hres⟩
          rcases hres with ⟨h, _⟩ | ⟨_, v3, rfl, he3⟩
          · exact absurd h (show ¬ (240 : Nat) = 0 by decide)
          simp only at hd3 he3
          have hg3 := grown_own hgx hk3 hgl
          have hms3 := hmsx.kept hk3 (by simp; omega)
          have hHas := Lib.hid (has_any (c := 240) (by decide) he3)
          have hne : ((k : Int) == (m1 : Int)) = false := by
            have : k ≠ m1 := fun h => hcne (hNk h)
            simp; omega
          rcases he3 with ⟨h, _⟩ | ⟨_, p, rfl, hf⟩
          · exact absurd h (by decide)
          unfold errV at *
          go_wp2_with fail
          refine hHas.out.mono ?_
          rintro e w4 ⟨rfl, hk4⟩
          go_wp2_with fail
          exact ⟨⟨l, k + 1, i, mb, nM, z, M, D2, ⟨AS, cS, rfl, hAS1, hAS2, hAS3⟩, hli, rfl, hgb, hwb, hms3.kept hk4 (by simp), hnM, rfl, rfl, by omega, hd3.grown hk4, hhd2.mono (fun _ h => h) (by omega) (Nat.le_refl _), only_trans hg3 hk4⟩, by simp [intOf]; omega⟩
    · have hki : ¬ (k : Int) ≤ (m1 : Int) := by omega
      go_wp2_with fail
      go_ret
      exact ⟨rfl, hgr⟩
end
end Go.Proofs.YtklcpckjmncdkaaGreatDoor
