/- THE WALK of the statement JournalLasts. -/
import Derived.Test.YtklcpckjmncdkaaDoorLastW0
namespace Go.Proofs.YtklcpckjmncdkaaDoor
set_option maxRecDepth 100000
open Go.RowKit

section
variable {w : World}
set_option pp.deepTerms true in
set_option pp.maxSteps 1000000 in
set_option maxHeartbeats 12800000 in
theorem lasts_walk (hH : Hand w) (v0 : Value) (l0 : List ByteArray) (hv0 : Strs w v0 l0) (hl0 : ∀ t ∈ l0, t.size ≤ maxLen) (v1 : Value) (l1 : List Bool) (hv1 : Bools w v1 l1) (v2 : Value) (l2 : List LossW) (hv2 : Losses w v2 l2) :
    Calls Tryd.prog 5 #[v0, v1, v2] w fun e w' => e = .returned (.bool true) ∧ w.grownBy w' none := by
  have h0 := Hand.lt hH
  obtain ⟨A0, c0, rfl, hc0, hcell0⟩ := hv0
  obtain ⟨A1, c1, rfl, hcell1⟩ := hv1
  obtain ⟨A2, c2, rfl, hc2, hlin, hcell2⟩ := hv2
  have H0 := Lib.hid (fun W => new_any 1048576 W)
  obtain ⟨mm, hmm, hmm8, hmml⟩ : ∃ mm : Nat, min (l2.length : Int) 8 = (mm : Int) ∧ mm ≤ 8 ∧ mm ≤ l2.length := ⟨min l2.length 8, by omega, by omega, by omega⟩
  have hmm2 : max (mm : Int) 0 = (mm : Int) := by omega
  go_enter Tryd.func5, Tryd.ntmps5
  go_wp2_with fail
  refine (H0.out _).mono ?_
  rintro e w1 ⟨g, rfl, hgw, hd1, hk1⟩
  have hg0 : 0 < g := by omega
  go_wp2_with fail
  refine (wakes_any (hH.grown hk1 (by simp))).mono ?_
  rintro e w2 ⟨rfl, hk2⟩
  have hg2 := only_trans hk1 hk2
  have hd2 := hd1.grown hk2
  go_wp2_with fail
  go_loopw [8, 9, 10, 11] (fun sl ss iv nv wr => ∃ (n i : Nat) (lasted since : List ByteArray) (D : Dk) (Bs : Nat), nv = .int .i64 (n : Int) ∧ iv = .int .i64 (i : Int) ∧ StrsTo wr w.heap.size Bs sl lasted ∧ StrsAt wr Bs ss since ∧ w.heap.size ≤ Bs ∧ Bs ≤ wr.heap.size ∧ DiskAt wr g D ∧ HeadOk D.on lasted since n ∧
    Short (lasted ++ since) ∧ (lasted ++ since).length ≤ i ∧ i ≤ 40 ∧ n ≤ mm ∧ w.grownBy wr none) (fun _ _ _ nv _ => mm + 1 - (intOf nv).toNat)
  case atStart => exact ⟨0, 0, [], [], Dk.new 1048576, w2.heap.size, rfl, rfl, (StrsAt.nil _ _).to.up (Nat.le_refl _), StrsAt.nil _ _, hg2.size, Nat.le_refl _, hd2, head_new, Short.nil, Nat.le_refl _, Nat.zero_le _, Nat.zero_le _, hg2⟩
  case round =>
    obtain ⟨n, i, lasted, since, D, Bs, rfl, rfl, hsl, hss, hB1, hB2, hdr, hhd, hsh, hli, hi40, hnm, hgr⟩ := hrel
    have hws := hgr.size
    have hnw : IntKind.i64.wrap ((n : Int) + 1) = (n : Int) + 1 := IntWalk.i64_in _ (by omega)
    have hON := Lib.hid (on_any hdr)
    go_wp2_with fail
    refine hON.out.mono ?_
    rintro e wa ⟨rfl, hda, hka⟩
    have hga := grown_own hgr hka (by omega)
    have hDb := hdr.at_
    obtain ⟨kv0, hDb, _⟩ := hDb
    have hsla : StrsTo wa w.heap.size Bs u8 lasted := hsl.kept fun b cs _ _ hk => hk.grown hka (by simpa using Blk.ne_ hk hDb (by decide))
    have hssa : StrsAt wa Bs u9 since := hss.kept fun b cs _ hk => hk.grown hka (by simpa using Blk.ne_ hk hDb (by decide))
    have hwsa := hka.size
    clear hsl hss hdr hDb hON
    by_cases hn : n < mm
    · skip
      obtain ⟨bb, ob, rfl, hcN, hcK⟩ := hcell2 n (by omega)
      have hxin := hlin l2[n] (List.getElem_mem (by omega))
      generalize l2[n] = X at *
      obtain ⟨XN, XK, XS⟩ := X
      simp only at hcN hcK
      have hnN := hxin.n
      have hnE := hxin.each
      have hnL := hxin.len
      have hnKp := hxin.keep
      simp only at hnN hnE hnL hnKp
      have dN := hga.cell hcN (by simp)
      have dK := hga.cell hcK (by simp)
      have hnKp' := hnKp
      obtain ⟨AK, cK, rfl, _⟩ := hnKp'
      have hni : (n : Int) < (mm : Int) := by omega
      have hbg : bb ≠ g := by
        have := World.block_lt_of_cell? w _ hcN
        simp only at this
        omega
      have hCU := cut_any (hda.grown (only_drew (only_refl wa none))) hnN (hnKp.at_ (only_drew hga) (by omega)) hnE hnL
      have HCU := Lib.hid hCU
      clear hCU
      go_wp2_with fail
      go_region_held3 (fun w' => w'.cell? ⟨bb, ob + n * 2, none⟩ = some (.int .i64 XN) ∧ w'.cell? ⟨bb, ob + n * 2 + 1, none⟩ = some (.slice AK XS.length cK)) (first | go_keep | assumption | exact ⟨by assumption, by assumption⟩)
        (first
          | (go_at_call 22; refine HCU.out.mono ?_; rintro e wb ⟨rfl, hdb, hkb⟩; have m0 := hkb.cell (a := ⟨bb, ob + n * 2, none⟩) dN (by simpa using hbg); have m1 := hkb.cell (a := ⟨bb, ob + n * 2 + 1, none⟩) dK (by simpa using hbg)))
      have hgb := grown_own (only_drew hga) hkb (by omega)
      obtain ⟨kv0, hDb, _⟩ := hda.at_
      have hslb : StrsTo wb w.heap.size Bs u8 lasted := hsla.kept fun b cs _ _ hk => hk.drew.grown hkb (by simpa using Blk.ne_ hk hDb (by decide))
      have hssb : StrsAt wb Bs u9 since := hssa.kept fun b cs _ hk => hk.drew.grown hkb (by simpa using Blk.ne_ hk hDb (by decide))
      have hwsb : wa.heap.size ≤ wb.heap.size := hkb.size
      obtain ⟨c, hc⟩ : ∃ c, XN.toNat = c := ⟨_, rfl⟩
      have hOP := lasts_open (ks := XS) hhd (by omega) hsh XN hc
      have hDopen := open_any (hH.grown hgb (by simp)) hg0 hdb
      generalize Dk.doCut D.on XN XS = D1 at *
      generalize XS = ks at *
      have HG := Lib.hid hgb
      rcases hOP with ⟨D2, o, gen, k, c', eo, hk1', hk2', hgen, hrun, hcc⟩ | ⟨hcne, D2, J2, I2, eo, hhd2⟩
      · rw [eo] at hDopen
        have HO := Lib.hid hDopen
        clear hDopen
        go_wp2_with fail
        refine HO.out.mono ?_
        rintro e w3 ⟨hd3, hk3, hres⟩
        rcases hres with ⟨_, jb, v3, rfl, hjb, hj3, hst3⟩ | ⟨h, _⟩
        rotate_left
        · exact absurd rfl h
        simp only at hd3 hj3 hst3
        obtain ⟨A8, c8, rfl, _⟩ := hslb.at_.at_
        obtain ⟨A9, c9, rfl, _⟩ := hssb.at_
        obtain ⟨R, hR⟩ : ∃ R, R = (lasted ++ since).take k := ⟨_, rfl⟩
        have hRl : R.length = k := by rw [hR, List.length_take]; omega
        have hRs : Short R := by rw [hR]; exact hsh.take k
        rw [← hR] at hst3 hrun
        subst hRl
        have hst3' := hst3
        obtain ⟨A3, c3, rfl, _⟩ := hst3'.at_
        clear hst3'
        have hgw3 := grown_own HG.out hk3 (by omega)
        obtain ⟨kv1, hDb1, _⟩ := hdb.at_
        have hsl3 : StrsTo w3 w.heap.size Bs (.slice A8 lasted.length c8) lasted := hslb.kept fun b cs _ _ hk => hk.grown hk3 (by simpa using Blk.ne_ hk hDb1 (by decide))
        have hss3 : StrsAt w3 Bs (.slice A9 since.length c9) since := hssb.kept fun b cs _ hk => hk.grown hk3 (by simpa using Blk.ne_ hk hDb1 (by decide))
        have hlens : lasted.length + since.length ≤ 40 := by have := hsh.len; rw [List.length_append] at this; exact this
        rw [List.length_append] at hk2'
        obtain ⟨v4, w4, hr4, hst4, hos4, hbl4⟩ := run_append_texts (ty := 23) (StrsAt.nil w3 w3.heap.size) hsl3.at_ (by simp only [List.length_nil]; omega) (Nat.le_refl _)
        have hss4 : StrsAt w4 Bs (.slice A9 since.length c9) since := hss3.to.kept (fun b cs _ hlt hk => hk.below hbl4 hlt) |>.at_
        obtain ⟨v5, w5, hr5, hst5, hos5, hbl5⟩ := run_append_texts (ty := 23) hst4 hss4 (by rw [List.nil_append]; omega) hbl4.size
        rw [List.nil_append] at hst5
        have hb5 := hbl4.trans hbl5
        obtain ⟨A5, c5, rfl, _⟩ := hst5.at_
        have hc5 : (lasted ++ since).length ≤ c5 := by obtain ⟨A', c', hv, hle, _⟩ := hst5.at_; injection hv with _ _ e3; omega
        have htk := hst5.take (k := R.length) (by rw [List.length_append]; omega)
        rw [← hR] at htk
        clear hR
        have hst35 : StrsAt w5 w.heap.size (.slice A3 R.length c3) R := (hst3.to.kept (fun b cs _ hlt hk => hk.below hb5 hlt) |>.at_).mono (by have := hgb.size; omega)
        have HE := equal_any (hst35.mono (Nat.zero_le _)) (htk.mono (Nat.zero_le _)) (by have := hRs.len; omega)
        rw [show decide (R = R) = true from decide_eq_true rfl] at HE
        have HE := Lib.hid HE
        have hgw5 : w.grownBy w5 none := grown_more hgw3 (hb5.mono (by have := hgw3.size; omega))
        have hd5 := (hd3.stand hos4).stand hos5
        have hj5 : JrAt w5 jb g ⟨o, gen + 1, false⟩ := ⟨hos5 _ _ _ (by decide) (hos4 _ _ _ (by decide) hj3.blk), hj3.file, hj3.gen⟩
        have i1 : ¬ (R.length : Int) < (lasted.length : Int) := by omega
        have i2 : ¬ (lasted.length : Int) + (since.length : Int) < (R.length : Int) := by omega
        have i3 : (R.length : Int) ≤ (c5 : Int) := by rw [List.length_append] at hc5; omega
        have i4 : IntKind.i64.wrap ((lasted.length : Int) + (since.length : Int)) = (lasted.length : Int) + (since.length : Int) := IntWalk.i64_in _ (by omega)
        have d1 : decide (R.length < lasted.length) = false := decide_eq_false (by omega)
        have d2 : decide ((lasted.length : Int) + (since.length : Int) < (R.length : Int)) = false := decide_eq_false (by omega)
        unfold strE
        go_wp2_with (at_builtin; first | (refine wpList_append_want (by rfl) _ _ 23 (by rfl) (by rfl) (by rfl) hr4 ?_) | (refine wpList_append_want (by rfl) _ _ 23 (by rfl) (by rfl) (by rfl) hr5 ?_))
        refine HE.out.mono ?_
        rintro e w6 ⟨rfl, hk6⟩
        have hg6 := only_trans hgw5 hk6
        have hd6 := hd5.grown hk6
        have hj6 := hj5.grown hk6 (by simp)
        have hst6 := hst35.grown hk6
        have hjw : w.heap.size ≤ jb := by omega
        have hj0 : 0 < jb := by omega
        have hRi : R.length ≤ i := by rw [List.length_append] at hli; omega
        clear hr4 hr5 hos4 hos5 hbl4 hbl5 hss4 hst4 hst5 htk hst35 HE hd5 hj5 hd3 hj3 hst3 hsl3 hss3 hslb hssb hsla hssa i1 i2 i3 i4 d1 d2 hb5 HG HO
        go_wp2_with fail
        go_loopw [8, 9, 10, 15] (fun sl ss iv ev wr => ∃ (i : Nat) (la si : List ByteArray) (D : Dk) (Bs : Nat), iv = .int .i64 (i : Int) ∧ StrsTo wr w.heap.size Bs sl la ∧ StrsAt wr Bs ss si ∧ w.heap.size ≤ Bs ∧ Bs ≤ wr.heap.size ∧ DiskAt wr g D ∧ Short (la ++ si) ∧ (la ++ si).length ≤ i ∧ i ≤ 40 ∧ w.grownBy wr none ∧ ((ev = .nilIface ∧ JrAt wr jb g ⟨o, gen + 1, false⟩ ∧ ∃ c', Run D o (gen + 1) la si c' ks ∧ (c = 0 → c' = 0)) ∨ (c ≠ 0 ∧ ∃ p, ev = .iface 97 (.pointer (some ⟨p, 0, none⟩)) ∧ Faulty wr p 240 ∧ HeadOk D.on la si (n + 1)))) (fun _ _ iv _ _ => 41 - (intOf iv).toNat)
        case atStart => exact ⟨i, R, [], D2, w6.heap.size, rfl, hst6.to, StrsAt.nil _ _, hg6.size, Nat.le_refl _, hd6, by rw [List.append_nil]; exact hRs, by rw [List.append_nil]; exact hRi, hi40, hg6, .inl ⟨rfl, hj6, c', hrun, hcc⟩⟩
        case round =>
          clear hli hi40 hgr hdb hda hd6 hj6 hst6 hg6 hgw5 hgw3 hgb hga
          obtain ⟨i2, la, si, D3, Bs2, rfl, hsl, hss, hB3, hB4, hdr, hsh2, hli, hi40, hgr, hst⟩ := hrel
          have hwsr := hgr.size
          obtain ⟨b1, d1⟩ : ∃ b, decide (i2 < l0.length) = b := ⟨_, rfl⟩
          obtain ⟨b2, d2⟩ : ∃ b, decide (i2 < 40) = b := ⟨_, rfl⟩
          have d3 : decide ((i2 : Int) < 40) = b2 := by rw [← d2]; exact decide_eq_decide.2 (by omega)
          rcases hst with ⟨rfl, hjr, c2', hrun2, hcc2⟩ | ⟨hcne, p, rfl, hf, hhd2⟩
          rotate_left
          · have HC := Lib.hid (code_240 (hH.grown hgr (by simp)) (isErr_of (c := 240) (by decide) hf))
            cases b1
            · skip
              go_wp2_with fail
              refine HC.out.mono ?_
              rintro e w7 ⟨rfl, hk7⟩
              go_wp2_with fail
              refine ⟨⟨n + 1, i2, la, si, D3, Bs2, rfl, rfl, hsl.grown hk7, hss.grown hk7, hB3, by have := hk7.size; omega, hdr.grown hk7, hhd2, hsh2, hli, hi40, by omega, only_trans hgr hk7⟩, by simp [intOf]; omega⟩
            · cases b2
              · skip
                go_wp2_with fail
                refine HC.out.mono ?_
                rintro e w7 ⟨rfl, hk7⟩
                go_wp2_with fail
                refine ⟨⟨n + 1, i2, la, si, D3, Bs2, rfl, rfl, hsl.grown hk7, hss.grown hk7, hB3, by have := hk7.size; omega, hdr.grown hk7, hhd2, hsh2, hli, hi40, by omega, only_trans hgr hk7⟩, by simp [intOf]; omega⟩
              · skip
                go_wp2_with fail
                refine HC.out.mono ?_
                rintro e w7 ⟨rfl, hk7⟩
                go_wp2_with fail
                refine ⟨⟨n + 1, i2, la, si, D3, Bs2, rfl, rfl, hsl.grown hk7, hss.grown hk7, hB3, by have := hk7.size; omega, hdr.grown hk7, hhd2, hsh2, hli, hi40, by omega, only_trans hgr hk7⟩, by simp [intOf]; omega⟩
          · cases b1
            · skip
              have HC := Lib.hid (crash_any hdr (ints_nil wr g) (by simp))
              go_wp2_with fail
              refine HC.out.mono ?_
              rintro e w7 ⟨rfl, hd7, hk7⟩
              have hg7 := grown_own hgr hk7 (by omega)
              have hsl7 := hsl.at_.own hk7 hdr
              have HO := open_any (hH.grown hg7 (by simp)) hg0 hd7
              obtain ⟨D8, J8, eo8⟩ := run_crash hrun2 (by omega) hsh2
              rw [eo8] at HO
              have HO := Lib.hid HO
              go_wp2_with fail
              refine HO.out.mono ?_
              rintro e w8 ⟨hd8, hk8, hres⟩
              rcases hres with ⟨_, jb8, v8, rfl, hjb8, hj8, hst8⟩ | ⟨h, _⟩
              rotate_left
              · exact absurd rfl h
              simp only at hst8 hd8
              have hg8 := grown_own hg7 hk8 (by omega)
              have hsl8 := hsl7.own hk8 hd7
              have HE := equal_any (hst8.mono (Nat.zero_le _)) (hsl8.mono (Nat.zero_le _)) (by have := hsh2.len; rw [List.length_append] at this; omega)
              rw [show decide (la = la) = true from decide_eq_true rfl] at HE
              have HE := Lib.hid HE
              go_wp2_with fail
              refine HE.out.mono ?_
              rintro e w9 ⟨rfl, hk9⟩
              go_wp2_with fail
              go_ret
              exact ⟨rfl, only_trans hg8 hk9⟩
            cases b2
            · skip
              have HC := Lib.hid (crash_any hdr (ints_nil wr g) (by simp))
              go_wp2_with fail
              refine HC.out.mono ?_
              rintro e w7 ⟨rfl, hd7, hk7⟩
              have hg7 := grown_own hgr hk7 (by omega)
              have hsl7 := hsl.at_.own hk7 hdr
              have HO := open_any (hH.grown hg7 (by simp)) hg0 hd7
              obtain ⟨D8, J8, eo8⟩ := run_crash hrun2 (by omega) hsh2
              rw [eo8] at HO
              have HO := Lib.hid HO
              go_wp2_with fail
              refine HO.out.mono ?_
              rintro e w8 ⟨hd8, hk8, hres⟩
              rcases hres with ⟨_, jb8, v8, rfl, hjb8, hj8, hst8⟩ | ⟨h, _⟩
              rotate_left
              · exact absurd rfl h
              simp only at hst8 hd8
              have hg8 := grown_own hg7 hk8 (by omega)
              have hsl8 := hsl7.own hk8 hd7
              have HE := equal_any (hst8.mono (Nat.zero_le _)) (hsl8.mono (Nat.zero_le _)) (by have := hsh2.len; rw [List.length_append] at this; omega)
              rw [show decide (la = la) = true from decide_eq_true rfl] at HE
              have HE := Lib.hid HE
              go_wp2_with fail
              refine HE.out.mono ?_
              rintro e w9 ⟨rfl, hk9⟩
              go_wp2_with fail
              go_ret
              exact ⟨rfl, only_trans hg8 hk9⟩
            have hgr0 := hgr
            have hI0 : i2 < l0.length := of_decide_eq_true d1
            have hI1 : i2 < 40 := of_decide_eq_true d2
            have hI2 : (i2 : Int) < (l0.length : Int) := by omega
            have hI3 : IntKind.i64.wrap ((i2 : Int) + 1) = (i2 : Int) + 1 := IntWalk.i64_in _ (by omega)
            obtain ⟨bb0, ob0, rfl, hcb⟩ := hcell0 i2 hI0
            have hcr := hgr.cell hcb (by simp)
            have hti := hl0 l0[i2] (List.getElem_mem hI0)
            generalize l0[i2] = tk at *
            obtain ⟨tb, htb⟩ : ∃ tb, tk.extract 0 (min (tk.size : Int) 100).toNat = tb := ⟨_, rfl⟩
            have htbs : tb.size ≤ 100 := by rw [← htb, ByteArray.size_extract]; omega
            unfold maxLen at hti
            have m0 : (0 : Int) ≤ min (tk.size : Int) 100 := by omega
            have m1 : min (tk.size : Int) 100 ≤ (tk.size : Int) := by omega
            go_wp2_with fail
            go_region
            obtain ⟨b3, d5⟩ : ∃ b, decide (i2 < l1.length) = b := ⟨_, rfl⟩
            have hsN := hsh2.add htbs (by omega)
            have hN1 : (la ++ (si ++ [tb])).length ≤ i2 + 1 := by rw [← List.append_assoc, List.length_append]; simp only [List.length_cons, List.length_nil]; omega
            have hN2 : la.length + (si ++ [tb]).length ≤ 40 := by have := hsN.len; rw [List.length_append] at this; exact this
            have hN3 : si.length + 1 ≤ 100000000 := by rw [List.length_append] at hli; omega
            have hgw1 := only_alloc (only_drew (only_refl wr none)) (.cells #[.string tb] 9)
            obtain ⟨v7, w7, hr7, hst7, hos7, hbl7⟩ := run_append_text (ty := 23) (hss.grown hgw1) (ad := ⟨wr.drew.heap.size, 0, none⟩) (x := tb) ((Blk.new wr.drew 9 #[.string tb]).cell 0) hN3 (by have := hgw1.size; omega)
            have hsl7 : StrsTo w7 w.heap.size Bs2 u8 la := (hsl.grown hgw1).below_ hbl7
            have hd7 := (hdr.grown hgw1).stand hos7
            have hj7 : JrAt w7 jb g ⟨o, gen + 1, false⟩ := ⟨hos7 _ _ _ (by decide) (hjr.grown hgw1 (by simp)).blk, hjr.file, hjr.gen⟩
            have hg7 := grown_more (only_alloc (only_drew hgr) (.cells #[.string tb] 9)) (hbl7.mono hB3)
            have hB7 : Bs2 ≤ w7.heap.size := by have := hbl7.size; have := hgw1.size; omega
            have HA := add_any (hH.grown hg7 (by simp)) hj0 hg0 hd7 hj7 tb (by omega)
            have hDb := hd7.at_
            obtain ⟨kv7, hDb7, _⟩ := hDb
            have hjb7 := hj7.blk
            have hc40 : c2' ≠ 0 → c ≠ 0 := fun h1 h2 => h1 (hcc2 h2)
            have hRA := run_add hrun2 (by omega) hsN
            clear hrun2 hhd hdr hjr hss hsl hgr hd7 hj7 hbl7 hos7 hgw1
            rcases hRA with ⟨D4, c4, ea, hrun4, hcc4⟩ | ⟨hc2, D4, J4, ea, hhd4⟩
            · rw [ea] at HA
              have HA := Lib.hid HA
              cases b3
              · skip
                go_wp2_with (at_builtin; refine wpList_append_run (by rfl) _ _ 23 (by rfl) (by rfl) (by rfl) hr7 ?_)
                refine HA.out.mono ?_
                rintro e w8 ⟨v8, rfl, he8, hd8, hj8, hduo8⟩
                obtain rfl := isErr_no he8
                simp only at hd8 hj8
                have hsl8 := hsl7.duo hduo8 hDb7 hjb7 (by decide) (by decide)
                have hst8 := hst7.duo hduo8 hDb7 hjb7 (by decide) (by decide)
                have hg8 := grown_duo hg7 hduo8 (by omega) (by omega)
                have hB8 : Bs2 ≤ w8.heap.size := by have := hduo8.size; omega
                clear hsl7 hst7 hg7 hduo8 hDb7 hjb7 he8 HA hr7
                go_wp2_with fail
                refine ⟨⟨i2 + 1, la, si ++ [tb], D4, Bs2, rfl, hsl8, hst8, hB3, hB8, hd8, hsN, hN1, by omega, hg8, .inl ⟨rfl, hj8, c4, hrun4, fun h => hcc4 (hcc2 h)⟩⟩, by simp [intOf]; omega⟩
              · have hS0 : i2 < l1.length := of_decide_eq_true d5
                have hS1 : (i2 : Int) < (l1.length : Int) := by omega
                obtain ⟨bs0, os0, rfl, hcs⟩ := hcell1 i2 hS0
                have hcs0 := (only_drew hgr0).cell hcs (by simp)
                generalize l1[i2] = sv at *
                cases sv
                · skip
                  go_wp2_with (at_builtin; refine wpList_append_run (by rfl) _ _ 23 (by rfl) (by rfl) (by rfl) hr7 ?_)
                  refine HA.out.mono ?_
                  rintro e w8 ⟨v8, rfl, he8, hd8, hj8, hduo8⟩
                  obtain rfl := isErr_no he8
                  simp only at hd8 hj8
                  have hsl8 := hsl7.duo hduo8 hDb7 hjb7 (by decide) (by decide)
                  have hst8 := hst7.duo hduo8 hDb7 hjb7 (by decide) (by decide)
                  have hg8 := grown_duo hg7 hduo8 (by omega) (by omega)
                  have hB8 : Bs2 ≤ w8.heap.size := by have := hduo8.size; omega
                  clear hsl7 hst7 hg7 hduo8 hDb7 hjb7 he8 HA hr7
                  go_wp2_with fail
                  refine ⟨⟨i2 + 1, la, si ++ [tb], D4, Bs2, rfl, hsl8, hst8, hB3, hB8, hd8, hsN, hN1, by omega, hg8, .inl ⟨rfl, hj8, c4, hrun4, fun h => hcc4 (hcc2 h)⟩⟩, by simp [intOf]; omega⟩
                · skip
                  go_wp2_with (at_builtin; refine wpList_append_run (by rfl) _ _ 23 (by rfl) (by rfl) (by rfl) hr7 ?_)
                  refine HA.out.mono ?_
                  rintro e w8 ⟨v8, rfl, he8, hd8, hj8, hduo8⟩
                  obtain rfl := isErr_no he8
                  simp only at hd8 hj8
                  have hsl8 := hsl7.duo hduo8 hDb7 hjb7 (by decide) (by decide)
                  have hst8 := hst7.duo hduo8 hDb7 hjb7 (by decide) (by decide)
                  have hg8 := grown_duo hg7 hduo8 (by omega) (by omega)
                  have hB8 : Bs2 ≤ w8.heap.size := by have := hduo8.size; omega
                  clear hsl7 hst7 hg7 hduo8 hDb7 hjb7 he8 HA hr7
                  have HS := jsync_any (hH.grown hg8 (by simp)) hj0 hg0 hd8 hj8
                  have hDb := hd8.at_
                  obtain ⟨kv8, hDb8, _⟩ := hDb
                  have hjb8 := hj8.blk
                  rcases run_sync hrun4 (by omega) hsN with ⟨D5, c5', es, hrun5, hcc5⟩ | ⟨hc5, D5, J5, es, hhd5⟩
                  · rw [es] at HS
                    have HS := Lib.hid HS
                    clear hrun4 hd8 hj8
                    go_wp2_with fail
                    refine HS.out.mono ?_
                    rintro e w9 ⟨v9, rfl, he9, hd9, hj9, hduo9⟩
                    obtain rfl := isErr_no he9
                    simp only at hd9 hj9
                    have hsl9 := hsl8.duo hduo9 hDb8 hjb8 (by decide) (by decide)
                    have hst9 := hst8.duo hduo9 hDb8 hjb8 (by decide) (by decide)
                    have hg9 := grown_duo hg8 hduo9 (by omega) (by omega)
                    obtain ⟨v10, w10, hr10, hst10, hos10, hbl10⟩ := run_append_texts (ty := 23) hsl9.at_ hst9 (by omega) hg9.size
                    have hd10 := hd9.stand hos10
                    have hj10 : JrAt w10 jb g ⟨o, gen + 1, false⟩ := ⟨hos10 _ _ _ (by decide) hj9.blk, hj9.file, hj9.gen⟩
                    have hg10 := grown_more hg9 hbl10
                    clear hsl8 hst8 hg8 hduo9 hDb8 hjb8 he9 HS hd9 hj9 hsl9 hst9 hos10 hbl10 hg9
                    go_wp2_with (at_builtin; refine wpList_append_want (by rfl) _ _ 23 (by rfl) (by rfl) (by rfl) hr10 ?_)
                    refine ⟨⟨i2 + 1, la ++ (si ++ [tb]), [], D5, w10.heap.size, rfl, hst10.to, StrsAt.nil _ _, hg10.size, Nat.le_refl _, hd10, by rw [List.append_nil]; exact hsN, by rw [List.append_nil]; exact hN1, by omega, hg10, .inl ⟨rfl, hj10, c5', hrun5, fun h => hcc5 (hcc4 (hcc2 h))⟩⟩, by simp [intOf]; omega⟩
                  · rw [es] at HS
                    have HS := Lib.hid HS
                    clear hrun4 hd8 hj8
                    go_wp2_with fail
                    refine HS.out.mono ?_
                    rintro e w9 ⟨v9, rfl, he9, hd9, hj9, hduo9⟩
                    simp only at hd9 he9
                    obtain ⟨p9, rfl, hf9⟩ := isErr_yes (by decide) he9
                    have hsl9 := hsl8.duo hduo9 hDb8 hjb8 (by decide) (by decide)
                    have hst9 := hst8.duo hduo9 hDb8 hjb8 (by decide) (by decide)
                    have hg9 := grown_duo hg8 hduo9 (by omega) (by omega)
                    have hB9 : Bs2 ≤ w9.heap.size := by have := hduo9.size; omega
                    clear hsl8 hst8 hg8 hduo9 hDb8 hjb8 he9 HS
                    go_wp2_with fail
                    refine ⟨⟨i2 + 1, la, si ++ [tb], D5, Bs2, rfl, hsl9, hst9, hB3, hB9, hd9, hsN, hN1, by omega, hg9, .inr ⟨fun h => hc5 (hcc4 (hcc2 h)), p9, rfl, hf9, hhd5.mono (by omega)⟩⟩, by simp [intOf]; omega⟩
            · rw [ea] at HA
              have HA := Lib.hid HA
              cases b3
              · skip
                go_wp2_with (at_builtin; refine wpList_append_run (by rfl) _ _ 23 (by rfl) (by rfl) (by rfl) hr7 ?_)
                refine HA.out.mono ?_
                rintro e w8 ⟨v8, rfl, he8, hd8, hj8, hduo8⟩
                simp only at hd8 he8
                obtain ⟨p8, rfl, hf8⟩ := isErr_yes (by decide) he8
                have hsl8 := hsl7.duo hduo8 hDb7 hjb7 (by decide) (by decide)
                have hst8 := hst7.duo hduo8 hDb7 hjb7 (by decide) (by decide)
                have hg8 := grown_duo hg7 hduo8 (by omega) (by omega)
                have hB8 : Bs2 ≤ w8.heap.size := by have := hduo8.size; omega
                clear hsl7 hst7 hg7 hduo8 hDb7 hjb7 he8 HA hr7
                go_wp2_with fail
                refine ⟨⟨i2 + 1, la, si ++ [tb], D4, Bs2, rfl, hsl8, hst8, hB3, hB8, hd8, hsN, hN1, by omega, hg8, .inr ⟨hc40 hc2, p8, rfl, hf8, hhd4.mono (by omega)⟩⟩, by simp [intOf]; omega⟩
              · have hS0 : i2 < l1.length := of_decide_eq_true d5
                have hS1 : (i2 : Int) < (l1.length : Int) := by omega
                obtain ⟨bs0, os0, rfl, hcs⟩ := hcell1 i2 hS0
                have hcs0 := (only_drew hgr0).cell hcs (by simp)
                generalize l1[i2] = sv at *
                cases sv
                · skip
                  go_wp2_with (at_builtin; refine wpList_append_run (by rfl) _ _ 23 (by rfl) (by rfl) (by rfl) hr7 ?_)
                  refine HA.out.mono ?_
                  rintro e w8 ⟨v8, rfl, he8, hd8, hj8, hduo8⟩
                  simp only at hd8 he8
                  obtain ⟨p8, rfl, hf8⟩ := isErr_yes (by decide) he8
                  have hsl8 := hsl7.duo hduo8 hDb7 hjb7 (by decide) (by decide)
                  have hst8 := hst7.duo hduo8 hDb7 hjb7 (by decide) (by decide)
                  have hg8 := grown_duo hg7 hduo8 (by omega) (by omega)
                  have hB8 : Bs2 ≤ w8.heap.size := by have := hduo8.size; omega
                  clear hsl7 hst7 hg7 hduo8 hDb7 hjb7 he8 HA hr7
                  go_wp2_with fail
                  refine ⟨⟨i2 + 1, la, si ++ [tb], D4, Bs2, rfl, hsl8, hst8, hB3, hB8, hd8, hsN, hN1, by omega, hg8, .inr ⟨hc40 hc2, p8, rfl, hf8, hhd4.mono (by omega)⟩⟩, by simp [intOf]; omega⟩
                · skip
                  go_wp2_with (at_builtin; refine wpList_append_run (by rfl) _ _ 23 (by rfl) (by rfl) (by rfl) hr7 ?_)
                  refine HA.out.mono ?_
                  rintro e w8 ⟨v8, rfl, he8, hd8, hj8, hduo8⟩
                  simp only at hd8 he8
                  obtain ⟨p8, rfl, hf8⟩ := isErr_yes (by decide) he8
                  have hsl8 := hsl7.duo hduo8 hDb7 hjb7 (by decide) (by decide)
                  have hst8 := hst7.duo hduo8 hDb7 hjb7 (by decide) (by decide)
                  have hg8 := grown_duo hg7 hduo8 (by omega) (by omega)
                  have hB8 : Bs2 ≤ w8.heap.size := by have := hduo8.size; omega
                  clear hsl7 hst7 hg7 hduo8 hDb7 hjb7 he8 HA hr7
                  go_wp2_with fail
                  refine ⟨⟨i2 + 1, la, si ++ [tb], D4, Bs2, rfl, hsl8, hst8, hB3, hB8, hd8, hsN, hN1, by omega, hg8, .inr ⟨hc40 hc2, p8, rfl, hf8, hhd4.mono (by omega)⟩⟩, by simp [intOf]; omega⟩
      · rw [eo] at hDopen
        have HO := Lib.hid hDopen
        clear hDopen
        go_wp2_with fail
        refine HO.out.mono ?_
        rintro e w3 ⟨hd3, hk3, hres⟩
        rcases hres with ⟨h, _⟩ | ⟨_, v3, rfl, he3⟩
        · cases h
        simp only at hd3 he3
        obtain ⟨p, rfl, hf⟩ := isErr_yes (by decide) he3
        have hg3 := grown_own hgb hk3 (by omega)
        obtain ⟨kv1, hDb1, _⟩ := hdb.at_
        have hsl3 : StrsTo w3 w.heap.size Bs u8 lasted := hslb.kept fun b cs _ _ hk => hk.grown hk3 (by simpa using Blk.ne_ hk hDb1 (by decide))
        have hss3 : StrsAt w3 Bs u9 since := hssb.kept fun b cs _ hk => hk.grown hk3 (by simpa using Blk.ne_ hk hDb1 (by decide))
        have HC := Lib.hid (code_240 (hH.grown hg3 (by simp)) (isErr_of (c := 240) (by decide) hf))
        go_wp2_with fail
        refine HC.out.mono ?_
        rintro e w4 ⟨rfl, hk4⟩
        go_wp2_with fail
        refine ⟨⟨n + 1, i, lasted, since, D2, Bs, rfl, rfl, hsl3.grown hk4, hss3.grown hk4, hB1, by have := hk3.size; have := hk4.size; omega, hd3.grown hk4, hhd2, hsh, hli, hi40, by omega, only_trans hg3 hk4⟩, by simp [intOf]; omega⟩
    · skip
      have hni : ¬ (n : Int) < (mm : Int) := by omega
      obtain ⟨wb, rfl⟩ : ∃ wb, wb = wa := ⟨_, rfl⟩
      obtain ⟨c, hc⟩ : ∃ c, (0 : Int).toNat = c := ⟨_, rfl⟩
      have hc0 : c = 0 := hc.symm
      have hOP := lasts_open (ks := []) hhd (by omega) hsh 0 hc
      rw [← hhd.asks] at hOP
      have hDopen := open_any (hH.grown hga (by simp)) hg0 hda
      generalize ([] : List Int) = ks at hOP
      have hgb := hga
      have hslb := hsla
      have hssb := hssa
      have hdb := hda
      have hwsb := hwsa
      generalize D.on = D1 at *
      have HG := Lib.hid hgb
      rcases hOP with ⟨D2, o, gen, k, c', eo, hk1', hk2', hgen, hrun, hcc⟩ | ⟨hcne, D2, J2, I2, eo, hhd2⟩
      · rw [eo] at hDopen
        have HO := Lib.hid hDopen
        clear hDopen
        go_wp2_with fail
        refine HO.out.mono ?_
        rintro e w3 ⟨hd3, hk3, hres⟩
        rcases hres with ⟨_, jb, v3, rfl, hjb, hj3, hst3⟩ | ⟨h, _⟩
        rotate_left
        · exact absurd rfl h
        simp only at hd3 hj3 hst3
        obtain ⟨A8, c8, rfl, _⟩ := hslb.at_.at_
        obtain ⟨A9, c9, rfl, _⟩ := hssb.at_
        obtain ⟨R, hR⟩ : ∃ R, R = (lasted ++ since).take k := ⟨_, rfl⟩
        have hRl : R.length = k := by rw [hR, List.length_take]; omega
        have hRs : Short R := by rw [hR]; exact hsh.take k
        rw [← hR] at hst3 hrun
        subst hRl
        have hst3' := hst3
        obtain ⟨A3, c3, rfl, _⟩ := hst3'.at_
        clear hst3'
        have hgw3 := grown_own HG.out hk3 (by omega)
        obtain ⟨kv1, hDb1, _⟩ := hdb.at_
        have hsl3 : StrsTo w3 w.heap.size Bs (.slice A8 lasted.length c8) lasted := hslb.kept fun b cs _ _ hk => hk.grown hk3 (by simpa using Blk.ne_ hk hDb1 (by decide))
        have hss3 : StrsAt w3 Bs (.slice A9 since.length c9) since := hssb.kept fun b cs _ hk => hk.grown hk3 (by simpa using Blk.ne_ hk hDb1 (by decide))
        have hlens : lasted.length + since.length ≤ 40 := by have := hsh.len; rw [List.length_append] at this; exact this
        rw [List.length_append] at hk2'
        obtain ⟨v4, w4, hr4, hst4, hos4, hbl4⟩ := run_append_texts (ty := 23) (StrsAt.nil w3 w3.heap.size) hsl3.at_ (by simp only [List.length_nil]; omega) (Nat.le_refl _)
        have hss4 : StrsAt w4 Bs (.slice A9 since.length c9) since := hss3.to.kept (fun b cs _ hlt hk => hk.below hbl4 hlt) |>.at_
        obtain ⟨v5, w5, hr5, hst5, hos5, hbl5⟩ := run_append_texts (ty := 23) hst4 hss4 (by rw [List.nil_append]; omega) hbl4.size
        rw [List.nil_append] at hst5
        have hb5 := hbl4.trans hbl5
        obtain ⟨A5, c5, rfl, _⟩ := hst5.at_
        have hc5 : (lasted ++ since).length ≤ c5 := by obtain ⟨A', c', hv, hle, _⟩ := hst5.at_; injection hv with _ _ e3; omega
        have htk := hst5.take (k := R.length) (by rw [List.length_append]; omega)
        rw [← hR] at htk
        clear hR
        have hst35 : StrsAt w5 w.heap.size (.slice A3 R.length c3) R := (hst3.to.kept (fun b cs _ hlt hk => hk.below hb5 hlt) |>.at_).mono (by have := hgb.size; omega)
        have HE := equal_any (hst35.mono (Nat.zero_le _)) (htk.mono (Nat.zero_le _)) (by have := hRs.len; omega)
        rw [show decide (R = R) = true from decide_eq_true rfl] at HE
        have HE := Lib.hid HE
        have hgw5 : w.grownBy w5 none := grown_more hgw3 (hb5.mono (by have := hgw3.size; omega))
        have hd5 := (hd3.stand hos4).stand hos5
        have hj5 : JrAt w5 jb g ⟨o, gen + 1, false⟩ := ⟨hos5 _ _ _ (by decide) (hos4 _ _ _ (by decide) hj3.blk), hj3.file, hj3.gen⟩
        have i1 : ¬ (R.length : Int) < (lasted.length : Int) := by omega
        have i2 : ¬ (lasted.length : Int) + (since.length : Int) < (R.length : Int) := by omega
        have i3 : (R.length : Int) ≤ (c5 : Int) := by rw [List.length_append] at hc5; omega
        have i4 : IntKind.i64.wrap ((lasted.length : Int) + (since.length : Int)) = (lasted.length : Int) + (since.length : Int) := IntWalk.i64_in _ (by omega)
        have d1 : decide (R.length < lasted.length) = false := decide_eq_false (by omega)
        have d2 : decide ((lasted.length : Int) + (since.length : Int) < (R.length : Int)) = false := decide_eq_false (by omega)
        unfold strE
        go_wp2_with (at_builtin; first | (refine wpList_append_want (by rfl) _ _ 23 (by rfl) (by rfl) (by rfl) hr4 ?_) | (refine wpList_append_want (by rfl) _ _ 23 (by rfl) (by rfl) (by rfl) hr5 ?_))
        refine HE.out.mono ?_
        rintro e w6 ⟨rfl, hk6⟩
        have hg6 := only_trans hgw5 hk6
        have hd6 := hd5.grown hk6
        have hj6 := hj5.grown hk6 (by simp)
        have hst6 := hst35.grown hk6
        have hjw : w.heap.size ≤ jb := by omega
        have hj0 : 0 < jb := by omega
        have hRi : R.length ≤ i := by rw [List.length_append] at hli; omega
        clear hr4 hr5 hos4 hos5 hbl4 hbl5 hss4 hst4 hst5 htk hst35 HE hd5 hj5 hd3 hj3 hst3 hsl3 hss3 hslb hssb hsla hssa i1 i2 i3 i4 d1 d2 hb5 HG HO
        go_wp2_with fail
        go_loopw [8, 9, 10, 15] (fun sl ss iv ev wr => ∃ (i : Nat) (la si : List ByteArray) (D : Dk) (Bs : Nat), iv = .int .i64 (i : Int) ∧ StrsTo wr w.heap.size Bs sl la ∧ StrsAt wr Bs ss si ∧ w.heap.size ≤ Bs ∧ Bs ≤ wr.heap.size ∧ DiskAt wr g D ∧ Short (la ++ si) ∧ (la ++ si).length ≤ i ∧ i ≤ 40 ∧ w.grownBy wr none ∧ ((ev = .nilIface ∧ JrAt wr jb g ⟨o, gen + 1, false⟩ ∧ ∃ c', Run D o (gen + 1) la si c' ks ∧ (c = 0 → c' = 0)) ∨ (c ≠ 0 ∧ ∃ p, ev = .iface 97 (.pointer (some ⟨p, 0, none⟩)) ∧ Faulty wr p 240 ∧ HeadOk D.on la si (n + 1)))) (fun _ _ iv _ _ => 41 - (intOf iv).toNat)
        case atStart => exact ⟨i, R, [], D2, w6.heap.size, rfl, hst6.to, StrsAt.nil _ _, hg6.size, Nat.le_refl _, hd6, by rw [List.append_nil]; exact hRs, by rw [List.append_nil]; exact hRi, hi40, hg6, .inl ⟨rfl, hj6, c', hrun, hcc⟩⟩
        case round =>
          clear hli hi40 hgr hdb hda hd6 hj6 hst6 hg6 hgw5 hgw3 hgb hga
          obtain ⟨i2, la, si, D3, Bs2, rfl, hsl, hss, hB3, hB4, hdr, hsh2, hli, hi40, hgr, hst⟩ := hrel
          have hwsr := hgr.size
          obtain ⟨b1, d1⟩ : ∃ b, decide (i2 < l0.length) = b := ⟨_, rfl⟩
          obtain ⟨b2, d2⟩ : ∃ b, decide (i2 < 40) = b := ⟨_, rfl⟩
          have d3 : decide ((i2 : Int) < 40) = b2 := by rw [← d2]; exact decide_eq_decide.2 (by omega)
          rcases hst with ⟨rfl, hjr, c2', hrun2, hcc2⟩ | ⟨hcne, p, rfl, hf, hhd2⟩
          rotate_left
          · exact absurd hc0 hcne
          · cases b1
            · skip
              have HC := Lib.hid (crash_any hdr (ints_nil wr g) (by simp))
              go_wp2_with fail
              refine HC.out.mono ?_
              rintro e w7 ⟨rfl, hd7, hk7⟩
              have hg7 := grown_own hgr hk7 (by omega)
              have hsl7 := hsl.at_.own hk7 hdr
              have HO := open_any (hH.grown hg7 (by simp)) hg0 hd7
              obtain ⟨D8, J8, eo8⟩ := run_crash hrun2 (by omega) hsh2
              rw [eo8] at HO
              have HO := Lib.hid HO
              go_wp2_with fail
              refine HO.out.mono ?_
              rintro e w8 ⟨hd8, hk8, hres⟩
              rcases hres with ⟨_, jb8, v8, rfl, hjb8, hj8, hst8⟩ | ⟨h, _⟩
              rotate_left
              · exact absurd rfl h
              simp only at hst8 hd8
              have hg8 := grown_own hg7 hk8 (by omega)
              have hsl8 := hsl7.own hk8 hd7
              have HE := equal_any (hst8.mono (Nat.zero_le _)) (hsl8.mono (Nat.zero_le _)) (by have := hsh2.len; rw [List.length_append] at this; omega)
              rw [show decide (la = la) = true from decide_eq_true rfl] at HE
              have HE := Lib.hid HE
              go_wp2_with fail
              refine HE.out.mono ?_
              rintro e w9 ⟨rfl, hk9⟩
              go_wp2_with fail
              go_ret
              exact ⟨rfl, only_trans hg8 hk9⟩
            cases b2
            · skip
              have HC := Lib.hid (crash_any hdr (ints_nil wr g) (by simp))
              go_wp2_with fail
              refine HC.out.mono ?_
              rintro e w7 ⟨rfl, hd7, hk7⟩
              have hg7 := grown_own hgr hk7 (by omega)
              have hsl7 := hsl.at_.own hk7 hdr
              have HO := open_any (hH.grown hg7 (by simp)) hg0 hd7
              obtain ⟨D8, J8, eo8⟩ := run_crash hrun2 (by omega) hsh2
              rw [eo8] at HO
              have HO := Lib.hid HO
              go_wp2_with fail
              refine HO.out.mono ?_
              rintro e w8 ⟨hd8, hk8, hres⟩
              rcases hres with ⟨_, jb8, v8, rfl, hjb8, hj8, hst8⟩ | ⟨h, _⟩
              rotate_left
              · exact absurd rfl h
              simp only at hst8 hd8
              have hg8 := grown_own hg7 hk8 (by omega)
              have hsl8 := hsl7.own hk8 hd7
              have HE := equal_any (hst8.mono (Nat.zero_le _)) (hsl8.mono (Nat.zero_le _)) (by have := hsh2.len; rw [List.length_append] at this; omega)
              rw [show decide (la = la) = true from decide_eq_true rfl] at HE
              have HE := Lib.hid HE
              go_wp2_with fail
              refine HE.out.mono ?_
              rintro e w9 ⟨rfl, hk9⟩
              go_wp2_with fail
              go_ret
              exact ⟨rfl, only_trans hg8 hk9⟩
            have hgr0 := hgr
            have hI0 : i2 < l0.length := of_decide_eq_true d1
            have hI1 : i2 < 40 := of_decide_eq_true d2
            have hI2 : (i2 : Int) < (l0.length : Int) := by omega
            have hI3 : IntKind.i64.wrap ((i2 : Int) + 1) = (i2 : Int) + 1 := IntWalk.i64_in _ (by omega)
            obtain ⟨bb0, ob0, rfl, hcb⟩ := hcell0 i2 hI0
            have hcr := hgr.cell hcb (by simp)
            have hti := hl0 l0[i2] (List.getElem_mem hI0)
            generalize l0[i2] = tk at *
            obtain ⟨tb, htb⟩ : ∃ tb, tk.extract 0 (min (tk.size : Int) 100).toNat = tb := ⟨_, rfl⟩
            have htbs : tb.size ≤ 100 := by rw [← htb, ByteArray.size_extract]; omega
            unfold maxLen at hti
            have m0 : (0 : Int) ≤ min (tk.size : Int) 100 := by omega
            have m1 : min (tk.size : Int) 100 ≤ (tk.size : Int) := by omega
            go_wp2_with fail
            go_region
            obtain ⟨b3, d5⟩ : ∃ b, decide (i2 < l1.length) = b := ⟨_, rfl⟩
            have hsN := hsh2.add htbs (by omega)
            have hN1 : (la ++ (si ++ [tb])).length ≤ i2 + 1 := by rw [← List.append_assoc, List.length_append]; simp only [List.length_cons, List.length_nil]; omega
            have hN2 : la.length + (si ++ [tb]).length ≤ 40 := by have := hsN.len; rw [List.length_append] at this; exact this
            have hN3 : si.length + 1 ≤ 100000000 := by rw [List.length_append] at hli; omega
            have hgw1 := only_alloc (only_drew (only_refl wr none)) (.cells #[.string tb] 9)
            obtain ⟨v7, w7, hr7, hst7, hos7, hbl7⟩ := run_append_text (ty := 23) (hss.grown hgw1) (ad := ⟨wr.drew.heap.size, 0, none⟩) (x := tb) ((Blk.new wr.drew 9 #[.string tb]).cell 0) hN3 (by have := hgw1.size; omega)
            have hsl7 : StrsTo w7 w.heap.size Bs2 u8 la := (hsl.grown hgw1).below_ hbl7
            have hd7 := (hdr.grown hgw1).stand hos7
            have hj7 : JrAt w7 jb g ⟨o, gen + 1, false⟩ := ⟨hos7 _ _ _ (by decide) (hjr.grown hgw1 (by simp)).blk, hjr.file, hjr.gen⟩
            have hg7 := grown_more (only_alloc (only_drew hgr) (.cells #[.string tb] 9)) (hbl7.mono hB3)
            have hB7 : Bs2 ≤ w7.heap.size := by have := hbl7.size; have := hgw1.size; omega
            have HA := add_any (hH.grown hg7 (by simp)) hj0 hg0 hd7 hj7 tb (by omega)
            have hDb := hd7.at_
            obtain ⟨kv7, hDb7, _⟩ := hDb
            have hjb7 := hj7.blk
            have hc40 : c2' ≠ 0 → c ≠ 0 := fun h1 h2 => h1 (hcc2 h2)
            have hRA := run_add hrun2 (by omega) hsN
            clear hrun2 hhd hdr hjr hss hsl hgr hd7 hj7 hbl7 hos7 hgw1
            rcases hRA with ⟨D4, c4, ea, hrun4, hcc4⟩ | ⟨hc2, D4, J4, ea, hhd4⟩
            · rw [ea] at HA
              have HA := Lib.hid HA
              cases b3
              · skip
                go_wp2_with (at_builtin; refine wpList_append_run (by rfl) _ _ 23 (by rfl) (by rfl) (by rfl) hr7 ?_)
                refine HA.out.mono ?_
                rintro e w8 ⟨v8, rfl, he8, hd8, hj8, hduo8⟩
                obtain rfl := isErr_no he8
                simp only at hd8 hj8
                have hsl8 := hsl7.duo hduo8 hDb7 hjb7 (by decide) (by decide)
                have hst8 := hst7.duo hduo8 hDb7 hjb7 (by decide) (by decide)
                have hg8 := grown_duo hg7 hduo8 (by omega) (by omega)
                have hB8 : Bs2 ≤ w8.heap.size := by have := hduo8.size; omega
                clear hsl7 hst7 hg7 hduo8 hDb7 hjb7 he8 HA hr7
                go_wp2_with fail
                refine ⟨⟨i2 + 1, la, si ++ [tb], D4, Bs2, rfl, hsl8, hst8, hB3, hB8, hd8, hsN, hN1, by omega, hg8, .inl ⟨rfl, hj8, c4, hrun4, fun h => hcc4 (hcc2 h)⟩⟩, by simp [intOf]; omega⟩
              · have hS0 : i2 < l1.length := of_decide_eq_true d5
                have hS1 : (i2 : Int) < (l1.length : Int) := by omega
                obtain ⟨bs0, os0, rfl, hcs⟩ := hcell1 i2 hS0
                have hcs0 := (only_drew hgr0).cell hcs (by simp)
                generalize l1[i2] = sv at *
                cases sv
                · skip
                  go_wp2_with (at_builtin; refine wpList_append_run (by rfl) _ _ 23 (by rfl) (by rfl) (by rfl) hr7 ?_)
                  refine HA.out.mono ?_
                  rintro e w8 ⟨v8, rfl, he8, hd8, hj8, hduo8⟩
                  obtain rfl := isErr_no he8
                  simp only at hd8 hj8
                  have hsl8 := hsl7.duo hduo8 hDb7 hjb7 (by decide) (by decide)
                  have hst8 := hst7.duo hduo8 hDb7 hjb7 (by decide) (by decide)
                  have hg8 := grown_duo hg7 hduo8 (by omega) (by omega)
                  have hB8 : Bs2 ≤ w8.heap.size := by have := hduo8.size; omega
                  clear hsl7 hst7 hg7 hduo8 hDb7 hjb7 he8 HA hr7
                  go_wp2_with fail
                  refine ⟨⟨i2 + 1, la, si ++ [tb], D4, Bs2, rfl, hsl8, hst8, hB3, hB8, hd8, hsN, hN1, by omega, hg8, .inl ⟨rfl, hj8, c4, hrun4, fun h => hcc4 (hcc2 h)⟩⟩, by simp [intOf]; omega⟩
                · skip
                  go_wp2_with (at_builtin; refine wpList_append_run (by rfl) _ _ 23 (by rfl) (by rfl) (by rfl) hr7 ?_)
                  refine HA.out.mono ?_
                  rintro e w8 ⟨v8, rfl, he8, hd8, hj8, hduo8⟩
                  obtain rfl := isErr_no he8
                  simp only at hd8 hj8
                  have hsl8 := hsl7.duo hduo8 hDb7 hjb7 (by decide) (by decide)
                  have hst8 := hst7.duo hduo8 hDb7 hjb7 (by decide) (by decide)
                  have hg8 := grown_duo hg7 hduo8 (by omega) (by omega)
                  have hB8 : Bs2 ≤ w8.heap.size := by have := hduo8.size; omega
                  clear hsl7 hst7 hg7 hduo8 hDb7 hjb7 he8 HA hr7
                  have HS := jsync_any (hH.grown hg8 (by simp)) hj0 hg0 hd8 hj8
                  have hDb := hd8.at_
                  obtain ⟨kv8, hDb8, _⟩ := hDb
                  have hjb8 := hj8.blk
                  rcases run_sync hrun4 (by omega) hsN with ⟨D5, c5', es, hrun5, hcc5⟩ | ⟨hc5, D5, J5, es, hhd5⟩
                  · rw [es] at HS
                    have HS := Lib.hid HS
                    clear hrun4 hd8 hj8
                    go_wp2_with fail
                    refine HS.out.mono ?_
                    rintro e w9 ⟨v9, rfl, he9, hd9, hj9, hduo9⟩
                    obtain rfl := isErr_no he9
                    simp only at hd9 hj9
                    have hsl9 := hsl8.duo hduo9 hDb8 hjb8 (by decide) (by decide)
                    have hst9 := hst8.duo hduo9 hDb8 hjb8 (by decide) (by decide)
                    have hg9 := grown_duo hg8 hduo9 (by omega) (by omega)
                    obtain ⟨v10, w10, hr10, hst10, hos10, hbl10⟩ := run_append_texts (ty := 23) hsl9.at_ hst9 (by omega) hg9.size
                    have hd10 := hd9.stand hos10
                    have hj10 : JrAt w10 jb g ⟨o, gen + 1, false⟩ := ⟨hos10 _ _ _ (by decide) hj9.blk, hj9.file, hj9.gen⟩
                    have hg10 := grown_more hg9 hbl10
                    clear hsl8 hst8 hg8 hduo9 hDb8 hjb8 he9 HS hd9 hj9 hsl9 hst9 hos10 hbl10 hg9
                    go_wp2_with (at_builtin; refine wpList_append_want (by rfl) _ _ 23 (by rfl) (by rfl) (by rfl) hr10 ?_)
                    refine ⟨⟨i2 + 1, la ++ (si ++ [tb]), [], D5, w10.heap.size, rfl, hst10.to, StrsAt.nil _ _, hg10.size, Nat.le_refl _, hd10, by rw [List.append_nil]; exact hsN, by rw [List.append_nil]; exact hN1, by omega, hg10, .inl ⟨rfl, hj10, c5', hrun5, fun h => hcc5 (hcc4 (hcc2 h))⟩⟩, by simp [intOf]; omega⟩
                  · rw [es] at HS
                    have HS := Lib.hid HS
                    clear hrun4 hd8 hj8
                    go_wp2_with fail
                    refine HS.out.mono ?_
                    rintro e w9 ⟨v9, rfl, he9, hd9, hj9, hduo9⟩
                    simp only at hd9 he9
                    obtain ⟨p9, rfl, hf9⟩ := isErr_yes (by decide) he9
                    have hsl9 := hsl8.duo hduo9 hDb8 hjb8 (by decide) (by decide)
                    have hst9 := hst8.duo hduo9 hDb8 hjb8 (by decide) (by decide)
                    have hg9 := grown_duo hg8 hduo9 (by omega) (by omega)
                    have hB9 : Bs2 ≤ w9.heap.size := by have := hduo9.size; omega
                    clear hsl8 hst8 hg8 hduo9 hDb8 hjb8 he9 HS
                    go_wp2_with fail
                    refine ⟨⟨i2 + 1, la, si ++ [tb], D5, Bs2, rfl, hsl9, hst9, hB3, hB9, hd9, hsN, hN1, by omega, hg9, .inr ⟨fun h => hc5 (hcc4 (hcc2 h)), p9, rfl, hf9, hhd5.mono (by omega)⟩⟩, by simp [intOf]; omega⟩
            · exact absurd hc0 (hc40 hc2)
      · rw [eo] at hDopen
        have HO := Lib.hid hDopen
        clear hDopen
        exact absurd hc0 hcne
end
end Go.Proofs.YtklcpckjmncdkaaDoor
