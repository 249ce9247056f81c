/- THE WALK of the statement TopWire. -/
import Derived.Test.YtcepfhnlbnlnhaaDoorWireP
import Derived.Test.YtcepfhnlbnlnhaaDoorReads9
import Derived.ArgAppend
import Derived.Deep.MidRow
import Derived.Deep.DeepCutAuto
import Derived.Deep.QuietTactic
namespace Go.Proofs.YtcepfhnlbnlnhaaDoor
set_option maxRecDepth 100000
open Go.RowKit

section
variable {w : World}
theorem text_one (k q id : Int) (T B : ByteArray) : (textZ k q id T B).all (·.oneCell') = true := by simp [textZ, Value.oneCell']
set_option maxHeartbeats 6400000 in
theorem wire_walk (hT : U8 w) (v0 v1 : Value) (l : List TextW) (h0 : Texts w v0 l) (z : List Int) (h1 : Nums w v1 z) :
    Calls Tryd.prog 3 #[v0, v1] w fun e w' => e = .returned (.bool true) ∧ w.grownBy w' none := by
  obtain ⟨A0, c0, rfl, hl0, hc0, hx0⟩ := h0
  obtain ⟨A1, c1, rfl, hl1, hc1, hn1, hx1⟩ := h1
  obtain ⟨m, hm⟩ : ∃ m : Nat, min (l.length : Int) 30 = (m : Int) := ⟨min l.length 30, by omega⟩
  obtain ⟨n, hn⟩ : ∃ n : Nat, min (z.length : Int) 200 = (n : Int) := ⟨min z.length 200, by omega⟩
  have hm1 : m ≤ l.length := by omega
  have hm2 : m ≤ 30 := by omega
  have hn2 : n ≤ z.length := by omega
  have hn3 : n ≤ 200 := by omega
  have hmx : max (m : Int) 0 = (m : Int) := by omega
  have HX0 := Lib.hid hx0
  have HX1 := Lib.hid (And.intro hn1 hx1)
  have HT := Lib.hid hT
  clear hx0 hx1 hn1 hT
  go_enter Tryd.func3, Tryd.ntmps3
  go_wp2_with fail
  refine reads_any.mono ?_
  rintro e w1 ⟨rfl, hg1⟩
  have HG1 := Lib.hid hg1
  clear hg1
  go_wp2_with fail
  go_loopw [5, 6, 33] (fun wv av iv wr => ∃ (i : Nat) (S : ByteArray), i ≤ m ∧ iv = .int .i64 (i : Int) ∧ av = .string S ∧ S.data.toList = encs (keptP (l.take i)) ∧ PRow wr w1.heap.size wv (keptP (l.take i)) ∧ w1.grownBy wr none) (fun _ _ iv _ => m - (intOf iv).toNat)
  case atStart => exact ⟨0, ⟨#[]⟩, Nat.zero_le _, rfl, rfl, by simp [keptP, encs], PRow.nil _ _, only_refl _ _⟩
  case round =>
    obtain ⟨i, S, hi, rfl, rfl, hS, hpr, hg⟩ := hrel
    have HS := Lib.hid hS
    have HPR := Lib.hid hpr
    have HG := Lib.hid hg
    clear hS hpr hg
    by_cases hlt : i < m
    · have i1 : (i : Int) < (m : Int) := by omega
      obtain ⟨-, -, -, b, off, rfl, x0, x1, x2, x3, x4⟩ := HX0.out i (by omega)
      have hgw : w.grownBy wr none := only_trans HG1.out HG.out
      have y0 := hgw.cell x0 (by simp)
      have y1 := hgw.cell x1 (by simp)
      have y2 := hgw.cell x2 (by simp)
      have y3 := hgw.cell x3 (by simp)
      have y4 := hgw.cell x4 (by simp)
      clear x0 x1 x2 x3 x4
      generalize hX : l[i] = X at *
      obtain ⟨k, q, id, T, B⟩ := X
      have HTW := Lib.hid (HT.out.kept hgw)
      have HGW := Lib.hid hgw
      clear hgw
      have hkp := keptP_snoc l i (by omega)
      rw [hX] at hkp
      have HKP := Lib.hid hkp
      clear hkp
      have hpe : (TextW.mk k q id T B).pk = mkPk k q id T B := rfl
      rw [hpe] at HKP
      have hpre := mk_pre k q id T B
      go_wp2_with fail
      refine (made_any k q id T B).mono ?_
      rintro e w2 ⟨sv, rfl, hmade, hk2⟩
      generalize hpv : mkPk k q id T B = pv at *
      clear hpv
      obtain ⟨A4, l4, c4, rfl⟩ := hmade.slice
      have hk1 : wr.grownBy w2 none := only_trans (only_alloc (only_refl wr none) _) hk2
      have hmade1 := hmade
      have hone := cells_one pv A4 l4 c4
      have hcsz := cells_size pv (.slice A4 l4 c4)
      have hfill := fill_pk pv (.slice A4 l4 c4)
      generalize hcs : pv.cells (.slice A4 l4 c4) = cs at *
      have HA := Lib.hid (Blk.new w2 37 (ackZ 0 0))
      have HB := Lib.hid (HA.out.rowed cs)
      have hg3 : w2.grownBy ((w2.alloc (.cells (ackZ 0 0) 37)).setRow w2.heap.size cs) none := only_row (only_alloc (only_refl w2 none) _) (Nat.le_refl _) _
      have hput := put_any (HTW.out.kept (only_trans hk1 hg3)) pv hpre (hmade1.kept hg3)
      rw [hcs] at hput
      have HPUT := Lib.hid hput
      have HOne := Lib.hid hone
      have HC := Lib.hid hcsz
      have HF := Lib.hid hfill
      have hinfo : (Tryd.prog.info? 37).map (·.size) = some cs.size := by rw [hcsz]; kernel_rfl
      have HI := Lib.hid hinfo
      have HK1 := Lib.hid hk1
      have HG3 := Lib.hid hg3
      have HM := Lib.hid hmade
      have HCS := Lib.hid hcs
      clear hone hcsz hfill hput hmade hmade1 hinfo hk1 hk2 hg3 hcs
      go_wp2_with (first
        | (refine wpList_load_row (by rfl) 37 _ (by rfl) w2.heap.size (by rfl) 37 _ (0, 0) _ HB.out Tryd.underlying37 (by rfl) HI.out ?_)
        | (refine wpList_store_row (by rfl) 37 _ _ (by rfl) w2.heap.size cs (by rfl) (by rfl) 37 _ HA.out HI.out (by rw [HC.out]; rfl) HOne.out ?_))
      refine HPUT.out.mono ?_
      rintro e w3 ⟨hk3, ⟨hbad, s, rfl, hs⟩ | ⟨hbad, rfl⟩⟩
      · rw [hbad] at HKP
        have hok := Pk.ok_of hpre hbad
        have hss : s.size ≤ 340 := by rw [size_list, hs]; exact Pk.enc_small hok
        have hSS : S.size ≤ 340 * 30 := by
          have h1 := encs_small (keptP (l.take i)) (keptP_ok _)
          have h2 := keptP_len (l.take i)
          rw [List.length_take] at h2
          rw [size_list, HS.out]
          have h3 : (keptP (l.take i)).length ≤ 30 := by omega
          have := Nat.mul_le_mul_left 340 h3
          omega
        have hbig : ¬ 9223372036854775807 < S.size + s.size := by omega
        have HB3 := Lib.hid (HB.out.grown hk3 (by simp))
        have hN := Blk.new w3 37 cs
        have HN := Lib.hid (row_news hN)
        have HO := Lib.hid (one_mem HOne.out)
        obtain ⟨vs, hvs⟩ := HPR.out
        have hgA : wr.grownBy w3 none := only_trans (only_trans HK1.out HG3.out) hk3
        have hg6 : wr.grownBy (w3.alloc (.cells cs 37)) none := only_alloc hgA _
        have hrow6 := World.ownsRow.kept hvs.2.1 hg6 (by cases u5.ownBlock <;> simp)
        obtain ⟨len, hlen⟩ : ∃ len, len = (keptP (l.take i)).length := ⟨_, rfl⟩
        have hlenb : len ≤ 30 := by
          have h2 := keptP_len (l.take i)
          rw [List.length_take] at h2
          omega
        rw [← hlen] at hrow6
        have HR6 := Lib.hid hrow6
        have hS6 : (w3.alloc (.cells cs 37)).heap.size = w3.heap.size + 1 := by simp
        have hws : w1.heap.size ≤ w3.heap.size := Nat.le_trans HG.out.size hgA.size
        have HHS := Lib.hid hs
        have HOk := Lib.hid hok
        have HGA := Lib.hid hgA
        have HG6 := Lib.hid hg6
        have HLen := Lib.hid hlen
        obtain ⟨ip, hip, hq0, hq1, hq2⟩ := info_parts Tryd.infoPack
        clear hs hok hN hg6 hrow6 hgA hlen
        go_wp2_with (first
          | (refine wpList_load_row (by rfl) 37 _ (by rfl) w2.heap.size (by rfl) 37 _ (0, 0) _ HB3.out Tryd.underlying37 (by rfl) HI.out ?_)
          | (refine wpList_buildSliceTo w3.heap.size rfl (by rfl) 25 37 1 _ (by rfl) cs ip _ Tryd.underlying25 hip hq0 (by rw [hq1]; decide) (by rw [hq1]; decide) (by rw [hq1, Array.toList_map]; exact HF.out) ?_)
          | (at_builtin; refine wpList_append_lies _ (by rfl) (.tmp 49) (.tmp 51) 25 (by rfl) w1.heap.size 37 ip _ 26 328 Tryd.underlying25 hip hq0 hq1 hq2 (by rfl) (by decide) u5 len _ (by rfl) HR6.out ⟨w3.heap.size, 0, none⟩ 1 1 cs.toList (by rfl) (by rw [Array.length_toList, HC.out]) HN.out HO.out (by omega) (by unfold maxLen; omega) (by omega) (Nat.le_trans (show w1.heap.size ≤ w3.heap.size + 1 by omega) (Nat.le_of_eq hS6.symm)) (w3.heap.size + 1) hS6 ?_; intro g1 cap w7 hown1 hg1 hat1 hlt1))
        have hj := hvs.join (w6 := w3.alloc (.cells cs 37)) (w7 := w7) (qs := [pv]) (us := [.slice A4 l4 c4]) (g1 := g1) (cap := cap) (n := w3.heap.size + 1) HG6.out rfl (fun k p sv hp hv => by
          cases k with
          | zero =>
            obtain rfl : pv = p := by simpa using hp
            obtain rfl : Value.slice A4 l4 c4 = sv := by simpa using hv
            exact ⟨⟨_, _, _, rfl⟩, ((HM.out.kept (only_trans HG3.out (only_alloc hk3 _))).subs)⟩
          | succ k => simp at hp) (by simp) HG.out.size (by rw [← HLen.out, rowsOf_one, HCS.out]; exact hown1) hg1 hat1 (Nat.le_of_eq hS6)
        rw [← HLen.out] at hj
        have hgg6 : w1.grownBy (w3.alloc (.cells cs 37)) none := only_trans HG.out HG6.out
        refine ⟨⟨i + 1, S ++ s, by omega, by go_num, rfl, ?_, ?_, ?_⟩, by simp [intOf]; omega⟩
        · rw [HKP.out, if_neg (by simp), encs_append, ByteArray.data_append, Array.toList_append, HS.out, HHS.out]
          simp [encs]
        · rw [HKP.out, if_neg (by simp)]
          exact ⟨_, hj⟩
        · cases hob : u5.ownBlock with
          | none => rw [hob] at hg1; exact only_trans hgg6 hg1
          | some g => rw [hob] at hg1; exact grown_own hgg6 hg1 (hvs.own hob).1
      · rw [hbad] at HKP
        go_wp2_with fail
        refine ⟨⟨i + 1, S, by omega, by go_num, rfl, ?_, ?_, ?_⟩, by simp [intOf]; omega⟩
        · rw [HKP.out]; simp only [if_true, List.append_nil]; exact HS.out
        · rw [HKP.out]; simp only [if_true, List.append_nil]
          exact HPR.out.kept (only_trans (only_trans HK1.out HG3.out) hk3)
        · exact only_trans HG.out (only_trans (only_trans HK1.out HG3.out) hk3)
    · obtain rfl : i = m := by omega
      have i1 : ¬ (i : Int) < (i : Int) := by omega
      clear i1
      have HTW := Lib.hid (HT.out.kept (only_trans HG1.out HG.out))
      go_wp2_with fail
      refine (snew_any 65536).mono ?_
      rintro e w2 ⟨rfl, hb2, hg2⟩
      have HB2 := Lib.hid hb2
      have HG2 := Lib.hid hg2
      clear hb2 hg2
      have hn4 : n ≤ c1 := by omega
      obtain ⟨ii, hii, hz0, hz1, hz2⟩ := info_parts Tryd.infoInt
      obtain ⟨hA1, hZ1⟩ := HX1.out
      have HA1 := Lib.hid hA1
      have hgw2 : w.grownBy (w2.alloc (.cells #[.int .i64 0] 3)) none := only_alloc (only_trans (only_trans HG1.out HG.out) HG2.out) _
      have hold : ∀ b, A1 = some b → ∀ j u, ((z.take n).map (Value.int .i64))[j]? = some u → (w2.alloc (.cells #[.int .i64 0] 3)).cell? (b.add j) = some u := by
        intro b hb j u hu
        rw [List.getElem?_map] at hu
        obtain ⟨x, hx, rfl⟩ := Option.map_eq_some_iff.1 hu
        obtain ⟨hj, rfl⟩ := List.getElem?_eq_some_iff.1 hx
        rw [List.length_take] at hj
        obtain ⟨_, b', off, hA, hc⟩ := hZ1 j (by omega)
        rw [hb] at hA
        obtain rfl := Option.some.inj hA
        rw [add_off, List.getElem_take]
        exact hgw2.cell hc (by simp)
      have HOld := Lib.hid hold
      clear hold hZ1 hA1 hgw2
      go_wp2_with (at_builtin; refine wpList_append_grows _ (by rfl) (.tmp 62) (.tmp 63) 23 (by rfl) 3 ii (.int .i64 0) 1 8 Tryd.underlying23 hii hz0 hz1 hz2 rfl (by decide) A1 n n ((z.take n).map (Value.int .i64)) ?hs ?hnone ?hlo HOld.out ⟨w2.heap.size, 0, none⟩ 1 1 [.int .i64 0] ?hx rfl ?hc ?h1c (by omega) (by unfold maxLen; omega) (by omega) ?hK)
      case hs => rfl
      case hnone => intro h; have := HA1.out h; omega
      case hlo => simp; omega
      case hx => rfl
      case hc =>
        intro j u hu
        cases j with
        | zero =>
          obtain rfl : Value.int .i64 0 = u := by simpa using hu
          have := (Blk.new w2 3 #[.int .i64 0]).cell 0
          rw [add_off]
          exact this
        | succ j => simp at hu
      case h1c =>
        intro u hu
        obtain rfl : u = .int .i64 0 := by simpa using hu
        rfl
      case hK =>
        intro v3 w3 hown3 hgr3
        obtain ⟨gz, cz, rfl, hgz1, hgz2⟩ := World.ownsRow.form hown3 (by omega)
        obtain ⟨wo, rfl⟩ : ∃ wo : World, wo = wr := ⟨_, rfl⟩
        have hrgs : wo.heap.size < w2.heap.size := HB2.out.lt
        have hlen : (keptP (l.take i)).length ≤ 30 := by
          have h2 := keptP_len (l.take i)
          rw [List.length_take] at h2
          omega
        have hokp := keptP_ok (l.take i)
        have hwant := HPR.out.cells
        have hg23 : w2.grownBy w3 none := only_trans (only_alloc (only_refl w2 none) _) hgr3
        have hZ : ∀ k, k ≤ n → ∃ x, w3.cell? ⟨gz, k, none⟩ = some (.int .i64 x) ∧ (k = n → x = 0) := by
          intro k hk
          have hc := fun u hu => World.ownsRow.cells hown3 (g := gz) rfl k u hu
          simp only [add_off, Nat.zero_add] at hc
          have htl : (List.take n (z.map (Value.int .i64))).length = n := by rw [List.length_take, List.length_map]; omega
          by_cases hkn : k < n
          · refine ⟨z[k], hc _ ?_, fun h => by omega⟩
            rw [List.getElem?_append_left (by rw [htl]; exact hkn), List.getElem?_take, if_pos hkn, List.getElem?_map, List.getElem?_eq_getElem (by omega)]
            rfl
          · obtain rfl : k = n := by omega
            refine ⟨0, hc _ ?_, fun _ => rfl⟩
            rw [List.getElem?_append_right (by omega), htl, Nat.sub_self]
            rfl
        have hS := HS.out
        generalize hps : keptP (List.take i l) = ps at *
        clear hps
        have hgz3 : w2.heap.size + 1 ≤ gz := by simpa using hgz1
        have hwant3 := (hwant.kept HG2.out (Nat.le_refl _) (by simp)).kept hg23 (by omega) (by simp)
        have hblk3 := HB2.out.grown hg23 (by simp)
        have hg13 : w.grownBy w3 none := only_trans (only_trans (only_trans HG1.out HG.out) HG2.out) hg23
        have hT3 := HT.out.kept hg13
        have hws3 : wo.heap.size < w3.heap.size := by have := hg23.size; omega
        have hTs := HT.out.small
        have hws0 : w.heap.size ≤ wo.heap.size := by have := (only_trans HG1.out HG.out).size; omega
        have HZ := Lib.hid hZ
        have HW3 := Lib.hid hwant3
        have HB3 := Lib.hid hblk3
        have HG13 := Lib.hid hg13
        have HT3 := Lib.hid hT3
        have HHS := Lib.hid hS
        have HOKP := Lib.hid hokp
        clear hZ hwant3 hblk3 hg13 hT3 hS hokp hwant hg23 hown3 hgr3 hgz1 HOld HA1 HPR HX1 HX0 HS HTW HG2 HB2 HG
        generalize hrg : wo.heap.size = rg at *
        clear hrg
        go_wp2_with fail
        go_loopw [6, 13, 66] (fun sv gv iv wr => ∃ (k j : Nat) (L Y : ByteArray), k ≤ n + 1 ∧ iv = .int .i64 (k : Int) ∧ sv = .string Y ∧ Flow ps j L Y ∧ Blk wr rg 65 #[.int .i64 65536, .string L, .int .u8 0] ∧ PRow wr w3.heap.size gv (ps.take j) ∧ w3.grownBy wr (some rg) ∧ (k = n + 1 → j = ps.length ∧ L.size = 0 ∧ Y.size = 0)) (fun _ _ iv _ => n + 1 - (intOf iv).toNat)
        case atStart => exact ⟨0, 0, ⟨#[]⟩, S, Nat.zero_le _, rfl, rfl, ⟨Nat.zero_le _, by rw [List.drop_zero, ← HHS.out]; rfl⟩, HB3.out, PRow.nil _ _, only_refl _ _, fun h => by omega⟩
        case round =>
          obtain ⟨k, j, L, Y, hk, rfl, rfl, hfl, hblk, hpr, hg, hend⟩ := hrel
          by_cases hlt : k < n + 1
          · have k1 : (k : Int) < (n : Int) + 1 := by omega
            obtain ⟨x, hx, hxn⟩ := HZ.out k (by omega)
            have hx' := hg.cell hx (by simp; omega)
            have HB := Lib.hid hblk
            have HPR := Lib.hid hpr
            have HG := Lib.hid hg
            have HFL := Lib.hid hfl
            have HEND := Lib.hid hend
            clear hblk hpr hg hfl hend hx
            have hws := HG.out.size
            have hT' : U8 wr := HT3.out.grown HG.out (by simp; omega) (by simp; omega)
            by_cases hx0 : x = 0
            · subst hx0
              obtain ⟨m', L2, hm', hfl2, hend2, hfeed⟩ := feed_flow HFL.out HOKP.out hlen Y.size (Nat.le_refl _) HB.out hT'
              have hex : Y.extract 0 Y.size = Y := by simp
              have hey : Y.extract Y.size Y.size = ByteArray.empty := by simp
              rw [hex] at hfeed
              rw [hey] at hfl2
              have HFEED := Lib.hid hfeed
              have HE2 := Lib.hid hend2
              have HF2 := Lib.hid hfl2
              clear hfeed hend2 hfl2 hex hey hT'
              have htk : ps.take (j + m') = ps.take j ++ (ps.drop j).take m' := List.take_add
              have HTK := Lib.hid htk
              have hlq : (ps.take j).length + ((ps.drop j).take m').length ≤ 1000 := by rw [List.length_take, List.length_take, List.length_drop]; omega
              generalize hqs : (ps.drop j).take m' = qs at *
              clear htk hqs
              go_wp2_with fail
              refine HFEED.out.mono ?_
              rintro e w4 ⟨v4, rfl, hnil, hq, hblk4, hg4⟩
              obtain ⟨A4, c4, rfl⟩ := hq.slice
              go_wp2_with (first
                | (at_builtin; refine wpList_append_pk (wr := wr) (B := w3.heap.size) (rg := rg) (by rfl) (.tmp 90) (.tmp 91) (by rfl) hws HPR.out hg4 hws3 hnil hq hlq (by rfl) (by rfl) ?_; intro v5 w5 hpr5 hg5 hb5))
              have hblk5 := hblk4.grown hg5 (fun e => by have := hb5 rg e.symm; omega)
              have hg35 := only_own (only_own HG.out hg4 fun g e => .inl (by simp at e; exact e.symm)) hg5 fun g e => .inr (hb5 g e)
              rw [← HTK.out] at hpr5
              refine ⟨⟨k + 1, j + m', L2, ByteArray.empty, by omega, by go_num, rfl, HF2.out, hblk5, hpr5, hg35, fun h => ⟨(HE2.out trivial).1, (HE2.out trivial).2, rfl⟩⟩, by simp [intOf]; omega⟩
            · obtain ⟨K, hKK⟩ : ∃ K : Nat, min (max 0 x % 50) (Y.size : Int) = (K : Int) := ⟨(min (max 0 x % 50) (Y.size : Int)).toNat, by omega⟩
              have hKY : K ≤ Y.size := by omega
              have hKI : (K : Int) ≤ (Y.size : Int) := by omega
              obtain ⟨m', L2, hm', hfl2, hend2, hfeed⟩ := feed_flow HFL.out HOKP.out hlen K hKY HB.out hT'
              have HFEED := Lib.hid hfeed
              have HE2 := Lib.hid hend2
              have HF2 := Lib.hid hfl2
              clear hfeed hend2 hfl2 hT'
              have htk : ps.take (j + m') = ps.take j ++ (ps.drop j).take m' := List.take_add
              have HTK := Lib.hid htk
              have hlq : (ps.take j).length + ((ps.drop j).take m').length ≤ 1000 := by rw [List.length_take, List.length_take, List.length_drop]; omega
              generalize hqs : (ps.drop j).take m' = qs at *
              clear htk hqs
              go_wp2_with fail
              refine HFEED.out.mono ?_
              rintro e w4 ⟨v4, rfl, hnil, hq, hblk4, hg4⟩
              obtain ⟨A4, c4, rfl⟩ := hq.slice
              go_wp2_with (first
                | (at_builtin; refine wpList_append_pk (wr := wr) (B := w3.heap.size) (rg := rg) (by rfl) (.tmp 90) (.tmp 91) (by rfl) hws HPR.out hg4 hws3 hnil hq hlq (by rfl) (by rfl) ?_; intro v5 w5 hpr5 hg5 hb5))
              have hblk5 := hblk4.grown hg5 (fun e => by have := hb5 rg e.symm; omega)
              have hg35 := only_own (only_own HG.out hg4 fun g e => .inl (by simp at e; exact e.symm)) hg5 fun g e => .inr (hb5 g e)
              rw [← HTK.out] at hpr5
              refine ⟨⟨k + 1, j + m', L2, Y.extract K Y.size, by omega, by go_num, rfl, HF2.out, hblk5, hpr5, hg35, fun h => absurd (hxn (by omega)) hx0⟩, by simp [intOf]; omega⟩
          · obtain rfl : k = n + 1 := by omega
            have k1 : ¬ (n : Int) + 1 < (n : Int) + 1 := by omega
            obtain ⟨hj0, hL0, hY0⟩ := hend rfl
            have hT' : U8 wr := HT3.out.grown hg (by simp; omega) (by simp; omega)
            obtain rfl := str_empty Y hY0
            obtain rfl := str_empty L hL0
            subst hj0
            rw [List.take_length] at hpr
            have hws := hg.size
            have hfeed := feed_any (w := wr) ⟨#[]⟩ ⟨#[]⟩ [] [] 65536 (by omega) (by omega) hblk hT' rfl (.inl rfl) (by simp) (by simp) (by decide)
            have HFEED := Lib.hid hfeed
            obtain ⟨A5, c5, rfl⟩ := hpr.slice
            have hWW := HW3.out.kept hg (by omega) (by simp)
            obtain ⟨A6, c6, rfl, -⟩ := HW3.out
            have HPR := Lib.hid hpr
            have HG := Lib.hid hg
            have HWW := Lib.hid hWW
            have hlq : ps.length + ([] : List Pk).length ≤ 1000 := by simp; omega
            clear hfeed hblk hT' hpr hg hend hWW
            go_wp2_with fail
            refine HFEED.out.mono ?_
            rintro e w4 ⟨v4, rfl, hnil, hq, hblk4, hg4⟩
            obtain rfl := hnil trivial
            go_wp2_with (first
              | (at_builtin; refine wpList_append_pk (wr := wr) (B := w3.heap.size) (rg := rg) (by rfl) (.tmp 103) (.tmp 104) (by rfl) hws HPR.out hg4 hws3 (fun _ => rfl) hq hlq (by rfl) (by rfl) ?_; intro v5 w5 hpr5 hg5 hb5; rw [List.append_nil] at hpr5; obtain ⟨A7, c7, rfl⟩ := hpr5.slice; have hblk5 := hblk4.grown hg5 (fun e => by have := hb5 rg e.symm; omega))
              | (go_at_call 9; refine (left_any 65536 ⟨#[]⟩ hblk5).mono ?_; rintro e w6 ⟨rfl, rfl⟩))
            obtain ⟨A8, c8, e8, hgot⟩ := hpr5.cells
            injection e8 with e1 e2 e3
            subst e1 e3
            obtain ⟨A9, c9, e9, hwan⟩ := (HWW.out.kept hg4 (by omega) (by simp)).kept hg5 (by have := hg4.size; omega) (fun g e => by have := hb5 g e; omega)
            injection e9 with e1 e2 e3
            subst e1 e3
            have hg15 : w.grownBy w5 none := grown_own HG13.out (only_own (only_own HG.out hg4 fun g e => .inl (by simp at e; exact e.symm)) hg5 fun g e => .inr (hb5 g e)) (by omega)
            have hrg5 : rg < w5.heap.size := hblk5.lt
            have HGOT := Lib.hid hgot
            have HWAN := Lib.hid hwan
            have HG15 := Lib.hid hg15
            clear hgot hwan hg15 hpr5 hg5 hb5 hblk5 hblk4 hg4 hq hnil HPR HG HWW HFEED HZ HW3 HB3 HG13 HT3 HHS HOKP HG1 HT hlq hgz3
            go_loopw [122] (fun iv wr => ∃ k : Nat, k ≤ ps.length ∧ iv = .int .i64 (k : Int) ∧ w5.grownBy wr none) (fun iv _ => ps.length - (intOf iv).toNat)
            case atStart => exact ⟨0, Nat.zero_le _, rfl, only_refl _ _⟩
            case round =>
              obtain ⟨k, hk, rfl, hg⟩ := hrel
              by_cases hlt : k < ps.length
              · have k1 : (k : Int) < (ps.length : Int) := by omega
                have hpk : ps[k]? = some ps[k] := List.getElem?_eq_getElem hlt
                obtain ⟨ga, sa, rfl, hga, hra, hsa⟩ := HGOT.out k _ hpk
                obtain ⟨gb, sb, rfl, hgb, hrb, hsb⟩ := HWAN.out k _ hpk
                obtain ⟨K, Q, I, T, P, hform⟩ := Pk.form ps[k]
                obtain ⟨ln, S1, d1, S2, d2, rfl, rfl, hln, hsub⟩ := hsa.both (hsb)
                generalize ps[k] = p at *
                rw [hform] at hra hrb
                have hsz := hg.size
                obtain ⟨C1, hC1⟩ : ∃ C, C = pkZ K Q I T P (.slice S1 ln d1) := ⟨_, rfl⟩
                obtain ⟨C2, hC2⟩ : ∃ C, C = pkZ K Q I T P (.slice S2 ln d2) := ⟨_, rfl⟩
                rw [← hC1] at hra
                rw [← hC2] at hrb
                have hs1 : C1.size = 26 := by rw [hC1]; rfl
                have hs2 : C2.size = 26 := by rw [hC2]; rfl
                have ho1 : C1.all (·.oneCell') = true := by rw [hC1]; exact pk_one _ _ _ _ _ _ _ _
                have ho2 : C2.all (·.oneCell') = true := by rw [hC2]; exact pk_one _ _ _ _ _ _ _ _
                have hA1 := Blk.new wr 37 (ackZ 0 0)
                have hg1 : wr.grownBy ((wr.alloc (.cells (ackZ 0 0) 37)).setRow wr.heap.size C1) none := only_row (only_alloc (only_refl wr none) _) (Nat.le_refl _) _
                have hB1 := hA1.rowed C1
                have hz1 : ((wr.alloc (.cells (ackZ 0 0) 37)).setRow wr.heap.size C1).heap.size = wr.heap.size + 1 := by simp [World.setRow]
                have hA2 := Blk.new ((wr.alloc (.cells (ackZ 0 0) 37)).setRow wr.heap.size C1) 37 (ackZ 0 0)
                rw [hz1] at hA2
                have hB2 := hA2.rowed C2
                have hB1' := (hB1.alloc (.cells (ackZ 0 0) 37)).rowFar (g := wr.heap.size + 1) (by omega) C2
                have hg2 : wr.grownBy ((((wr.alloc (.cells (ackZ 0 0) 37)).setRow wr.heap.size C1).alloc (.cells (ackZ 0 0) 37)).setRow (wr.heap.size + 1) C2) none := only_row (only_alloc hg1 _) (by omega) _
                obtain ⟨a0, a3, a4, a5, a6, a24⟩ := pk_cells hB1' hC1
                obtain ⟨b0, b3, b4, b5, b6, b24⟩ := pk_cells hB2 hC2
                have hr1 := Lib.hid (rangeAt_kept hra (hg.block ga (by omega) (by simp)))
                have hr2 := Lib.hid (rangeAt_kept hrb (World.grownBy.block (only_trans hg hg1) gb (by omega) (by simp)))
                have HS1 := Lib.hid hs1
                have HS2 := Lib.hid hs2
                have HO1 := Lib.hid ho1
                have HO2 := Lib.hid ho2
                have HA1 := Lib.hid hA1
                have HA2 := Lib.hid hA2
                have HG2 := Lib.hid hg2
                have HSUB := Lib.hid hsub
                have HI1 : (Tryd.prog.info? 37).map (·.size) = some C1.size := by rw [hs1]; kernel_rfl
                have HI2 : (Tryd.prog.info? 37).map (·.size) = some C2.size := by rw [hs2]; kernel_rfl
                have HI1 := Lib.hid HI1
                have HI2 := Lib.hid HI2
                clear hs1 hs2 ho1 ho2 hA1 hA2 hg1 hg2 hB1 hB2 hB1' hC1 hC2 hra hrb hsub hform hsa hsb hz1
                unfold ackZ at a0 a3 a4 a5 a6 a24 b0 b3 b4 b5 b6 b24
                have tok1 : True := trivial
                have tok2 : True := trivial
                have tok3 : True := trivial
                have tok4 : True := trivial
                go_wp2_with (first
                  | (have _t := tok1; refine wpList_load_mid (by rfl) 37 _ (by rfl) ga (k * 26) (by rfl) C1.toList _ hr1.out Tryd.underlying37 (by rfl) (by rw [Array.length_toList]; exact HI1.out) ?_; clear tok1)
                  | (have _t := tok2; refine wpList_load_mid (by rfl) 37 _ (by rfl) gb (k * 26) (by rfl) C2.toList _ hr2.out Tryd.underlying37 (by rfl) (by rw [Array.length_toList]; exact HI2.out) ?_; clear tok2)
                  | (have _t := tok3; refine wpList_store_row (by rfl) 37 _ _ (by rfl) wr.heap.size C1 (by rfl) (by rfl) 37 _ HA1.out HI1.out (by rw [HS1.out]; rfl) HO1.out ?_; clear tok3)
                  | (have _t := tok4; refine wpList_store_row (by rfl) 37 _ _ (by rfl) (wr.heap.size + 1) C2 (by rfl) (by rfl) 37 _ HA2.out HI2.out (by rw [HS2.out]; rfl) HO2.out ?_; clear tok4))
                obtain ⟨wq, rfl⟩ : ∃ wq : World, wq = wr := ⟨_, rfl⟩
                obtain ⟨W6, hW6⟩ : ∃ W6, W6 = ((((wq.alloc (.cells (ackZ 0 0) 37)).setRow wq.heap.size C1).alloc (.cells (ackZ 0 0) 37)).setRow (wq.heap.size + 1) C2) := ⟨_, rfl⟩
                rw [← hW6] at HG2
                unfold ackZ at hW6
                rw [← hW6] at a24 b24 ⊢
                clear hW6 a0 a3 a4 a5 a6 b0 b3 b4 b5 b6 hr1 hr2 HS1 HS2 HO1 HO2 HA1 HA2 HI1 HI2 HGOT HWAN
                have hgS := Lib.hid (And.intro a24 b24)
                clear a24 b24
                go_loopw [176] (fun iv wr => ∃ i : Nat, i ≤ ln ∧ iv = .int .i64 (i : Int) ∧ W6.grownBy wr none) (fun iv _ => ln - (intOf iv).toNat)
                case atStart => exact ⟨0, Nat.zero_le _, rfl, only_refl _ _⟩
                case round =>
                  obtain ⟨i, hi, rfl, hg6⟩ := hrel
                  by_cases hlt6 : i < ln
                  · obtain rfl : i = 0 := by omega
                    obtain rfl : ln = 1 := by omega
                    obtain ⟨g1, g2, t, q, rfl, rfl, hg1l, hg2l, hr1, hr2⟩ := HSUB.out (by omega)
                    have hgq : w5.grownBy wr none := only_trans (only_trans hg HG2.out) hg6
                    have hr1' := rangeAt_kept hr1 (hgq.block g1 (by omega) (by simp))
                    have hr2' := rangeAt_kept hr2 (hgq.block g2 (by omega) (by simp))
                    have x0 : wr.cell? ⟨g1, 0, none⟩ = some (.string t) := hr1' 0 _ rfl
                    have x1 : wr.cell? ⟨g1, 1, none⟩ = some (.int .i64 (q : Int)) := by simpa using hr1' 1 _ rfl
                    have x2 : wr.cell? ⟨g1, 2, none⟩ = some (.bool false) := by simpa using hr1' 2 _ rfl
                    have x3 : wr.cell? ⟨g1, 3, none⟩ = some (.bool false) := by simpa using hr1' 3 _ rfl
                    have x4 : wr.cell? ⟨g1, 4, none⟩ = some (.int .i64 0) := by simpa using hr1' 4 _ rfl
                    have y0 : wr.cell? ⟨g2, 0, none⟩ = some (.string t) := hr2' 0 _ rfl
                    have y1 : wr.cell? ⟨g2, 1, none⟩ = some (.int .i64 (q : Int)) := by simpa using hr2' 1 _ rfl
                    have y2 : wr.cell? ⟨g2, 2, none⟩ = some (.bool false) := by simpa using hr2' 2 _ rfl
                    have y3 : wr.cell? ⟨g2, 3, none⟩ = some (.bool false) := by simpa using hr2' 3 _ rfl
                    have y4 : wr.cell? ⟨g2, 4, none⟩ = some (.int .i64 0) := by simpa using hr2' 4 _ rfl
                    have z1 := hg6.cell hgS.out.1 (by simp)
                    have z2 := hg6.cell hgS.out.2 (by simp)
                    have HG6 := Lib.hid hg6
                    clear hr1 hr2 hr1' hr2' hg6 hgq
                    go_wp2_with fail
                    go_quiet (fail)
                    go_wp2_with fail
                    exact ⟨⟨1, by omega, by go_num, only_drewN HG6.out _⟩, by simp [intOf]⟩
                  · obtain rfl : i = ln := by omega
                    have i1 : ¬ (i : Int) < (i : Int) := by omega
                    have hgE := Lib.hid (only_trans hg (only_trans HG2.out hg6))
                    clear hg6
                    go_wp2_with fail
                    exact ⟨⟨k + 1, by omega, by go_num, hgE.out⟩, by simp [intOf]; omega⟩
              · obtain rfl : k = ps.length := by omega
                have k1 : ¬ (ps.length : Int) < (ps.length : Int) := by omega
                have hgE := Lib.hid (only_trans HG15.out hg)
                clear hg
                go_wp2_with fail
                go_ret
                exact ⟨rfl, hgE.out⟩
end
end Go.Proofs.YtcepfhnlbnlnhaaDoor
