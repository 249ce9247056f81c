/- THE WALK of the journal's lay, its main way: both loops. -/
import Derived.Test.YtklcpckjmncdkaaGreatDoorLay
import Derived.Deep.DeepCutAuto
namespace Go.Proofs.YtklcpckjmncdkaaGreatDoor
set_option maxRecDepth 100000
open Go.RowKit

theorem texts_length (gen : Nat) (s : ByteArray) (recs : List ByteArray) : (texts gen s recs).length = 2 + recs.length := by simp [texts]; omega
theorem texts_cells (gen : Nat) (s : ByteArray) (recs : List ByteArray) : [Value.string ⟨(headL (gen + 1) (1 + recs.length)).toArray⟩, Value.string (markS ++ s)] ++ recs.map Value.string = (texts gen s recs).map Value.string := by simp [texts]
theorem texts_size {gen : Nat} {s : ByteArray} {recs : List ByteArray} (hs : s.size ≤ 100000000000) (hr : ∀ r ∈ recs, r.size ≤ 100000000000) : ∀ t ∈ texts gen s recs, t.size ≤ 200000000000 := by
  intro t ht
  simp only [texts, List.mem_cons] at ht
  rcases ht with rfl | rfl | ht
  · show (headL (gen + 1) (1 + recs.length)).toArray.size ≤ _
    simp [headL_length]
  · have : (markS ++ s).size = 1 + s.size := by simp [ByteArray.size_append, markS]; rfl
    omega
  · have := hr t ht; omega
theorem row2 {w : World} {base : Nat} (a b : Value) (hb : base ≤ w.heap.size) : (w.alloc (.cells #[a, b] 9)).ownsRow base 9 1 (.slice (some ⟨w.heap.size, 0, none⟩) 2 2) 2 [a, b] :=
  ⟨rfl, .inr ⟨w.heap.size, 2, #[a, b], rfl, hb, heap_alloc_new w _, Nat.le_refl _, by unfold maxLen; omega, rfl, rfl⟩⟩
theorem append1_size (a : UInt8) (s : ByteArray) : ((⟨#[a]⟩ : ByteArray) ++ s).size = 1 + s.size := by rw [ByteArray.size_append]; rfl

section
variable {w : World} {g jb : Nat} {D : Dk} {J : Jr}
set_option maxHeartbeats 6400000 in
theorem lay_main (hH : Hand w) (hg0 : 0 < g) (hj0 : 0 < jb) (h : DiskAt w g D) (hj : JrAt w jb g J) (s : ByteArray) (hs : s.size ≤ 100000000000) (v : Value) (recs : List ByteArray) (hv : StrsAt w 0 v recs) (hn : recs.length ≤ 16777216)
    (hr : ∀ r ∈ recs, r.size ≤ 100000000000) (hg : J.gen < 2147483647) :
    Calls Tryz.prog 38 #[.pointer (some ⟨jb, 0, none⟩), .string s, v] w (IsLay (jlay D J s recs) g jb w) := by
  obtain ⟨R, hR⟩ : ∃ R, R = jlay D J s recs := ⟨_, rfl⟩
  rw [← hR]
  unfold jlay at hR
  rw [if_neg (by omega)] at hR
  have hLl := texts_length J.gen s recs
  have hLc := texts_cells J.gen s recs
  have hLs := texts_size (gen := J.gen) hs hr
  have hHd0 : ∀ W : World, Calls Tryz.prog 76 #[.int .i64 ((J.gen : Int) + 1), .int .i64 (1 + (recs.length : Int))] W fun e w' => e = .returned (.string ⟨(headL (J.gen + 1) (1 + recs.length)).toArray⟩) ∧ Below W.heap.size W w' := fun W => head_any (J.gen + 1) (1 + recs.length) (by omega) (by omega) W
  have hHd := Lib.hid hHd0
  clear hHd0
  generalize hL : texts J.gen s recs = L at hR hLl hLc hLs
  obtain ⟨F, hF0⟩ : ∃ F, F = lframes 0 L [] := ⟨_, rfl⟩
  rw [← hF0] at hR
  have HF0 := Lib.hid hF0
  have HR := Lib.hid hR
  clear hR hF0 hL
  obtain ⟨c0, c1, c2, c3⟩ := hj.cells
  have hjl := hj.blk.lt
  have hgl := h.lt
  have hgi : ¬ (2147483647 : Int) ≤ (J.gen : Int) := by omega
  have hgb : decide ((2147483647 : Int) ≤ (J.gen : Int)) = false := by simpa using hgi
  obtain ⟨A, cv, hvA, hvr⟩ := hv.at_
  have hv' := hv
  subst hvA
  have hfr := Lib.hid (fun (W : World) (hW : Hand W) (c : Nat) => (failed_any (c := c) ⟨#[102, 114, 97, 109, 101]⟩ hW))
  have hdk := Lib.hid (fun (W : World) (hW : Hand W) (c : Nat) => (failed_any (c := c) ⟨#[100, 105, 115, 107]⟩ hW))
  have hw1 : IntKind.i64.wrap ((J.gen : Int) + 1) = (J.gen : Int) + 1 := IntWalk.i64_in _ (by omega)
  have hw2 : IntKind.i64.wrap (1 + (recs.length : Int)) = 1 + (recs.length : Int) := IntWalk.i64_in _ (by omega)
  have hsz : ¬ 9223372036854775807 < 1 + s.size := by omega
  have Hn := Lib.hid hn
  have Hs := Lib.hid hs
  have HLs := Lib.hid hLs
  have HLc := Lib.hid hLc
  have HLl := Lib.hid hLl
  have HH := Lib.hid hH
  have HD := Lib.hid h
  have HJ := Lib.hid hj
  have Hv := Lib.hid hv'
  have Hg := Lib.hid hg
  clear hn hs hr hLs hLc hLl hH h hj hv hv' hvr hg
  go_enter Tryz.func38, Tryz.ntmps38
  go_wp2_with fail
  refine (hHd.out _).mono ?_
  rintro e w3 ⟨rfl, hb3⟩
  have hg3 : w.grownBy w3 none := only_trans (only_alloc (only_alloc (only_refl w none) _) _) (grown_below hb3 (Nat.le_refl _))
  have hv3 := Hv.out.grown hg3
  have hs3 : w.heap.size + 2 ≤ w3.heap.size := by have := hb3.size; simpa using this
  have hrow := row2 (w := w3) (base := w.heap.size + 2) (.string ⟨(headL (J.gen + 1) (1 + recs.length)).toArray⟩) (.string ((⟨#[115]⟩ : ByteArray) ++ s)) hs3
  have hv4 := hv3.grown (only_alloc (only_refl w3 none) (.cells #[.string ⟨(headL (J.gen + 1) (1 + recs.length)).toArray⟩, .string ((⟨#[115]⟩ : ByteArray) ++ s)] 9))
  have hln : 2 + recs.length ≤ 100000000 := by have := Hn.out; omega
  have hbs : w.heap.size + 2 ≤ (w3.alloc (.cells #[.string ⟨(headL (J.gen + 1) (1 + recs.length)).toArray⟩, .string ((⟨#[115]⟩ : ByteArray) ++ s)] 9)).heap.size := by simp; omega
  go_wp2_with (at_builtin; refine wpList_append_strs (by rfl) _ _ (by rfl) (w.heap.size + 2) _ 2 _ (by rfl) hrow (by decide) (by rfl) hv4 hln hbs ?_; intro g2 cap w5 ho5 hg5)
  rw [show [Value.string ⟨(headL (J.gen + 1) (1 + recs.length)).toArray⟩, Value.string ((⟨#[115]⟩ : ByteArray) ++ s)] ++ recs.map Value.string = L.map Value.string from HLc.out] at ho5
  have hLl := HLl.out
  obtain ⟨pb, hpb⟩ : ∃ pb, pb = w.heap.size + 1 := ⟨_, rfl⟩
  obtain ⟨cur, hgb2, hblk5, hcap, hcm, hcsz, htk⟩ : ∃ cur, w.heap.size + 2 ≤ g2 ∧ Blk w5 g2 9 cur ∧ 2 + recs.length ≤ cap ∧ cap ≤ maxLen ∧ cur.size = cap * 1 ∧ cur.toList.take ((2 + recs.length) * 1) = L.map Value.string := by
    rcases ho5.2 with ⟨_, h0⟩ | ⟨g, cap', cur, hv, h1, h2, h3, h4, h5, h6⟩
    · exact absurd h0 (by omega)
    · injection hv with a1 a2 a3
      injection a1 with a1
      injection a1 with a1
      subst a1; subst a3
      exact ⟨cur, h1, h2, h3, h4, h5, h6⟩
  have hcell5 : ∀ j (hj : j < L.length), cur[j]? = some (.string L[j]) := row_cells (by rw [hLl]; exact htk)
  have hG25 : ((w.alloc (.cells #[.pointer (some ⟨jb, 0, none⟩)] 31)).alloc (.cells #[.pointer none, .slice none 0 0] 141)).grownBy w5 none := by
    have a := only_alloc (grown_below hb3 (Nat.le_refl _)) (.cells #[.string ⟨(headL (J.gen + 1) (1 + recs.length)).toArray⟩, .string ((⟨#[115]⟩ : ByteArray) ++ s)] 9)
    exact ⟨hg5.os.trans a.os, hg5.tape.trans a.tape, hg5.output.trans a.output, Nat.le_trans a.size hg5.size, fun i hi _ => (hg5.block i (Nat.lt_of_lt_of_le hi a.size) (by simp [Value.ownBlock]; simp at hi; omega)).trans (a.block i hi (by simp))⟩
  have hG5 : w.grownBy w5 none := only_trans (only_alloc (only_alloc (only_refl w none) _) _) hG25
  have hB5 : Lib.IsBuilderF 141 5 pb pb (Lib.byteCells []) w5 := by
    have a := Lib.IsBuilderF.of (Lib.fresh_isBuilder 141 5 (w.alloc (.cells #[.pointer (some ⟨jb, 0, none⟩)] 31)))
    have e : (w.alloc (.cells #[.pointer (some ⟨jb, 0, none⟩)] 31)).heap.size = pb := by simp [hpb]
    rw [e] at a
    exact isB_kept a (fun k _ hk => hG25.block k hk (by simp))
  have hpj5 : Blk w5 w.heap.size 31 #[.pointer (some ⟨jb, 0, none⟩)] := ((Blk.new w 31 _).alloc _).grown hG25 (by simp)
  have hD5 := HD.out.grown hG5
  have hJ5 := HJ.out.grown hG5 (by simp)
  have hH5 := HH.out.grown hG5 (by simp)
  have hs5 : w.heap.size + 2 ≤ w5.heap.size := by have := hG25.size; simpa using this
  clear hG25 hg5 ho5 htk hv4 hrow hbs hb3 hg3 hv3 hs3 HLc
  go_loopw [37] (fun iv wr => ∃ (k : Nat) (acc : List UInt8), iv = .int .i64 (k : Int) ∧ k ≤ L.length ∧ lframes k (L.drop k) acc = F ∧ acc.length ≤ k * 131200 ∧ Lib.IsBuilderF 141 5 pb pb (Lib.byteCells acc) wr ∧ Lk none pb w5 wr) (fun iv _ => L.length - (intOf iv).toNat)
  case atStart => exact ⟨0, [], rfl, Nat.zero_le _, HF0.out.symm, Nat.zero_le _, hB5, Lk.refl _ _ _⟩
  case round =>
    obtain ⟨k, acc, rfl, hk, hfl, hacc, hB, hlk⟩ := hrel
    have hln2 := Hn.out
    have hkw : IntKind.i64.wrap ((k : Int) + 1) = (k : Int) + 1 := IntWalk.i64_in _ (by omega)
    have hgr := (hlk.blk hblk5 (by simp) (by omega) (by decide))
    obtain ⟨bc, hbb⟩ := isB_blk hB
    have hDr := hD5.lk hlk (isB_blk hB5).choose_spec (by decide) (by omega)
    have hJr := hJ5.lk hlk (by simp) (by omega)
    have hHr := hH5.lk hlk (by simp) (by omega)
    have hpr := hlk.blk hpj5 (by simp) (by omega) (by decide)
    by_cases hkl : k < L.length
    · have hc2 := (hgr.cell k).trans (hcell5 k hkl)
      have hlt : (k : Int) < 2 + (recs.length : Int) := by omega
      have hk0 : (0 : Int) ≤ (k : Int) := by omega
      have htsz := HLs.out L[k] (List.getElem_mem hkl)
      have hdrop := List.drop_eq_getElem_cons hkl
      generalize L[k] = tk at *
      have Hgr := Lib.hid hgr
      have Htsz := Lib.hid htsz
      clear hgr htsz
      by_cases h1 : 1 < k
      · skip
        have hbody : lbody k tk = ((⟨#[114]⟩ : ByteArray) ++ tk) := by unfold lbody; rw [if_pos h1]; rfl
        have hstep : lframes k (L.drop k) acc = if (frameR ((⟨#[114]⟩ : ByteArray) ++ tk)).2 = 0 then lframes (k + 1) (L.drop (k + 1)) (acc ++ (frameR ((⟨#[114]⟩ : ByteArray) ++ tk)).1.data.toList) else ((frameR ((⟨#[114]⟩ : ByteArray) ++ tk)).2, acc) := by rw [hdrop]; simp only [lframes, hbody]
        rw [hstep] at hfl
        have Fr := fun W => frame_any ((⟨#[114]⟩ : ByteArray) ++ tk) (by have h1 := Htsz.out; rw [append1_size]; unfold maxLen; omega) W
        have Fs := frameR_size (s := ((⟨#[114]⟩ : ByteArray) ++ tk))
        clear hstep hbody hdrop
        generalize frameR ((⟨#[114]⟩ : ByteArray) ++ tk) = f at *
        obtain ⟨fb, fc⟩ := f
        simp only at hfl Fr Fs
        have FR := Lib.hid Fr
        clear Fr
        have hsz2 : ¬ 9223372036854775807 < 1 + tk.size := by have := Htsz.out; omega
        have h1i : (1 : Int) < (k : Int) := by omega
        by_cases hc : fc = 0
        · subst hc
          rw [if_pos rfl] at hfl
          have hfs := Fs rfl
          have Hfl := Lib.hid hfl
          clear hfl Fs
          go_wp2_with fail
          refine (FR.out _).mono ?_
          rintro e w1 ⟨rfl, hb1⟩
          go_wp2_with fail
          have hB1 := isB_kept hB (fun k _ hk => hb1.block k hk)
          rw [← hpb]
          refine (wstr_any pb pb (Lib.byteCells acc) fb w1 hB1 (by rw [Lib.byteCells_length]; omega) (Nat.le_of_lt (isB_blk hB1).choose_spec.lt)).mono ?_
          rintro e w2 ⟨rfl, hB2, hbl2, hok2⟩
          go_wp2_with fail
          go_roundw
          case rel =>
            refine ⟨k + 1, acc ++ fb.data.toList, rfl, by omega, Hfl.out, ?_, .inr (by rw [Lib.byteCells_append]; exact hB2), hlk.trans ((Lk.of_below hb1 (Nat.le_refl _) _).trans (Lk.of_builder hbl2 hok2))⟩
            rw [List.length_append, size_data]; omega
          case measure => simp [intOf]; omega
        · rw [if_neg hc] at hfl
          have hcb : ((fc : Int) != 0) = true := by simp [hc]
          subst hfl
          have hR2 : R = (fc, D, J) := by rw [HR.out]; exact if_pos hc
          clear HR Fs
          subst hR2
          go_wp2_with fail
          refine (FR.out _).mono ?_
          rintro e w1 ⟨rfl, hb1⟩
          go_wp2_with fail
          have hg1 := grown_below hb1 (Nat.le_refl _)
          refine (hfr.out w1 (hHr.grown hg1 (by simp)) fc).mono ?_
          rintro e w2 ⟨v2, rfl, he, hg2⟩
          go_wp2_with fail
          go_returns
          have hg12 := only_trans hg1 hg2
          exact ⟨v2, rfl, he, hDr.grown hg12, hJr.grown hg12 (by simp), (Duo.of_lk hG5 hlk (by omega) (fun _ e => by cases e)).trans (Duo.of_none hg12)⟩
      · skip
        have hbody : lbody k tk = tk := by unfold lbody; rw [if_neg h1]
        have hstep : lframes k (L.drop k) acc = if (frameR tk).2 = 0 then lframes (k + 1) (L.drop (k + 1)) (acc ++ (frameR tk).1.data.toList) else ((frameR tk).2, acc) := by rw [hdrop]; simp only [lframes, hbody]
        rw [hstep] at hfl
        have Fr := fun W => frame_any tk (by have h1 := Htsz.out; unfold maxLen; omega) W
        have Fs := frameR_size (s := tk)
        clear hstep hbody hdrop
        generalize frameR tk = f at *
        obtain ⟨fb, fc⟩ := f
        simp only at hfl Fr Fs
        have FR := Lib.hid Fr
        clear Fr
        have h1i : ¬ (1 : Int) < (k : Int) := by omega
        by_cases hc : fc = 0
        · subst hc
          rw [if_pos rfl] at hfl
          have hfs := Fs rfl
          have Hfl := Lib.hid hfl
          clear hfl Fs
          go_wp2_with fail
          refine (FR.out _).mono ?_
          rintro e w1 ⟨rfl, hb1⟩
          go_wp2_with fail
          have hB1 := isB_kept hB (fun k _ hk => hb1.block k hk)
          rw [← hpb]
          refine (wstr_any pb pb (Lib.byteCells acc) fb w1 hB1 (by rw [Lib.byteCells_length]; omega) (Nat.le_of_lt (isB_blk hB1).choose_spec.lt)).mono ?_
          rintro e w2 ⟨rfl, hB2, hbl2, hok2⟩
          go_wp2_with fail
          go_roundw
          case rel =>
            refine ⟨k + 1, acc ++ fb.data.toList, rfl, by omega, Hfl.out, ?_, .inr (by rw [Lib.byteCells_append]; exact hB2), hlk.trans ((Lk.of_below hb1 (Nat.le_refl _) _).trans (Lk.of_builder hbl2 hok2))⟩
            rw [List.length_append, size_data]; omega
          case measure => simp [intOf]; omega
        · rw [if_neg hc] at hfl
          have hcb : ((fc : Int) != 0) = true := by simp [hc]
          subst hfl
          have hR2 : R = (fc, D, J) := by rw [HR.out]; exact if_pos hc
          clear HR Fs
          subst hR2
          go_wp2_with fail
          refine (FR.out _).mono ?_
          rintro e w1 ⟨rfl, hb1⟩
          go_wp2_with fail
          have hg1 := grown_below hb1 (Nat.le_refl _)
          refine (hfr.out w1 (hHr.grown hg1 (by simp)) fc).mono ?_
          rintro e w2 ⟨v2, rfl, he, hg2⟩
          go_wp2_with fail
          go_returns
          have hg12 := only_trans hg1 hg2
          exact ⟨v2, rfl, he, hDr.grown hg12, hJr.grown hg12 (by simp), (Duo.of_lk hG5 hlk (by omega) (fun _ e => by cases e)).trans (Duo.of_none hg12)⟩
    · obtain ⟨wq, rfl⟩ : ∃ wq, wq = wr := ⟨_, rfl⟩
      have hdn : L.drop k = [] := List.drop_eq_nil_of_le (by omega)
      rw [hdn] at hfl
      obtain rfl : (0, acc) = F := hfl
      have hlt : ¬ ((k : Int) < 2 + (recs.length : Int)) := by omega
      obtain ⟨j0, j1, j2, j3⟩ := hJr.cells
      have pl0 := hpr.cell 0
      have hjlr := hJr.blk.lt
      have hplr := hpr.lt
      have hfile := HJ.out.file
      have hf1 : IntKind.i64.wrap (1 - J.file) = 1 - J.file := IntWalk.i64_in _ (by rcases hfile with h | h <;> omega)
      have hR2 : R = (if (three D (1 - J.file) ⟨acc.toArray⟩).1 ≠ 0 then ((three D (1 - J.file) ⟨acc.toArray⟩).1, (three D (1 - J.file) ⟨acc.toArray⟩).2, { J with broken := true }) else (0, (three D (1 - J.file) ⟨acc.toArray⟩).2, { J with file := 1 - J.file, gen := J.gen + 1 })) := HR.out
      unfold three at hR2
      have hal : acc.length ≤ maxLen := by unfold maxLen; omega
      obtain ⟨C1, hC1⟩ : ∃ C, C = D.doClear (1 - J.file) := ⟨_, rfl⟩
      rw [← hC1] at hR2
      obtain ⟨C2, hC2⟩ : ∃ C, C = C1.2.append (1 - J.file) ⟨acc.toArray⟩ := ⟨_, rfl⟩
      rw [← hC2] at hR2
      obtain ⟨C3, hC3⟩ : ∃ C, C = C2.2.doSync (1 - J.file) := ⟨_, rfl⟩
      rw [← hC3] at hR2
      have HR2 := Lib.hid hR2
      have HC1 := Lib.hid hC1
      have HC2 := Lib.hid hC2
      have HC3 := Lib.hid hC3
      clear hR2 hC1 hC2 hC3 HR hdn
      have hG6 : wq.grownBy ((wq.alloc (.cells #[.int .i64 (1 - J.file)] 3)).alloc (.cells #[(.func (.func 78) #[] #[.pointer (some ⟨w.heap.size, 0, none⟩), .pointer (some ⟨wq.heap.size, 0, none⟩)]), (.func (.func 79) #[] #[.pointer (some ⟨w.heap.size, 0, none⟩), .pointer (some ⟨wq.heap.size, 0, none⟩), .pointer (some ⟨w.heap.size + 1, 0, none⟩)]), (.func (.func 81) #[] #[.pointer (some ⟨w.heap.size, 0, none⟩), .pointer (some ⟨wq.heap.size, 0, none⟩)])] 145)) none := only_alloc (only_alloc (only_refl wq none) _) _
      have hpo6 : Blk ((wq.alloc (.cells #[.int .i64 (1 - J.file)] 3)).alloc (.cells #[(.func (.func 78) #[] #[.pointer (some ⟨w.heap.size, 0, none⟩), .pointer (some ⟨wq.heap.size, 0, none⟩)]), (.func (.func 79) #[] #[.pointer (some ⟨w.heap.size, 0, none⟩), .pointer (some ⟨wq.heap.size, 0, none⟩), .pointer (some ⟨w.heap.size + 1, 0, none⟩)]), (.func (.func 81) #[] #[.pointer (some ⟨w.heap.size, 0, none⟩), .pointer (some ⟨wq.heap.size, 0, none⟩)])] 145)) wq.heap.size 3 #[.int .i64 (1 - J.file)] := (Blk.new wq _ _).alloc _
      have hfb6 : Blk ((wq.alloc (.cells #[.int .i64 (1 - J.file)] 3)).alloc (.cells #[(.func (.func 78) #[] #[.pointer (some ⟨w.heap.size, 0, none⟩), .pointer (some ⟨wq.heap.size, 0, none⟩)]), (.func (.func 79) #[] #[.pointer (some ⟨w.heap.size, 0, none⟩), .pointer (some ⟨wq.heap.size, 0, none⟩), .pointer (some ⟨w.heap.size + 1, 0, none⟩)]), (.func (.func 81) #[] #[.pointer (some ⟨w.heap.size, 0, none⟩), .pointer (some ⟨wq.heap.size, 0, none⟩)])] 145)) (wq.heap.size + 1) 145 #[(.func (.func 78) #[] #[.pointer (some ⟨w.heap.size, 0, none⟩), .pointer (some ⟨wq.heap.size, 0, none⟩)]), (.func (.func 79) #[] #[.pointer (some ⟨w.heap.size, 0, none⟩), .pointer (some ⟨wq.heap.size, 0, none⟩), .pointer (some ⟨w.heap.size + 1, 0, none⟩)]), (.func (.func 81) #[] #[.pointer (some ⟨w.heap.size, 0, none⟩), .pointer (some ⟨wq.heap.size, 0, none⟩)])] := by
        have a := Blk.new (wq.alloc (.cells #[.int .i64 (1 - J.file)] 3)) 145 #[(.func (.func 78) #[] #[.pointer (some ⟨w.heap.size, 0, none⟩), .pointer (some ⟨wq.heap.size, 0, none⟩)]), (.func (.func 79) #[] #[.pointer (some ⟨w.heap.size, 0, none⟩), .pointer (some ⟨wq.heap.size, 0, none⟩), .pointer (some ⟨w.heap.size + 1, 0, none⟩)]), (.func (.func 81) #[] #[.pointer (some ⟨w.heap.size, 0, none⟩), .pointer (some ⟨wq.heap.size, 0, none⟩)])]
        rw [show (wq.alloc (.cells #[.int .i64 (1 - J.file)] 3)).heap.size = wq.heap.size + 1 by simp] at a
        exact a
      have hpj6 := hpr.grown hG6 (by simp)
      have hD6 := hDr.grown hG6
      have hJ6 := hJr.grown hG6 (by simp)
      have hH6 := hHr.grown hG6 (by simp)
      have hB6 := isB_kept hB (fun k _ hk => hG6.block k hk (by simp))
      have hpbl := hbb.lt
      obtain ⟨bc6, hbb6⟩ := isB_blk hB6
      have hw6 : w5.heap.size ≤ wq.heap.size := hlk.size
      have hjg := HJ.out.ne HD.out
      go_wp2_with fail
      go_loopw [68] (fun iv wr => ∃ m : Nat, iv = .int .i64 (m : Int) ∧ m ≤ 3 ∧ (1 ≤ m → C1.1 = 0) ∧ (2 ≤ m → C2.1 = 0) ∧ (3 ≤ m → C3.1 = 0) ∧ Lk (some g) pb ((wq.alloc (.cells #[.int .i64 (1 - J.file)] 3)).alloc (.cells #[(.func (.func 78) #[] #[.pointer (some ⟨w.heap.size, 0, none⟩), .pointer (some ⟨wq.heap.size, 0, none⟩)]), (.func (.func 79) #[] #[.pointer (some ⟨w.heap.size, 0, none⟩), .pointer (some ⟨wq.heap.size, 0, none⟩), .pointer (some ⟨w.heap.size + 1, 0, none⟩)]), (.func (.func 81) #[] #[.pointer (some ⟨w.heap.size, 0, none⟩), .pointer (some ⟨wq.heap.size, 0, none⟩)])] 145)) wr ∧ DiskAt wr g (if m = 0 then D else if m = 1 then C1.2 else if m = 2 then C2.2 else C3.2) ∧
        (m ≤ 1 → Lib.IsBuilderF 141 5 pb pb (Lib.byteCells acc) wr)) (fun iv _ => 3 - (intOf iv).toNat)
      case atStart => exact ⟨0, rfl, by omega, fun h => absurd h (by omega), fun h => absurd h (by omega), fun h => absurd h (by omega), Lk.refl _ _ _, hD6, fun _ => hB6⟩
      case round =>
        obtain ⟨m, rfl, hm, q1, q2, q3, hlx, hDx, hBx⟩ := hrel
        have hJx := hJ6.lk hlx (by simpa using hjg) (by omega)
        have hpjx := hlx.blk hpj6 (by simp; omega) (by omega) (by decide)
        have hpox := hlx.blk hpo6 (by simp; omega) (by omega) (by decide)
        have hfbx := hlx.blk hfb6 (by simp; omega) (by omega) (by decide)
        have hHx := hH6.lk hlx (by simp; omega) (by omega)
        have hLw : Lk (some g) pb w5 wr := (hlk.weak _).trans (((Lk.of_grown hG6 pb).weak _).trans hlx)
        have hDuo : Duo w wr g jb := Duo.of_lk hG5 hLw (by omega) (fun i e => .inl (by injection e))
        obtain ⟨x0, x1, x2, x3⟩ := hJx.cells
        have xf := fun i => hJx.blk.frozen i
        have xl := hJx.blk.lt
        have p0 := hpjx.cell 0
        have o0 := hpox.cell 0
        have hmw : IntKind.i64.wrap ((m : Int) + 1) = (m : Int) + 1 := IntWalk.i64_in _ (by omega)
        by_cases hm0 : m = 0
        · subst hm0
          have f0 : wr.cell? ⟨wq.heap.size + 1, 0, none⟩ = some (.func (.func 78) #[] #[.pointer (some ⟨w.heap.size, 0, none⟩), .pointer (some ⟨wq.heap.size, 0, none⟩)]) := hfbx.cell 0
          have hd0 : DiskAt wr g D := hDx
          have H1 := Lib.hid (lay1_any (n := 1 - J.file) hd0 hJx p0 o0 (by omega) (by omega))
          rw [← HC1.out] at H1
          clear hDx
          go_wp2_with fail
          refine H1.out.mono ?_
          rintro e w1 ⟨rfl, hd1, ho1⟩
          have hl1 : Lk (some g) pb wr w1 := Lk.of_grown ho1 pb
          have hDuo2 : Duo w w1 g jb := hDuo.trans (Duo.of_left ho1)
          have hJy := hJx.lk hl1 (by simpa using hjg) (by omega)
          have hpjy := hl1.blk hpjx (by simp; omega) (by omega) (by decide)
          have hHy := hHx.lk hl1 (by simp; omega) (by omega)
          by_cases hc : C1.1 = 0
          · have hcb : ((C1.1 : Int) != 0) = false := by simp [hc]
            go_wp2_with fail
            go_roundw
            case rel => exact ⟨1, rfl, by omega, fun _ => hc, fun h => absurd h (by omega), fun h => absurd h (by omega), hlx.trans hl1, hd1, fun _ => isB_kept (hBx (by omega)) (fun k hk1 hk => ho1.block k hk (by simp; omega))⟩
            case measure => simp [intOf]
          · have hR3 : R = (C1.1, C1.2, { J with broken := true }) := by
              rw [HR2.out]
              simp [hc]
            have hcb : ((C1.1 : Int) != 0) = true := by simp [hc]
            have y3 := hJy.cells.2.2.2
            have yf := fun i => hJy.blk.frozen i
            have y0 : w1.cell? ⟨w.heap.size, 0, none⟩ = some (.pointer (some ⟨jb, 0, none⟩)) := hpjy.cell 0
            have yl := hJy.blk.lt
            have hHz : Hand (w1.setCell ⟨jb, 3, none⟩ (.bool true)) := hHy.grown (only_put (only_refl _ _) _ _) (by simp; omega)
            have hDz : DiskAt (w1.setCell ⟨jb, 3, none⟩ (.bool true)) g C1.2 := hd1.far hJy.blk (by decide) (by omega) (only_put (only_refl _ _) _ _)
            have hJz : JrAt (w1.setCell ⟨jb, 3, none⟩ (.bool true)) jb g { J with broken := true } := ⟨hJy.blk.put 3 _, hfile, hJx.gen⟩
            clear xf x3
            go_wp2_with fail
            refine (hdk.out _ hHz C1.1).mono ?_
            rintro e w2 ⟨v2, rfl, he, hg2⟩
            go_wp2_with fail
            go_returns
            rw [hR3]
            exact ⟨v2, rfl, he, hDz.grown hg2, hJz.grown hg2 (by simp), hDuo2.trans ((Duo.of_right (only_put (only_refl _ _) _ _)).trans (Duo.of_none hg2))⟩
        by_cases hm1 : m = 1
        · subst hm1
          have f0 : wr.cell? ⟨wq.heap.size + 1, 1, none⟩ = some (.func (.func 79) #[] #[.pointer (some ⟨w.heap.size, 0, none⟩), .pointer (some ⟨wq.heap.size, 0, none⟩), .pointer (some ⟨w.heap.size + 1, 0, none⟩)]) := hfbx.cell 1
          have hd0 : DiskAt wr g C1.2 := hDx
          have e1 := q1 (by omega)
          have H1 := Lib.hid (lay2_any (n := 1 - J.file) (l := acc) hd0 hJx p0 o0 (by omega) (by omega) (hBx (by omega)) hal (by omega) (by omega) (by omega) ⟨_, hpox⟩)
          rw [← HC2.out] at H1
          clear hDx
          go_wp2_with fail
          rw [← hpb]
          refine H1.out.mono ?_
          rintro e w1 ⟨rfl, hd1, ho1⟩
          have hl1 : Lk (some g) pb wr w1 := ho1
          have hDuo2 : Duo w w1 g jb := Duo.of_lk hG5 (hLw.trans hl1) (by omega) (fun i e => .inl (by injection e))
          have hJy := hJx.lk hl1 (by simpa using hjg) (by omega)
          have hpjy := hl1.blk hpjx (by simp; omega) (by omega) (by decide)
          have hHy := hHx.lk hl1 (by simp; omega) (by omega)
          by_cases hc : C2.1 = 0
          · have hcb : ((C2.1 : Int) != 0) = false := by simp [hc]
            go_wp2_with fail
            go_roundw
            case rel => exact ⟨2, rfl, by omega, fun _ => e1, fun _ => hc, fun h => absurd h (by omega), hlx.trans hl1, hd1, fun h => absurd h (by omega)⟩
            case measure => simp [intOf]
          · have hR3 : R = (C2.1, C2.2, { J with broken := true }) := by
              rw [HR2.out]
              simp [hc, e1]
            have hcb : ((C2.1 : Int) != 0) = true := by simp [hc]
            have y3 := hJy.cells.2.2.2
            have yf := fun i => hJy.blk.frozen i
            have y0 : w1.cell? ⟨w.heap.size, 0, none⟩ = some (.pointer (some ⟨jb, 0, none⟩)) := hpjy.cell 0
            have yl := hJy.blk.lt
            have hHz : Hand (w1.setCell ⟨jb, 3, none⟩ (.bool true)) := hHy.grown (only_put (only_refl _ _) _ _) (by simp; omega)
            have hDz : DiskAt (w1.setCell ⟨jb, 3, none⟩ (.bool true)) g C2.2 := hd1.far hJy.blk (by decide) (by omega) (only_put (only_refl _ _) _ _)
            have hJz : JrAt (w1.setCell ⟨jb, 3, none⟩ (.bool true)) jb g { J with broken := true } := ⟨hJy.blk.put 3 _, hfile, hJx.gen⟩
            clear xf x3
            go_wp2_with fail
            refine (hdk.out _ hHz C2.1).mono ?_
            rintro e w2 ⟨v2, rfl, he, hg2⟩
            go_wp2_with fail
            go_returns
            rw [hR3]
            exact ⟨v2, rfl, he, hDz.grown hg2, hJz.grown hg2 (by simp), hDuo2.trans ((Duo.of_right (only_put (only_refl _ _) _ _)).trans (Duo.of_none hg2))⟩
        by_cases hm2 : m = 2
        · subst hm2
          have f0 : wr.cell? ⟨wq.heap.size + 1, 2, none⟩ = some (.func (.func 81) #[] #[.pointer (some ⟨w.heap.size, 0, none⟩), .pointer (some ⟨wq.heap.size, 0, none⟩)]) := hfbx.cell 2
          have hd0 : DiskAt wr g C2.2 := hDx
          have e1 := q1 (by omega)
          have e2 := q2 (by omega)
          have H1 := Lib.hid (lay3_any (n := 1 - J.file) hd0 hJx p0 o0 (by omega) (by omega))
          rw [← HC3.out] at H1
          clear hDx
          go_wp2_with fail
          refine H1.out.mono ?_
          rintro e w1 ⟨rfl, hd1, ho1⟩
          have hl1 : Lk (some g) pb wr w1 := Lk.of_grown ho1 pb
          have hDuo2 : Duo w w1 g jb := hDuo.trans (Duo.of_left ho1)
          have hJy := hJx.lk hl1 (by simpa using hjg) (by omega)
          have hpjy := hl1.blk hpjx (by simp; omega) (by omega) (by decide)
          have hHy := hHx.lk hl1 (by simp; omega) (by omega)
          by_cases hc : C3.1 = 0
          · have hcb : ((C3.1 : Int) != 0) = false := by simp [hc]
            go_wp2_with fail
            go_roundw
            case rel => exact ⟨3, rfl, by omega, fun _ => e1, fun _ => e2, fun _ => hc, hlx.trans hl1, hd1, fun h => absurd h (by omega)⟩
            case measure => simp [intOf]
          · have hR3 : R = (C3.1, C3.2, { J with broken := true }) := by
              rw [HR2.out]
              simp [hc, e1, e2]
            have hcb : ((C3.1 : Int) != 0) = true := by simp [hc]
            have y3 := hJy.cells.2.2.2
            have yf := fun i => hJy.blk.frozen i
            have y0 : w1.cell? ⟨w.heap.size, 0, none⟩ = some (.pointer (some ⟨jb, 0, none⟩)) := hpjy.cell 0
            have yl := hJy.blk.lt
            have hHz : Hand (w1.setCell ⟨jb, 3, none⟩ (.bool true)) := hHy.grown (only_put (only_refl _ _) _ _) (by simp; omega)
            have hDz : DiskAt (w1.setCell ⟨jb, 3, none⟩ (.bool true)) g C3.2 := hd1.far hJy.blk (by decide) (by omega) (only_put (only_refl _ _) _ _)
            have hJz : JrAt (w1.setCell ⟨jb, 3, none⟩ (.bool true)) jb g { J with broken := true } := ⟨hJy.blk.put 3 _, hfile, hJx.gen⟩
            clear xf x3
            go_wp2_with fail
            refine (hdk.out _ hHz C3.1).mono ?_
            rintro e w2 ⟨v2, rfl, he, hg2⟩
            go_wp2_with fail
            go_returns
            rw [hR3]
            exact ⟨v2, rfl, he, hDz.grown hg2, hJz.grown hg2 (by simp), hDuo2.trans ((Duo.of_right (only_put (only_refl _ _) _ _)).trans (Duo.of_none hg2))⟩
        obtain rfl : m = 3 := by omega
        have hd3 : DiskAt wr g C3.2 := hDx
        have e1 := q1 (by omega)
        have e2 := q2 (by omega)
        have e3 := q3 (by omega)
        have hR3 : R = (0, C3.2, { J with file := 1 - J.file, gen := J.gen + 1 }) := by
          rw [HR2.out]
          simp [e1, e2, e3]
        have hJz : JrAt ((wr.setCell ⟨jb, 1, none⟩ (.int .i64 (1 - J.file))).setCell ⟨jb, 2, none⟩ (.int .i64 ((J.gen : Int) + 1))) jb g { J with file := 1 - J.file, gen := J.gen + 1 } :=
          ⟨(hJx.blk.put 1 _).put 2 _, by rcases hfile with h | h <;> simp [h], by have := Hg.out; simp only; omega⟩
        have hDz : DiskAt ((wr.setCell ⟨jb, 1, none⟩ (.int .i64 (1 - J.file))).setCell ⟨jb, 2, none⟩ (.int .i64 ((J.gen : Int) + 1))) g C3.2 := hd3.far hJx.blk (by decide) (by omega) (only_put (only_put (only_refl _ _) _ _) _ _)
        have hDuoz := hDuo.trans (Duo.of_right (g := g) (only_put (only_put (only_refl wr (some jb)) 1 (.int .i64 (1 - J.file))) 2 (.int .i64 ((J.gen : Int) + 1))))
        go_wp2_with fail
        go_region
        all_goals (try go_wp2_with fail)
        all_goals go_returns
        all_goals exact ⟨.nilIface, rfl, .inl ⟨by rw [hR3], rfl⟩, by rw [hR3]; exact hDz.grown (only_drew (only_refl _ _)), by rw [hR3]; exact hJz.grown (only_drew (only_refl _ none)) (by simp), hDuoz.trans (Duo.of_none (only_drew (only_refl _ _)))⟩
end
end Go.Proofs.YtklcpckjmncdkaaGreatDoor
