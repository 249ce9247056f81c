/- THE WALK of DiskLasts. -/
import Derived.Test.YtklcpckjmncdkaaPlays
namespace Go.Proofs.Ytklcpckjmncdkaa
open Go.RowKit
attribute [local go_sem ↓] Go.wp_at_zero Go.wp_at_succ

/-- Nothing is asked of the power. -/
structure Calm (D : Dk) : Prop where
  off : D.off = false
  cut : D.cut = 0
theorem Calm.ticked {D : Dk} (h : Calm D) : Calm D.ticked := ⟨h.off, by show D.cut - 1 = 0; rw [h.cut]⟩
theorem Calm.broken {D : Dk} (h : Calm D) : Calm D.broken := by unfold Dk.broken; split <;> exact ⟨h.off, h.cut⟩
theorem Calm.change {D : Dk} (h : Calm D) {A C : Dk → Dk} (hA : ∀ E, Calm E → Calm (A E)) : Calm (D.change A C).2 := by
  unfold Dk.change
  rw [if_neg (by rw [h.cut]; decide)]
  split
  · exact h.ticked.broken
  · exact hA _ h.ticked.broken
theorem Calm.act {D : Dk} (h : Calm D) {a : ActD} (h1 : a.do_.tmod 9 < 4) (h2 : -4 < a.do_.tmod 9) : Calm (D.act a) := by
  have hn : (a.do_.tmod 9).natAbs = 0 ∨ (a.do_.tmod 9).natAbs = 1 ∨ (a.do_.tmod 9).natAbs = 2 ∨ (a.do_.tmod 9).natAbs = 3 := by omega
  unfold Dk.act
  rcases hn with h0 | h0 | h0 | h0
  · rw [h0]
    show Calm (D.append _ _).2
    unfold Dk.append
    split
    · exact h
    split
    · exact h
    split
    · exact h
    exact h.change fun E hE => by unfold Dk.put; split <;> exact ⟨hE.off, hE.cut⟩
  · rw [h0]
    show Calm (D.doSync _).2
    unfold Dk.doSync
    split
    · exact h
    · exact h.change fun E hE => by unfold Dk.sync; split <;> exact ⟨hE.off, hE.cut⟩
  · rw [h0]
    show Calm (D.doClear _).2
    unfold Dk.doClear
    split
    · exact h
    · exact h.change fun E hE => by unfold Dk.wipe; split <;> exact ⟨hE.off, hE.cut⟩
  · rw [h0]; exact h
theorem Calm.new (n : Int) : Calm (Dk.new n) := ⟨rfl, rfl⟩

/-- A file behind a loss of power: what lasted, and a beginning of the rest. -/
structure Left (b : ByteArray) (l : Nat) (s : ByteArray) : Prop where
  le : l ≤ s.size
  most : s.size ≤ b.size
  pre : b.extract 0 s.size = s
theorem left_of (b : ByteArray) (l : Nat) (k : Int) (h : l ≤ b.size) : Left b l (cutTo b l k) := by
  refine ⟨by rw [cutTo_size k h]; omega, cutTo_le k h, ?_⟩
  rw [cutTo_size k h]; rfl
/-- Both files read. -/
structure Reads (D : Dk) (s0 s1 : ByteArray) (l0 l1 : Nat) : Prop where
  r0 : D.read 0 = (s0, 0)
  r1 : D.read 1 = (s1, 0)
  l0 : D.lasts 0 = l0
  l1 : D.lasts 1 = l1
theorem Calm.reads {D : Dk} (h : D.off = false) : Reads D D.b0 D.b1 D.l0 D.l1 := by
  refine ⟨?_, ?_, rfl, rfl⟩ <;> simp [Dk.read, Dk.find, Dk.bytes, h]
section
variable {w : World} {g : Nat} {D : Dk} {s0 s1 : ByteArray} {l0 l1 : Nat}
theorem Reads.read0 (h : Reads D s0 s1 l0 l1) (hd : DiskAt w g D) : Calls Try.prog 19 #[.pointer (some ⟨g, 0, none⟩), .int .i64 0] w fun e w' => e = .returned (.tuple #[.string s0, .int .u8 0]) ∧ w = w' :=
  (read_any hd 0).mono fun e w' ⟨he, hw⟩ => ⟨by rw [he, h.r0]; rfl, hw⟩
theorem Reads.read1 (h : Reads D s0 s1 l0 l1) (hd : DiskAt w g D) : Calls Try.prog 19 #[.pointer (some ⟨g, 0, none⟩), .int .i64 1] w fun e w' => e = .returned (.tuple #[.string s1, .int .u8 0]) ∧ w = w' :=
  (read_any hd 1).mono fun e w' ⟨he, hw⟩ => ⟨by rw [he, h.r1]; rfl, hw⟩
theorem Reads.last0 (h : Reads D s0 s1 l0 l1) (hd : DiskAt w g D) : Calls Try.prog 20 #[.pointer (some ⟨g, 0, none⟩), .int .i64 0] w fun e w' => e = .returned (.int .i64 (l0 : Int)) ∧ w = w' :=
  (lasts_any hd 0).mono fun e w' ⟨he, hw⟩ => ⟨by rw [he, h.l0], hw⟩
theorem Reads.last1 (h : Reads D s0 s1 l0 l1) (hd : DiskAt w g D) : Calls Try.prog 20 #[.pointer (some ⟨g, 0, none⟩), .int .i64 1] w fun e w' => e = .returned (.int .i64 (l1 : Int)) ∧ w = w' :=
  (lasts_any hd 1).mono fun e w' ⟨he, hw⟩ => ⟨by rw [he, h.l1], hw⟩
end
/-- Behind the first loop. -/
structure Kept (D : Dk) (ks : List Int) (s0 s1 : ByteArray) : Prop where
  reads : Reads (D.crash ks) s0 s1 s0.size s1.size
  f0 : Left D.b0 D.l0 s0
  f1 : Left D.b1 D.l1 s1
theorem Calm.kept {D : Dk} (h : Calm D) (ok : D.Ok) (ks : List Int) : ∃ s0 s1, Kept D ks s0 s1 := by
  have e : D.crash ks = (D.lose ks).on := by unfold Dk.crash; rw [h.off]; rfl
  refine ⟨cutTo D.b0 D.l0 (ks.getD 0 0), cutTo D.b1 D.l1 (ks.getD 1 0), ?_, left_of _ _ _ ok.l0, left_of _ _ _ ok.l1⟩
  rw [e]
  exact Calm.reads rfl

/-- What was read ahead of the loss. -/
structure Noted (w : World) (p : Nat) (a b : ByteArray) (x y : Int) : Prop where
  was : Blk w p 45 #[.string a, .string b]
  last : Blk w (p + 1) 46 #[.int .i64 x, .int .i64 y]
theorem noted_new (w : World) : Noted ((w.alloc (.cells #[.string ⟨#[]⟩, .string ⟨#[]⟩] 45)).alloc (.cells #[.int .i64 0, .int .i64 0] 46)) w.heap.size ⟨#[]⟩ ⟨#[]⟩ 0 0 :=
  ⟨(Blk.new w _ _).alloc _, by have := Blk.new (w.alloc (.cells #[.string ⟨#[]⟩, .string ⟨#[]⟩] 45)) 46 #[.int .i64 0, .int .i64 0]; rwa [show (w.alloc (.cells #[.string ⟨#[]⟩, .string ⟨#[]⟩] 45)).heap.size = w.heap.size + 1 by simp] at this⟩
theorem Noted.put0 {w : World} {p : Nat} {a b : ByteArray} {x y : Int} (h : Noted w p a b x y) (a' : ByteArray) : Noted (w.setCell ⟨p, 0, none⟩ (.string a')) p a' b x y :=
  ⟨h.was.put 0 _, h.last.far (by show p + 1 ≠ p; omega) _⟩
theorem Noted.put1 {w : World} {p : Nat} {a b : ByteArray} {x y : Int} (h : Noted w p a b x y) (b' : ByteArray) : Noted (w.setCell ⟨p, 1, none⟩ (.string b')) p a b' x y :=
  ⟨h.was.put 1 _, h.last.far (by show p + 1 ≠ p; omega) _⟩
theorem Noted.set0 {w : World} {p : Nat} {a b : ByteArray} {x y : Int} (h : Noted w p a b x y) (x' : Int) : Noted (w.setCell ⟨p + 1, 0, none⟩ (.int .i64 x')) p a b x' y :=
  ⟨h.was.far (by show p ≠ p + 1; omega) _, h.last.put 0 _⟩
theorem Noted.set1 {w : World} {p : Nat} {a b : ByteArray} {x y : Int} (h : Noted w p a b x y) (y' : Int) : Noted (w.setCell ⟨p + 1, 1, none⟩ (.int .i64 y')) p a b x y' :=
  ⟨h.was.far (by show p ≠ p + 1; omega) _, h.last.put 1 _⟩
theorem Noted.diskS {w : World} {p g : Nat} {a b : ByteArray} {x y : Int} {D : Dk} (h : Noted w p a b x y) (hd : DiskAt w g D) (i : Nat) (u : Value) : DiskAt (w.setCell ⟨p, i, none⟩ u) g D := by
  obtain ⟨cs, hb⟩ := hd.blk
  exact hd.far h.was (by decide) (Blk.ne_ hb h.was (by decide)) (only_put (only_refl _ _) i u)
theorem Noted.diskI {w : World} {p g : Nat} {a b : ByteArray} {x y : Int} {D : Dk} (h : Noted w p a b x y) (hd : DiskAt w g D) (i : Nat) (u : Value) : DiskAt (w.setCell ⟨p + 1, i, none⟩ u) g D := by
  obtain ⟨cs, hb⟩ := hd.blk
  exact hd.far h.last (by decide) (Blk.ne_ hb h.last (by decide)) (only_put (only_refl _ _) i u)
theorem Noted.grown {w w' : World} {p g : Nat} {a b : ByteArray} {x y : Int} {D : Dk} (h : Noted w p a b x y) (hd : DiskAt w g D) (hg : w.grownBy w' (some g)) : Noted w' p a b x y := by
  obtain ⟨cs, hb⟩ := hd.blk
  exact ⟨h.was.grown hg (by have := Blk.ne_ h.was hb (by decide); simpa using this), h.last.grown hg (by have := Blk.ne_ h.last hb (by decide); simpa using this)⟩
/-- Behind m rounds of the second loop. -/
def Notes (w : World) (p : Nat) (D : Dk) (m : Nat) : Prop :=
  (m = 0 ∧ Noted w p ⟨#[]⟩ ⟨#[]⟩ 0 0) ∨ (m = 1 ∧ Noted w p D.b0 ⟨#[]⟩ D.l0 0) ∨ (m = 2 ∧ Noted w p D.b0 D.b1 D.l0 D.l1)

set_option maxRecDepth 100000 in
set_option maxHeartbeats 6400000 in
theorem lasts_law (w : World) {A : Option Addr} {c : Nat} {L : List ActW} (hScr : Script w w.heap.size A c L) {kA : Option Addr} {kc : Nat} {ks : List Int} (hKeep : IntsIn w w.heap.size kA kc ks) :
    Calls Try.prog 5 #[.slice A L.length c, .slice kA ks.length kc] w fun e w' => e = .returned (.bool true) ∧ Below w.heap.size w w' := by
  have hcap := hScr.cap
  have hmost := hScr.most
  unfold maxLen at hmost
  go_enter Try.func5, Try.ntmps5
  go_wp2_with fail
  refine (new_any 100000 _).mono ?_
  rintro e w1 ⟨g, rfl, hgs, hd0, hg0⟩
  go_wp2_with fail
  refine (rnew_any 100000 _).mono ?_
  rintro e w2 ⟨r, rfl, hrs, hr0, hg1⟩
  have hB4 : Both w2 g r (Dk.new 100000) := ⟨hd0.grown hg1, hr0⟩
  have hC4 := Calm.new 100000
  have b1 : Below w.heap.size w w1 := (Below.refl _ w).grown hg0 (Nat.le_refl _) (by simp)
  have b4 : Below w.heap.size w w2 := b1.grown hg1 b1.size (by simp)
  have ho : Own w.heap.size g r := ⟨hgs, Nat.le_trans b1.size hrs⟩
  clear hgs hrs hd0 hr0 b1 hg0 hg1
  generalize Dk.new 100000 = D0 at *
  go_upto_region 3 with fail
  go_cut [21, 22, 23] (fun s l i wx => (∃ n : Nat, n ≤ 60 ∧ n ≤ L.length ∧ s = .slice A n c ∧ l = .int .i64 (n : Int)) ∧ i = .int .i64 0 ∧ wx = w2)
  case first =>
    by_cases hq : L.length ≤ 60
    · go_wp2_with fail
      go_meet
      exact ⟨⟨L.length, hq, Nat.le_refl _, rfl, rfl⟩, rfl, rfl⟩
    · go_wp2_with fail
      go_meet
      exact ⟨⟨60, Nat.le_refl _, by omega, rfl, rfl⟩, rfl, rfl⟩
  case rest =>
    obtain ⟨⟨n, hn60, hnl, rfl, rfl⟩, rfl, rfl⟩ := hcut
    go_wp2_with fail
    go_loopw [23] (fun i wr => ∃ (m : Nat) (D : Dk), m ≤ n ∧ i = .int .i64 (m : Int) ∧ Both wr g r D ∧ Calm D ∧ Below w.heap.size w wr) (fun i _ => n - (intOf i).toNat)
    case atStart => exact ⟨0, _, Nat.zero_le _, rfl, hB4, hC4, b4⟩
    case round =>
      obtain ⟨m, D, hm, rfl, hB, hC, hb⟩ := hrel
      by_cases hlt : m < n
      · have hS := hScr.below hb
        have hml : m < L.length := by omega
        have hAct := hS.act m hml
        obtain ⟨b, off, hA, hbw, hcell⟩ := hS.cell m hml
        have q0 : wr.cell? ⟨b, off + m * 5, none⟩ = some (.int .i64 L[m].a.do_) := hcell 0 (by omega)
        have q1 : wr.cell? ⟨b, off + m * 5 + 1, none⟩ = some (.int .i64 L[m].a.file) := hcell 1 (by omega)
        have q2 : wr.cell? ⟨b, off + m * 5 + 2, none⟩ = some (.int .i64 L[m].a.n) := hcell 2 (by omega)
        have q3 : wr.cell? ⟨b, off + m * 5 + 3, none⟩ = some (.string L[m].a.data) := hcell 3 (by omega)
        have q4 : wr.cell? ⟨b, off + m * 5 + 4, none⟩ = some (.slice L[m].A L[m].a.keep.length L[m].c) := hcell 4 (by omega)
        clear hcell
        generalize L[m] = x at hAct q0 q1 q2 q3 q4
        have hgr : wr.grownBy (wr.alloc (.cells #[.int .i64 x.a.do_, .int .i64 x.a.file, .int .i64 x.a.n, .string x.a.data, .slice x.A x.a.keep.length x.c] 42)) none := only_alloc (only_refl _ _) _
        have hba := hb.alloc hb.size (.cells #[.int .i64 x.a.do_, .int .i64 x.a.file, .int .i64 x.a.n, .string x.a.data, .slice x.A x.a.keep.length x.c] 42)
        have hAx := hAct.below ((Below.refl _ _).alloc hb.size (.cells #[.int .i64 x.a.do_, .int .i64 x.a.file, .int .i64 x.a.n, .string x.a.data, .slice x.A x.a.keep.length x.c] 42))
        have hAt := Lib.hid (act_any (hB.grown hgr) (hAx.at_ ho.g ho.r))
        subst hA
        by_cases h1 : x.a.do_.tmod 9 < 4
        · by_cases h2 : -4 < x.a.do_.tmod 9
          · have hC' := Lib.hid (hC.act h1 h2)
            go_wp2_with fail
            refine hAt.out.mono ?_
            rintro e w5 ⟨rfl, hB5, h25⟩
            have b5 : Below w.heap.size w w5 := below_two hba hba.size h25 ho
            clear q0 q1 q2 q3 q4
            go_wp2_with fail
            go_roundw
            case rel => exact ⟨m + 1, _, by omega, by simp, hB5, hC'.out, b5⟩
            case measure =>
              show n - (intOf (Value.int .i64 ((m : Int) + 1))).toNat < n - (intOf (Value.int .i64 (m : Int))).toNat
              simp only [intOf]
              omega
          · go_wp2_with fail
            go_roundw
            case rel => exact ⟨m + 1, _, by omega, by simp, hB.grown hgr, hC, hba⟩
            case measure =>
              show n - (intOf (Value.int .i64 ((m : Int) + 1))).toNat < n - (intOf (Value.int .i64 (m : Int))).toNat
              simp only [intOf]
              omega
        · go_wp2_with fail
          go_roundw
          case rel => exact ⟨m + 1, _, by omega, by simp, hB.grown hgr, hC, hba⟩
          case measure =>
            show n - (intOf (Value.int .i64 ((m : Int) + 1))).toNat < n - (intOf (Value.int .i64 (m : Int))).toNat
            simp only [intOf]
            omega
      · obtain rfl : m = n := by omega
        clear hlt hm hcap hmost hScr
        have hRd := Calm.reads hC.off
        obtain ⟨s0, s1, hK⟩ := hC.kept hB.d.ok ks
        have hD := hB.d
        have hlb0 := hD.ok.l0
        have hlb1 := hD.ok.l1
        have hsum := hD.ok.sum
        have hlim := hD.ok.lim
        have hKb := (hKeep.below hb).ints ho.g
        have hK64 := hKeep.i64
        have hb' := (hb.alloc hb.size (.cells #[.string ⟨#[]⟩, .string ⟨#[]⟩] 45))
        have hb'' := hb'.alloc hb'.size (.cells #[.int .i64 0, .int .i64 0] 46)
        have hD'' := hD.grown (only_alloc (only_alloc (only_refl wr none) (.cells #[.string ⟨#[]⟩, .string ⟨#[]⟩] 45)) (.cells #[.int .i64 0, .int .i64 0] 46))
        have hN := noted_new wr
        have hpB : w.heap.size ≤ wr.heap.size := hb.size
        clear hB hC hb hb' hD hKb
        obtain ⟨p, hp⟩ : ∃ p, wr.heap.size = p := ⟨_, rfl⟩
        rw [hp] at hN hpB
        go_wp2_with fail
        clear hp
        go_loopw [42] (fun i wx => ∃ k : Nat, i = .int .i64 (k : Int) ∧ Notes wx p D k ∧ DiskAt wx g D ∧ Below w.heap.size w wx) (fun i _ => 2 - (intOf i).toNat)
        case atStart => exact ⟨0, rfl, .inl ⟨rfl, hN⟩, hD'', hb''⟩
        case round =>
          clear hN hD'' hb''
          obtain ⟨k, rfl, hN, hD, hb⟩ := hrel
          rcases hN with ⟨rfl, hN⟩ | ⟨rfl, hN⟩ | ⟨rfl, hN⟩
          · skip
            have c0 := hN.was.cell 0
            have f0 := hN.was.frozen 0
            have hN1 := hN.put0 D.b0
            have c1 := hN1.last.cell 0
            have f1 := hN1.last.frozen 0
            have hD1 := hN.diskS hD 0 (.string D.b0)
            have hN2 := hN1.set0 D.l0
            have hD2 := hN1.diskI hD1 0 (.int .i64 (D.l0 : Int))
            have hb1 := (hb.setCell (p := ⟨p, 0, none⟩) hpB (.string D.b0)).setCell (p := ⟨p + 1, 0, none⟩) (by show w.heap.size ≤ p + 1; omega) (.int .i64 (D.l0 : Int))
            have hC1 := Lib.hid (hRd.read0 hD)
            have hC2 := Lib.hid (hRd.last0 hD1)
            go_wp2_with fail
            refine hC1.out.mono ?_
            rintro e w' ⟨rfl, rfl⟩
            go_wp2_with fail
            refine hC2.out.mono ?_
            rintro e w' ⟨rfl, rfl⟩
            go_wp2_with fail
            go_roundw
            case rel => exact ⟨1, rfl, .inr (.inl ⟨rfl, hN2⟩), hD2, hb1⟩
            case measure => show 2 - (intOf (Value.int .i64 1)).toNat < 2 - (intOf (Value.int .i64 0)).toNat; decide
          · skip
            have c0 := hN.was.cell 1
            have f0 := hN.was.frozen 1
            have hN1 := hN.put1 D.b1
            have c1 := hN1.last.cell 1
            have f1 := hN1.last.frozen 1
            have hD1 := hN.diskS hD 1 (.string D.b1)
            have hN2 := hN1.set1 D.l1
            have hD2 := hN1.diskI hD1 1 (.int .i64 (D.l1 : Int))
            have hb1 := (hb.setCell (p := ⟨p, 1, none⟩) hpB (.string D.b1)).setCell (p := ⟨p + 1, 1, none⟩) (by show w.heap.size ≤ p + 1; omega) (.int .i64 (D.l1 : Int))
            have hC1 := Lib.hid (hRd.read1 hD)
            have hC2 := Lib.hid (hRd.last1 hD1)
            go_wp2_with fail
            refine hC1.out.mono ?_
            rintro e w' ⟨rfl, rfl⟩
            go_wp2_with fail
            refine hC2.out.mono ?_
            rintro e w' ⟨rfl, rfl⟩
            go_wp2_with fail
            go_roundw
            case rel => exact ⟨2, rfl, .inr (.inr ⟨rfl, hN2⟩), hD2, hb1⟩
            case measure => show 2 - (intOf (Value.int .i64 2)).toNat < 2 - (intOf (Value.int .i64 1)).toNat; decide
          · have hCr := Lib.hid (crash_any hD ((hKeep.below hb).ints ho.g) hK64)
            go_wp2_with fail
            refine hCr.out.mono ?_
            rintro e w3 ⟨rfl, hD3, hg3⟩
            have hN3 := hN.grown hD hg3
            have hb3 := hb.grown hg3 hb.size (fun k hk => by injection hk with hk; have := ho.g; omega)
            clear hD hN hb hCr
            go_wp2_with fail
            go_loopw [62] (fun i wx => ∃ k : Nat, k ≤ 2 ∧ i = .int .i64 (k : Int) ∧ wx = w3) (fun i _ => 2 - (intOf i).toNat)
            case atStart => exact ⟨0, by decide, rfl, rfl⟩
            case round =>
              obtain ⟨k, hk2, rfl, rfl⟩ := hrel
              obtain rfl | rfl | rfl : k = 0 ∨ k = 1 ∨ k = 2 := by omega
              · skip
                have hC1 := Lib.hid (hK.reads.read0 hD3)
                have hC2 := Lib.hid (hK.reads.last0 hD3)
                have a0 := hN3.was.cell 0
                have a1 := hN3.last.cell 0
                have le := hK.f0.le
                have most := hK.f0.most
                have pre := hK.f0.pre
                go_wp2_with fail
                refine hC1.out.mono ?_
                rintro e w' ⟨rfl, rfl⟩
                go_wp2_with fail
                refine hC2.out.mono ?_
                rintro e w' ⟨rfl, rfl⟩
                go_wp2_with fail
                go_roundw
                case rel => exact ⟨1, by decide, rfl, by trivial⟩
                case measure => show 2 - (intOf (Value.int .i64 1)).toNat < 2 - (intOf (Value.int .i64 0)).toNat; decide
              · skip
                have hC1 := Lib.hid (hK.reads.read1 hD3)
                have hC2 := Lib.hid (hK.reads.last1 hD3)
                have a0 := hN3.was.cell 1
                have a1 := hN3.last.cell 1
                have le := hK.f1.le
                have most := hK.f1.most
                have pre := hK.f1.pre
                go_wp2_with fail
                refine hC1.out.mono ?_
                rintro e w' ⟨rfl, rfl⟩
                go_wp2_with fail
                refine hC2.out.mono ?_
                rintro e w' ⟨rfl, rfl⟩
                go_wp2_with fail
                go_roundw
                case rel => exact ⟨2, by decide, rfl, by trivial⟩
                case measure => show 2 - (intOf (Value.int .i64 2)).toNat < 2 - (intOf (Value.int .i64 1)).toNat; decide
              · go_wp2_with fail
                refine (wakes_any _).mono ?_
                rintro e w9 ⟨rfl, hg9⟩
                go_wp2_with fail
                go_ret
                exact ⟨rfl, below_none hb3 hb3.size hg9⟩
end Go.Proofs.Ytklcpckjmncdkaa
