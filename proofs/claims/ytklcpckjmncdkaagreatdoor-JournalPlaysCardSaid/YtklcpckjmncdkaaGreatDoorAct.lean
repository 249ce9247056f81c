/- THE WALK of the statements' own act: one call of both disks. -/
import Derived.Test.YtklcpckjmncdkaaGreatDoorActs
namespace Go.Proofs.YtklcpckjmncdkaaGreatDoor
set_option maxRecDepth 100000
open Go.RowKit
attribute [local go_sem ↓] Go.wp_at_zero Go.wp_at_succ

/-- One call of a disk, as the statements write it. -/
structure ActD where
  do_ : Int
  file : Int
  n : Int
  data : ByteArray
  keep : List Int
def Dk.act (D : Dk) (a : ActD) : Dk :=
  match (a.do_.tmod 9).natAbs with
  | 1 => (D.doSync a.file).2
  | 2 => (D.doClear a.file).2
  | 3 => D
  | 4 => D.doCut a.n (a.keep.take 4)
  | 5 => D.doBreak a.n
  | 6 => D.crash (a.keep.take 4)
  | 7 => D.on
  | _ => (D.append a.file (a.data.extract 0 500)).2
theorem extract_all {s : ByteArray} {n : Nat} (h : s.size ≤ n) : s.extract 0 n = s := by
  apply ByteArray.ext
  simp
  omega
theorem Ints.take {w : World} {g : Nat} {A : Option Addr} {c : Nat} {l : List Int} (h : Ints w g (.slice A l.length c) l) (k : Nat) : Ints w g (.slice A (l.take k).length c) (l.take k) := by
  obtain ⟨A', c', hv, hc⟩ := h
  injection hv with h1 h2 h3
  subst h1 h3
  refine ⟨A, c, rfl, fun j hj => ?_⟩
  rw [List.length_take] at hj
  obtain ⟨b, off, hA, hne, hcell⟩ := hc j (by omega)
  exact ⟨b, off, hA, hne, by rw [hcell, List.getElem_take]⟩
theorem Ints.grown {w w' : World} {g : Nat} {v : Value} {l : List Int} (h : Ints w g v l) (hb : w.grownBy w' none) : Ints w' g v l := by
  obtain ⟨A, c, rfl, hc⟩ := h
  refine ⟨A, c, rfl, fun j hj => ?_⟩
  obtain ⟨b, off, hA, hne, hcell⟩ := hc j hj
  exact ⟨b, off, hA, hne, hb.cell hcell (by simp)⟩
theorem Ints.over {w w' : World} {g r : Nat} {v : Value} {l : List Int} (h : Ints w g v l) (h' : Ints w r v l) (hb : w.grownBy w' (some g)) : Ints w' r v l := by
  obtain ⟨A, c, rfl, hc⟩ := h
  obtain ⟨A', c', hv, hc'⟩ := h'
  injection hv with h1 h2 h3
  subst h1 h3
  refine ⟨A, c, rfl, fun j hj => ?_⟩
  obtain ⟨b, off, hA, hne, hcell⟩ := hc j hj
  obtain ⟨b', off', hA', hne', hcell'⟩ := hc' j hj
  rw [hA] at hA'
  injection hA' with hA'
  injection hA' with hb1 hb2
  subst hb1 hb2
  exact ⟨b, off, hA, hne', hb.cell hcell (by simpa using hne)⟩

/-- The same, with what a call needs of its argument. -/
structure ActAt (w : World) (g r : Nat) (a : ActD) (kA : Option Addr) (kc : Nat) : Prop where
  l : Ints w g (.slice kA a.keep.length kc) a.keep
  r : Ints w r (.slice kA a.keep.length kc) a.keep
  cap : a.keep.length ≤ kc
  most : kc ≤ maxLen
  k64 : ∀ k ∈ a.keep, I64 k
  do64 : I64 a.do_
  n64 : I64 a.n
  data : a.data.size ≤ maxLen
/-- Both disks in memory, each with its own content. -/
structure Pair (w : World) (g r : Nat) (D E : Dk) : Prop where
  d : DiskAt w g D
  r : RDiskAt w r E
theorem Pair.ne {w : World} {g r : Nat} {D E : Dk} (h : Pair w g r D E) : g ≠ r := by
  obtain ⟨⟨⟨_, h1, _⟩, _⟩, ⟨⟨_, h2, _⟩, _⟩⟩ := h
  exact Blk.ne_ h1 h2 (by decide)
theorem Pair.grown {w w' : World} {g r : Nat} {D E : Dk} (h : Pair w g r D E) (hb : w.grownBy w' none) : Pair w' g r D E := ⟨h.d.grown hb, h.r.grown hb⟩
section
variable {w : World} {g r : Nat} {D E : Dk} {a : ActD} {kA : Option Addr} {kc : Nat}
set_option maxRecDepth 100000 in
set_option maxHeartbeats 12800000 in
theorem act2_any (h : Pair w g r D E) (ha : ActAt w g r a kA kc) :
    Calls Tryz.prog 28 #[.pointer (some ⟨g, 0, none⟩), .pointer (some ⟨r, 0, none⟩), .agg #[.int .i64 a.do_, .int .i64 a.file, .int .i64 a.n, .string a.data, .slice kA a.keep.length kc]] w fun e w' =>
      (∃ b, e = .returned (.bool b) ∧ (D = E → b = true)) ∧ Pair w' g r (D.act a) (E.act a) ∧ Two w w' g r := by
  obtain ⟨hk, hk', hkc, hkm, h64, hdo, hn, hdata⟩ := ha
  obtain ⟨ks, hks⟩ : ∃ ks, a.keep.take 4 = ks := ⟨_, rfl⟩
  obtain ⟨dt, hdt0⟩ : ∃ dt, a.data.extract 0 500 = dt := ⟨_, rfl⟩
  have hdts : dt.size ≤ 500 := by rw [← hdt0, ByteArray.size_extract]; omega
  have hdt : dt.size ≤ maxLen := by unfold maxLen; omega
  have hdt' : dt.size ≤ 140737488355328 := by omega
  have hk4' : ks.length ≤ 4 := by rw [← hks, List.length_take]; omega
  have hk4 : ks.length ≤ 1000000 := by omega
  have hk64 : ∀ k ∈ ks, I64 k := fun k hk => h64 k (List.mem_of_mem_take (hks ▸ hk))
  have Hks := Lib.hid hks
  have Hdt0 := Lib.hid hdt0
  have Hn := Lib.hid hn
  have Hk64 := Lib.hid hk64
  clear hks hdt0 hn hk64
  unfold maxLen at hkm hdata
  unfold I64 at hdo
  go_enter Tryz.func28, Tryz.ntmps28
  go_upto_region 1 with fail
  go_cut [] (fun wx => w.grownBy wx none ∧ Blk wx w.heap.size 64 #[.int .i64 a.do_, .int .i64 a.file, .int .i64 a.n, .string dt, .slice kA ks.length kc])
  case first =>
    by_cases hd : a.data.size ≤ 500
    · by_cases hq : a.keep.length ≤ 4
      · skip
        have e1 : a.data = dt := (extract_all hd).symm.trans Hdt0.out
        have e2 : a.keep.length = ks.length := by rw [← Hks.out, List.take_of_length_le hq]
        have E1 := Lib.hid e1
        have E2 := Lib.hid e2
        clear e1 e2
        go_wp2_with fail
        go_region
        all_goals go_wp2_with fail
        all_goals go_meet
        exact ⟨only_drew (only_alloc (only_refl _ _) _), by rw [← E1.out, ← E2.out]; exact (Blk.new _ _ _).drew⟩
      · skip
        have e1 : a.data = dt := (extract_all hd).symm.trans Hdt0.out
        have e2 : 4 = ks.length := by rw [← Hks.out, List.length_take]; omega
        have E1 := Lib.hid e1
        have E2 := Lib.hid e2
        clear e1 e2
        go_wp2_with fail
        go_region
        all_goals go_wp2_with fail
        all_goals go_meet
        exact ⟨only_drew (only_alloc (only_refl _ _) _), by rw [← E1.out, ← E2.out]; exact (Blk.new _ _ _).drew⟩
    · by_cases hq : a.keep.length ≤ 4
      · skip
        have e1 := Hdt0.out
        have e2 : a.keep.length = ks.length := by rw [← Hks.out, List.take_of_length_le hq]
        have E1 := Lib.hid e1
        have E2 := Lib.hid e2
        clear e1 e2
        go_wp2_with fail
        go_region
        all_goals go_wp2_with fail
        all_goals go_meet
        exact ⟨only_drew (only_alloc (only_refl _ _) _), by rw [← E1.out, ← E2.out]; exact (Blk.new _ _ _).drew⟩
      · skip
        have e1 := Hdt0.out
        have e2 : 4 = ks.length := by rw [← Hks.out, List.length_take]; omega
        have E1 := Lib.hid e1
        have E2 := Lib.hid e2
        clear e1 e2
        go_wp2_with fail
        go_region
        all_goals go_wp2_with fail
        all_goals go_meet
        exact ⟨only_drew (only_alloc (only_refl _ _) _), by rw [← E1.out, ← E2.out]; exact (Blk.new _ _ _).drew⟩
  case rest =>
    obtain ⟨hg, hblk⟩ := hcut
    have hB := h.grown hg
    have hBd := hB.grown (only_drew (only_refl wc none))
    have hgp : some w.heap.size ≠ some g := by have := h.d.lt; intro e; injection e; omega
    have hrp : some w.heap.size ≠ some r := by have := h.r.lt; intro e; injection e; omega
    have d0 : wc.cell? ⟨w.heap.size, 0, none⟩ = some (.int .i64 a.do_) := hblk.cell 0
    have d1 : wc.cell? ⟨w.heap.size, 1, none⟩ = some (.int .i64 a.file) := hblk.cell 1
    have d2 : wc.cell? ⟨w.heap.size, 2, none⟩ = some (.int .i64 a.n) := hblk.cell 2
    have d3 : wc.cell? ⟨w.heap.size, 3, none⟩ = some (.string dt) := hblk.cell 3
    have d4 : wc.cell? ⟨w.heap.size, 4, none⟩ = some (.slice kA ks.length kc) := hblk.cell 4
    have hkx : Ints wc g (.slice kA ks.length kc) ks := by have := (hk.grown hg).take 4; rwa [Hks.out] at this
    have hkx' : Ints wc r (.slice kA ks.length kc) ks := by have := (hk'.grown hg).take 4; rwa [Hks.out] at this
    have hn := Hn.out
    have hk64 := Hk64.out
    clear hblk hk hk' h
    have hcase : a.do_.tmod 9 = 0 ∨ a.do_.tmod 9 = 1 ∨ a.do_.tmod 9 = -1 ∨ a.do_.tmod 9 = 2 ∨ a.do_.tmod 9 = -2 ∨ a.do_.tmod 9 = 3 ∨ a.do_.tmod 9 = -3 ∨ a.do_.tmod 9 = 4 ∨ a.do_.tmod 9 = -4 ∨ a.do_.tmod 9 = 5 ∨ a.do_.tmod 9 = -5 ∨ a.do_.tmod 9 = 6 ∨ a.do_.tmod 9 = -6 ∨ a.do_.tmod 9 = 7 ∨ a.do_.tmod 9 = -7 ∨ a.do_.tmod 9 = 8 ∨ a.do_.tmod 9 = -8 := by
      have h1 := Int.tmod_lt_of_pos a.do_ (show (0 : Int) < 9 by decide)
      have h2 := Int.lt_tmod_of_pos a.do_ (show (0 : Int) < 9 by decide)
      omega
    rcases hcase with hm | hm | hm | hm | hm | hm | hm | hm | hm | hm | hm | hm | hm | hm | hm | hm | hm
    · have hact : D.act a = (D.append a.file dt).2 := by unfold Dk.act; rw [hm]; rw [Hdt0.out]; rfl
      have hacE : E.act a = (E.append a.file dt).2 := by unfold Dk.act; rw [hm]; rw [Hdt0.out]; rfl
      have heq : D = E → (E.append a.file dt).1 = (D.append a.file dt).1 := fun h => by rw [h]
      have hlt := D.append_lt a.file dt
      have hlE := E.append_lt a.file dt
      have hc1 := append_any hBd.d a.file dt hdt
      have hc2 := fun (W : World) (hr : RDiskAt W r E) => rappend_any hr a.file dt hdt'
      generalize D.append a.file dt = pr at hact hlt hc1 heq
      generalize E.append a.file dt = pe at hacE hlE hc2 heq
      obtain ⟨pc, pd⟩ := pr
      obtain ⟨ec, ed⟩ := pe
      simp only at hact hlt hc1 hc2 hacE hlE heq
      have hw := code_wrap hlt
      have hwE := code_wrap hlE
      have Hact := Lib.hid hact
      have HacE := Lib.hid hacE
      have Hc1 := Lib.hid hc1
      have Hc2 := Lib.hid hc2
      have Heq := Lib.hid heq
      clear hc1 hc2 hact hacE heq
      go_wp2_with fail
      go_region_held3 (fun w' => w'.cell? ⟨w.heap.size, 1, none⟩ = some (.int .i64 a.file) ∧ w'.cell? ⟨w.heap.size, 3, none⟩ = some (.string dt)) (first | go_keep | assumption | exact ⟨by assumption, by assumption⟩)
        (first
          | (go_at_call 17; refine Hc1.out.mono ?_; rintro e w1 ⟨rfl, hd1, ho1⟩; have k1 := ho1.cell (a := ⟨w.heap.size, 1, none⟩) d1 hgp; have k3 := ho1.cell (a := ⟨w.heap.size, 3, none⟩) d3 hgp)
          | (go_at_call 18; refine (Hc2.out w1 (hBd.r.overD hBd.d ho1)).mono ?_; rintro e w2 ⟨rfl, hd2, ho2⟩; have m1 := ho2.cell (a := ⟨w.heap.size, 1, none⟩) k1 hrp; have m3 := ho2.cell (a := ⟨w.heap.size, 3, none⟩) k3 hrp))
      go_wp2_with fail
      go_ret
      exact ⟨⟨_, rfl, fun h => by rw [Heq.out h]; exact beq_self_eq_true _⟩, by rw [Hact.out, HacE.out]; exact ⟨hd1.overR (hBd.r.overD hBd.d ho1) ho2, hd2⟩, (Two.of_none (only_drew hg)).trans ((Two.of_left ho1).trans (Two.of_right ho2))⟩
    · have hact : D.act a = (D.doSync a.file).2 := by unfold Dk.act; rw [hm]; rfl
      have hacE : E.act a = (E.doSync a.file).2 := by unfold Dk.act; rw [hm]; rfl
      have heq : D = E → (E.doSync a.file).1 = (D.doSync a.file).1 := fun h => by rw [h]
      have hlt := D.doSync_lt a.file
      have hlE := E.doSync_lt a.file
      have hc1 := sync_any hBd.d a.file
      have hc2 := fun (W : World) (hr : RDiskAt W r E) => rsync_any hr a.file
      generalize D.doSync a.file = pr at hact hlt hc1 heq
      generalize E.doSync a.file = pe at hacE hlE hc2 heq
      obtain ⟨pc, pd⟩ := pr
      obtain ⟨ec, ed⟩ := pe
      simp only at hact hlt hc1 hc2 hacE hlE heq
      have hw := code_wrap hlt
      have hwE := code_wrap hlE
      have Hact := Lib.hid hact
      have HacE := Lib.hid hacE
      have Hc1 := Lib.hid hc1
      have Hc2 := Lib.hid hc2
      have Heq := Lib.hid heq
      clear hc1 hc2 hact hacE heq
      go_wp2_with fail
      go_region_held3 (fun w' => w'.cell? ⟨w.heap.size, 1, none⟩ = some (.int .i64 a.file)) (first | go_keep | assumption | exact ⟨by assumption, by assumption⟩)
        (first
          | (go_at_call 19; refine Hc1.out.mono ?_; rintro e w1 ⟨rfl, hd1, ho1⟩; have k1 := ho1.cell (a := ⟨w.heap.size, 1, none⟩) d1 hgp)
          | (go_at_call 20; refine (Hc2.out w1 (hBd.r.overD hBd.d ho1)).mono ?_; rintro e w2 ⟨rfl, hd2, ho2⟩; have m1 := ho2.cell (a := ⟨w.heap.size, 1, none⟩) k1 hrp))
      go_wp2_with fail
      go_ret
      exact ⟨⟨_, rfl, fun h => by rw [Heq.out h]; exact beq_self_eq_true _⟩, by rw [Hact.out, HacE.out]; exact ⟨hd1.overR (hBd.r.overD hBd.d ho1) ho2, hd2⟩, (Two.of_none (only_drew hg)).trans ((Two.of_left ho1).trans (Two.of_right ho2))⟩
    · have hact : D.act a = (D.doSync a.file).2 := by unfold Dk.act; rw [hm]; rfl
      have hacE : E.act a = (E.doSync a.file).2 := by unfold Dk.act; rw [hm]; rfl
      have heq : D = E → (E.doSync a.file).1 = (D.doSync a.file).1 := fun h => by rw [h]
      have hlt := D.doSync_lt a.file
      have hlE := E.doSync_lt a.file
      have hc1 := sync_any hBd.d a.file
      have hc2 := fun (W : World) (hr : RDiskAt W r E) => rsync_any hr a.file
      generalize D.doSync a.file = pr at hact hlt hc1 heq
      generalize E.doSync a.file = pe at hacE hlE hc2 heq
      obtain ⟨pc, pd⟩ := pr
      obtain ⟨ec, ed⟩ := pe
      simp only at hact hlt hc1 hc2 hacE hlE heq
      have hw := code_wrap hlt
      have hwE := code_wrap hlE
      have Hact := Lib.hid hact
      have HacE := Lib.hid hacE
      have Hc1 := Lib.hid hc1
      have Hc2 := Lib.hid hc2
      have Heq := Lib.hid heq
      clear hc1 hc2 hact hacE heq
      go_wp2_with fail
      go_region_held3 (fun w' => w'.cell? ⟨w.heap.size, 1, none⟩ = some (.int .i64 a.file)) (first | go_keep | assumption | exact ⟨by assumption, by assumption⟩)
        (first
          | (go_at_call 19; refine Hc1.out.mono ?_; rintro e w1 ⟨rfl, hd1, ho1⟩; have k1 := ho1.cell (a := ⟨w.heap.size, 1, none⟩) d1 hgp)
          | (go_at_call 20; refine (Hc2.out w1 (hBd.r.overD hBd.d ho1)).mono ?_; rintro e w2 ⟨rfl, hd2, ho2⟩; have m1 := ho2.cell (a := ⟨w.heap.size, 1, none⟩) k1 hrp))
      go_wp2_with fail
      go_ret
      exact ⟨⟨_, rfl, fun h => by rw [Heq.out h]; exact beq_self_eq_true _⟩, by rw [Hact.out, HacE.out]; exact ⟨hd1.overR (hBd.r.overD hBd.d ho1) ho2, hd2⟩, (Two.of_none (only_drew hg)).trans ((Two.of_left ho1).trans (Two.of_right ho2))⟩
    · have hact : D.act a = (D.doClear a.file).2 := by unfold Dk.act; rw [hm]; rfl
      have hacE : E.act a = (E.doClear a.file).2 := by unfold Dk.act; rw [hm]; rfl
      have heq : D = E → (E.doClear a.file).1 = (D.doClear a.file).1 := fun h => by rw [h]
      have hlt := D.doClear_lt a.file
      have hlE := E.doClear_lt a.file
      have hc1 := wipe_file_any hBd.d a.file
      have hc2 := fun (W : World) (hr : RDiskAt W r E) => rclear_any hr a.file
      generalize D.doClear a.file = pr at hact hlt hc1 heq
      generalize E.doClear a.file = pe at hacE hlE hc2 heq
      obtain ⟨pc, pd⟩ := pr
      obtain ⟨ec, ed⟩ := pe
      simp only at hact hlt hc1 hc2 hacE hlE heq
      have hw := code_wrap hlt
      have hwE := code_wrap hlE
      have Hact := Lib.hid hact
      have HacE := Lib.hid hacE
      have Hc1 := Lib.hid hc1
      have Hc2 := Lib.hid hc2
      have Heq := Lib.hid heq
      clear hc1 hc2 hact hacE heq
      go_wp2_with fail
      go_region_held3 (fun w' => w'.cell? ⟨w.heap.size, 1, none⟩ = some (.int .i64 a.file)) (first | go_keep | assumption | exact ⟨by assumption, by assumption⟩)
        (first
          | (go_at_call 59; refine Hc1.out.mono ?_; rintro e w1 ⟨rfl, hd1, ho1⟩; have k1 := ho1.cell (a := ⟨w.heap.size, 1, none⟩) d1 hgp)
          | (go_at_call 60; refine (Hc2.out w1 (hBd.r.overD hBd.d ho1)).mono ?_; rintro e w2 ⟨rfl, hd2, ho2⟩; have m1 := ho2.cell (a := ⟨w.heap.size, 1, none⟩) k1 hrp))
      go_wp2_with fail
      go_ret
      exact ⟨⟨_, rfl, fun h => by rw [Heq.out h]; exact beq_self_eq_true _⟩, by rw [Hact.out, HacE.out]; exact ⟨hd1.overR (hBd.r.overD hBd.d ho1) ho2, hd2⟩, (Two.of_none (only_drew hg)).trans ((Two.of_left ho1).trans (Two.of_right ho2))⟩
    · have hact : D.act a = (D.doClear a.file).2 := by unfold Dk.act; rw [hm]; rfl
      have hacE : E.act a = (E.doClear a.file).2 := by unfold Dk.act; rw [hm]; rfl
      have heq : D = E → (E.doClear a.file).1 = (D.doClear a.file).1 := fun h => by rw [h]
      have hlt := D.doClear_lt a.file
      have hlE := E.doClear_lt a.file
      have hc1 := wipe_file_any hBd.d a.file
      have hc2 := fun (W : World) (hr : RDiskAt W r E) => rclear_any hr a.file
      generalize D.doClear a.file = pr at hact hlt hc1 heq
      generalize E.doClear a.file = pe at hacE hlE hc2 heq
      obtain ⟨pc, pd⟩ := pr
      obtain ⟨ec, ed⟩ := pe
      simp only at hact hlt hc1 hc2 hacE hlE heq
      have hw := code_wrap hlt
      have hwE := code_wrap hlE
      have Hact := Lib.hid hact
      have HacE := Lib.hid hacE
      have Hc1 := Lib.hid hc1
      have Hc2 := Lib.hid hc2
      have Heq := Lib.hid heq
      clear hc1 hc2 hact hacE heq
      go_wp2_with fail
      go_region_held3 (fun w' => w'.cell? ⟨w.heap.size, 1, none⟩ = some (.int .i64 a.file)) (first | go_keep | assumption | exact ⟨by assumption, by assumption⟩)
        (first
          | (go_at_call 59; refine Hc1.out.mono ?_; rintro e w1 ⟨rfl, hd1, ho1⟩; have k1 := ho1.cell (a := ⟨w.heap.size, 1, none⟩) d1 hgp)
          | (go_at_call 60; refine (Hc2.out w1 (hBd.r.overD hBd.d ho1)).mono ?_; rintro e w2 ⟨rfl, hd2, ho2⟩; have m1 := ho2.cell (a := ⟨w.heap.size, 1, none⟩) k1 hrp))
      go_wp2_with fail
      go_ret
      exact ⟨⟨_, rfl, fun h => by rw [Heq.out h]; exact beq_self_eq_true _⟩, by rw [Hact.out, HacE.out]; exact ⟨hd1.overR (hBd.r.overD hBd.d ho1) ho2, hd2⟩, (Two.of_none (only_drew hg)).trans ((Two.of_left ho1).trans (Two.of_right ho2))⟩
    · have hact : D.act a = D := by unfold Dk.act; rw [hm]; rfl
      have hacE : E.act a = E := by unfold Dk.act; rw [hm]; rfl
      have heq : D = E → E.read a.file = D.read a.file := fun h => by rw [h]
      have hlt := D.read_lt a.file
      have hlE := E.read_lt a.file
      have hc1 := read_any hB.d a.file
      have hc2 := rread_any hB.r a.file
      generalize D.read a.file = pr at hlt hc1 heq
      generalize E.read a.file = pe at hlE hc2 heq
      obtain ⟨pc, pd⟩ := pr
      obtain ⟨ec, ed⟩ := pe
      simp only at hlt hc1 hlE hc2
      have Hact := Lib.hid hact
      have HacE := Lib.hid hacE
      have Hc1 := Lib.hid hc1
      have Hc2 := Lib.hid hc2
      have Heq := Lib.hid heq
      clear hc1 hc2 hact hacE heq
      have hw := code_wrap hlt
      have hwE := code_wrap hlE
      go_wp2_with fail
      refine Hc1.out.mono ?_
      rintro e w' ⟨rfl, rfl⟩
      go_wp2_with fail
      refine Hc2.out.mono ?_
      rintro e w' ⟨rfl, rfl⟩
      go_wp2_with fail
      all_goals go_ret
      · exact ⟨⟨_, rfl, fun h => by injection Heq.out h with h1 h2; rw [h2]; first | exact beq_self_eq_true _ | simp⟩, by rw [Hact.out, HacE.out]; exact hB, Two.of_none hg⟩
      · rename_i hne
        exact ⟨⟨_, rfl, fun h => by injection Heq.out h with h1 h2; exact absurd (by rw [h1]) hne⟩, by rw [Hact.out, HacE.out]; exact hB, Two.of_none hg⟩
    · have hact : D.act a = D := by unfold Dk.act; rw [hm]; rfl
      have hacE : E.act a = E := by unfold Dk.act; rw [hm]; rfl
      have heq : D = E → E.read a.file = D.read a.file := fun h => by rw [h]
      have hlt := D.read_lt a.file
      have hlE := E.read_lt a.file
      have hc1 := read_any hB.d a.file
      have hc2 := rread_any hB.r a.file
      generalize D.read a.file = pr at hlt hc1 heq
      generalize E.read a.file = pe at hlE hc2 heq
      obtain ⟨pc, pd⟩ := pr
      obtain ⟨ec, ed⟩ := pe
      simp only at hlt hc1 hlE hc2
      have Hact := Lib.hid hact
      have HacE := Lib.hid hacE
      have Hc1 := Lib.hid hc1
      have Hc2 := Lib.hid hc2
      have Heq := Lib.hid heq
      clear hc1 hc2 hact hacE heq
      have hw := code_wrap hlt
      have hwE := code_wrap hlE
      go_wp2_with fail
      refine Hc1.out.mono ?_
      rintro e w' ⟨rfl, rfl⟩
      go_wp2_with fail
      refine Hc2.out.mono ?_
      rintro e w' ⟨rfl, rfl⟩
      go_wp2_with fail
      all_goals go_ret
      · exact ⟨⟨_, rfl, fun h => by injection Heq.out h with h1 h2; rw [h2]; first | exact beq_self_eq_true _ | simp⟩, by rw [Hact.out, HacE.out]; exact hB, Two.of_none hg⟩
      · rename_i hne
        exact ⟨⟨_, rfl, fun h => by injection Heq.out h with h1 h2; exact absurd (by rw [h1]) hne⟩, by rw [Hact.out, HacE.out]; exact hB, Two.of_none hg⟩
    · have hact : D.act a = D.doCut a.n ks := by unfold Dk.act; rw [hm]; rw [Hks.out]; rfl
      have hacE : E.act a = E.doCut a.n ks := by unfold Dk.act; rw [hm]; rw [Hks.out]; rfl
      have Hact := Lib.hid hact
      have HacE := Lib.hid hacE
      have Hc1 := Lib.hid (cut_any hB.d hn hkx hk64 (by omega))
      have Hc2 := Lib.hid (fun (W : World) (hr : RDiskAt W r E) (hki : Ints W r (.slice kA ks.length kc) ks) => rask_any hr hn hki hk64 hk4)
      clear hact hacE
      go_wp2_with fail
      refine Hc1.out.mono ?_
      rintro e w1 ⟨rfl, hd1, ho1⟩
      have k1 := ho1.cell (a := ⟨w.heap.size, 1, none⟩) d1 hgp
      have k2 := ho1.cell (a := ⟨w.heap.size, 2, none⟩) d2 hgp
      have k4 := ho1.cell (a := ⟨w.heap.size, 4, none⟩) d4 hgp
      clear d0 d1 d2 d3 d4
      go_wp2_with fail
      refine (Hc2.out w1 (hB.r.overD hB.d ho1) (hkx.over hkx' ho1)).mono ?_
      rintro e w2 ⟨rfl, hd2, ho2⟩
      clear k1 k2 k4
      go_wp2_with fail
      go_ret
      exact ⟨⟨_, rfl, fun _ => rfl⟩, by rw [Hact.out, HacE.out]; exact ⟨hd1.overR (hB.r.overD hB.d ho1) ho2, hd2⟩, (Two.of_none hg).trans ((Two.of_left ho1).trans (Two.of_right ho2))⟩
    · have hact : D.act a = D.doCut a.n ks := by unfold Dk.act; rw [hm]; rw [Hks.out]; rfl
      have hacE : E.act a = E.doCut a.n ks := by unfold Dk.act; rw [hm]; rw [Hks.out]; rfl
      have Hact := Lib.hid hact
      have HacE := Lib.hid hacE
      have Hc1 := Lib.hid (cut_any hB.d hn hkx hk64 (by omega))
      have Hc2 := Lib.hid (fun (W : World) (hr : RDiskAt W r E) (hki : Ints W r (.slice kA ks.length kc) ks) => rask_any hr hn hki hk64 hk4)
      clear hact hacE
      go_wp2_with fail
      refine Hc1.out.mono ?_
      rintro e w1 ⟨rfl, hd1, ho1⟩
      have k1 := ho1.cell (a := ⟨w.heap.size, 1, none⟩) d1 hgp
      have k2 := ho1.cell (a := ⟨w.heap.size, 2, none⟩) d2 hgp
      have k4 := ho1.cell (a := ⟨w.heap.size, 4, none⟩) d4 hgp
      clear d0 d1 d2 d3 d4
      go_wp2_with fail
      refine (Hc2.out w1 (hB.r.overD hB.d ho1) (hkx.over hkx' ho1)).mono ?_
      rintro e w2 ⟨rfl, hd2, ho2⟩
      clear k1 k2 k4
      go_wp2_with fail
      go_ret
      exact ⟨⟨_, rfl, fun _ => rfl⟩, by rw [Hact.out, HacE.out]; exact ⟨hd1.overR (hB.r.overD hB.d ho1) ho2, hd2⟩, (Two.of_none hg).trans ((Two.of_left ho1).trans (Two.of_right ho2))⟩
    · have hact : D.act a = D.doBreak a.n := by unfold Dk.act; rw [hm]; rfl
      have hacE : E.act a = E.doBreak a.n := by unfold Dk.act; rw [hm]; rfl
      have Hact := Lib.hid hact
      have HacE := Lib.hid hacE
      have Hc1 := Lib.hid (break_any hB.d a.n hn)
      have Hc2 := Lib.hid (fun (W : World) (hr : RDiskAt W r E) (hki : Ints W r (.slice kA ks.length kc) ks) => rbreak_any hr a.n hn)
      clear hact hacE
      go_wp2_with fail
      refine Hc1.out.mono ?_
      rintro e w1 ⟨rfl, hd1, ho1⟩
      have k1 := ho1.cell (a := ⟨w.heap.size, 1, none⟩) d1 hgp
      have k2 := ho1.cell (a := ⟨w.heap.size, 2, none⟩) d2 hgp
      have k4 := ho1.cell (a := ⟨w.heap.size, 4, none⟩) d4 hgp
      clear d0 d1 d2 d3 d4
      go_wp2_with fail
      refine (Hc2.out w1 (hB.r.overD hB.d ho1) (hkx.over hkx' ho1)).mono ?_
      rintro e w2 ⟨rfl, hd2, ho2⟩
      clear k1 k2 k4
      go_wp2_with fail
      go_ret
      exact ⟨⟨_, rfl, fun _ => rfl⟩, by rw [Hact.out, HacE.out]; exact ⟨hd1.overR (hB.r.overD hB.d ho1) ho2, hd2⟩, (Two.of_none hg).trans ((Two.of_left ho1).trans (Two.of_right ho2))⟩
    · have hact : D.act a = D.doBreak a.n := by unfold Dk.act; rw [hm]; rfl
      have hacE : E.act a = E.doBreak a.n := by unfold Dk.act; rw [hm]; rfl
      have Hact := Lib.hid hact
      have HacE := Lib.hid hacE
      have Hc1 := Lib.hid (break_any hB.d a.n hn)
      have Hc2 := Lib.hid (fun (W : World) (hr : RDiskAt W r E) (hki : Ints W r (.slice kA ks.length kc) ks) => rbreak_any hr a.n hn)
      clear hact hacE
      go_wp2_with fail
      refine Hc1.out.mono ?_
      rintro e w1 ⟨rfl, hd1, ho1⟩
      have k1 := ho1.cell (a := ⟨w.heap.size, 1, none⟩) d1 hgp
      have k2 := ho1.cell (a := ⟨w.heap.size, 2, none⟩) d2 hgp
      have k4 := ho1.cell (a := ⟨w.heap.size, 4, none⟩) d4 hgp
      clear d0 d1 d2 d3 d4
      go_wp2_with fail
      refine (Hc2.out w1 (hB.r.overD hB.d ho1) (hkx.over hkx' ho1)).mono ?_
      rintro e w2 ⟨rfl, hd2, ho2⟩
      clear k1 k2 k4
      go_wp2_with fail
      go_ret
      exact ⟨⟨_, rfl, fun _ => rfl⟩, by rw [Hact.out, HacE.out]; exact ⟨hd1.overR (hB.r.overD hB.d ho1) ho2, hd2⟩, (Two.of_none hg).trans ((Two.of_left ho1).trans (Two.of_right ho2))⟩
    · have hact : D.act a = D.crash ks := by unfold Dk.act; rw [hm]; rw [Hks.out]; rfl
      have hacE : E.act a = E.crash ks := by unfold Dk.act; rw [hm]; rw [Hks.out]; rfl
      have Hact := Lib.hid hact
      have HacE := Lib.hid hacE
      have Hc1 := Lib.hid (crash_any hB.d hkx hk64)
      have Hc2 := Lib.hid (fun (W : World) (hr : RDiskAt W r E) (hki : Ints W r (.slice kA ks.length kc) ks) => rcrash_any hr hki hk64)
      clear hact hacE
      go_wp2_with fail
      refine Hc1.out.mono ?_
      rintro e w1 ⟨rfl, hd1, ho1⟩
      have k1 := ho1.cell (a := ⟨w.heap.size, 1, none⟩) d1 hgp
      have k2 := ho1.cell (a := ⟨w.heap.size, 2, none⟩) d2 hgp
      have k4 := ho1.cell (a := ⟨w.heap.size, 4, none⟩) d4 hgp
      clear d0 d1 d2 d3 d4
      go_wp2_with fail
      refine (Hc2.out w1 (hB.r.overD hB.d ho1) (hkx.over hkx' ho1)).mono ?_
      rintro e w2 ⟨rfl, hd2, ho2⟩
      clear k1 k2 k4
      go_wp2_with fail
      go_ret
      exact ⟨⟨_, rfl, fun _ => rfl⟩, by rw [Hact.out, HacE.out]; exact ⟨hd1.overR (hB.r.overD hB.d ho1) ho2, hd2⟩, (Two.of_none hg).trans ((Two.of_left ho1).trans (Two.of_right ho2))⟩
    · have hact : D.act a = D.crash ks := by unfold Dk.act; rw [hm]; rw [Hks.out]; rfl
      have hacE : E.act a = E.crash ks := by unfold Dk.act; rw [hm]; rw [Hks.out]; rfl
      have Hact := Lib.hid hact
      have HacE := Lib.hid hacE
      have Hc1 := Lib.hid (crash_any hB.d hkx hk64)
      have Hc2 := Lib.hid (fun (W : World) (hr : RDiskAt W r E) (hki : Ints W r (.slice kA ks.length kc) ks) => rcrash_any hr hki hk64)
      clear hact hacE
      go_wp2_with fail
      refine Hc1.out.mono ?_
      rintro e w1 ⟨rfl, hd1, ho1⟩
      have k1 := ho1.cell (a := ⟨w.heap.size, 1, none⟩) d1 hgp
      have k2 := ho1.cell (a := ⟨w.heap.size, 2, none⟩) d2 hgp
      have k4 := ho1.cell (a := ⟨w.heap.size, 4, none⟩) d4 hgp
      clear d0 d1 d2 d3 d4
      go_wp2_with fail
      refine (Hc2.out w1 (hB.r.overD hB.d ho1) (hkx.over hkx' ho1)).mono ?_
      rintro e w2 ⟨rfl, hd2, ho2⟩
      clear k1 k2 k4
      go_wp2_with fail
      go_ret
      exact ⟨⟨_, rfl, fun _ => rfl⟩, by rw [Hact.out, HacE.out]; exact ⟨hd1.overR (hB.r.overD hB.d ho1) ho2, hd2⟩, (Two.of_none hg).trans ((Two.of_left ho1).trans (Two.of_right ho2))⟩
    · have hact : D.act a = D.on := by unfold Dk.act; rw [hm]; rfl
      have hacE : E.act a = E.on := by unfold Dk.act; rw [hm]; rfl
      have Hact := Lib.hid hact
      have HacE := Lib.hid hacE
      have Hc1 := Lib.hid (on_any hB.d)
      have Hc2 := Lib.hid (fun (W : World) (hr : RDiskAt W r E) (hki : Ints W r (.slice kA ks.length kc) ks) => ron_any hr)
      clear hact hacE
      go_wp2_with fail
      refine Hc1.out.mono ?_
      rintro e w1 ⟨rfl, hd1, ho1⟩
      have k1 := ho1.cell (a := ⟨w.heap.size, 1, none⟩) d1 hgp
      have k2 := ho1.cell (a := ⟨w.heap.size, 2, none⟩) d2 hgp
      have k4 := ho1.cell (a := ⟨w.heap.size, 4, none⟩) d4 hgp
      clear d0 d1 d2 d3 d4
      go_wp2_with fail
      refine (Hc2.out w1 (hB.r.overD hB.d ho1) (hkx.over hkx' ho1)).mono ?_
      rintro e w2 ⟨rfl, hd2, ho2⟩
      clear k1 k2 k4
      go_wp2_with fail
      go_ret
      exact ⟨⟨_, rfl, fun _ => rfl⟩, by rw [Hact.out, HacE.out]; exact ⟨hd1.overR (hB.r.overD hB.d ho1) ho2, hd2⟩, (Two.of_none hg).trans ((Two.of_left ho1).trans (Two.of_right ho2))⟩
    · have hact : D.act a = D.on := by unfold Dk.act; rw [hm]; rfl
      have hacE : E.act a = E.on := by unfold Dk.act; rw [hm]; rfl
      have Hact := Lib.hid hact
      have HacE := Lib.hid hacE
      have Hc1 := Lib.hid (on_any hB.d)
      have Hc2 := Lib.hid (fun (W : World) (hr : RDiskAt W r E) (hki : Ints W r (.slice kA ks.length kc) ks) => ron_any hr)
      clear hact hacE
      go_wp2_with fail
      refine Hc1.out.mono ?_
      rintro e w1 ⟨rfl, hd1, ho1⟩
      have k1 := ho1.cell (a := ⟨w.heap.size, 1, none⟩) d1 hgp
      have k2 := ho1.cell (a := ⟨w.heap.size, 2, none⟩) d2 hgp
      have k4 := ho1.cell (a := ⟨w.heap.size, 4, none⟩) d4 hgp
      clear d0 d1 d2 d3 d4
      go_wp2_with fail
      refine (Hc2.out w1 (hB.r.overD hB.d ho1) (hkx.over hkx' ho1)).mono ?_
      rintro e w2 ⟨rfl, hd2, ho2⟩
      clear k1 k2 k4
      go_wp2_with fail
      go_ret
      exact ⟨⟨_, rfl, fun _ => rfl⟩, by rw [Hact.out, HacE.out]; exact ⟨hd1.overR (hB.r.overD hB.d ho1) ho2, hd2⟩, (Two.of_none hg).trans ((Two.of_left ho1).trans (Two.of_right ho2))⟩
    · have hact : D.act a = (D.append a.file dt).2 := by unfold Dk.act; rw [hm]; rw [Hdt0.out]; rfl
      have hacE : E.act a = (E.append a.file dt).2 := by unfold Dk.act; rw [hm]; rw [Hdt0.out]; rfl
      have heq : D = E → (E.append a.file dt).1 = (D.append a.file dt).1 := fun h => by rw [h]
      have hlt := D.append_lt a.file dt
      have hlE := E.append_lt a.file dt
      have hc1 := append_any hBd.d a.file dt hdt
      have hc2 := fun (W : World) (hr : RDiskAt W r E) => rappend_any hr a.file dt hdt'
      generalize D.append a.file dt = pr at hact hlt hc1 heq
      generalize E.append a.file dt = pe at hacE hlE hc2 heq
      obtain ⟨pc, pd⟩ := pr
      obtain ⟨ec, ed⟩ := pe
      simp only at hact hlt hc1 hc2 hacE hlE heq
      have hw := code_wrap hlt
      have hwE := code_wrap hlE
      have Hact := Lib.hid hact
      have HacE := Lib.hid hacE
      have Hc1 := Lib.hid hc1
      have Hc2 := Lib.hid hc2
      have Heq := Lib.hid heq
      clear hc1 hc2 hact hacE heq
      go_wp2_with fail
      go_region_held3 (fun w' => w'.cell? ⟨w.heap.size, 1, none⟩ = some (.int .i64 a.file) ∧ w'.cell? ⟨w.heap.size, 3, none⟩ = some (.string dt)) (first | go_keep | assumption | exact ⟨by assumption, by assumption⟩)
        (first
          | (go_at_call 17; refine Hc1.out.mono ?_; rintro e w1 ⟨rfl, hd1, ho1⟩; have k1 := ho1.cell (a := ⟨w.heap.size, 1, none⟩) d1 hgp; have k3 := ho1.cell (a := ⟨w.heap.size, 3, none⟩) d3 hgp)
          | (go_at_call 18; refine (Hc2.out w1 (hBd.r.overD hBd.d ho1)).mono ?_; rintro e w2 ⟨rfl, hd2, ho2⟩; have m1 := ho2.cell (a := ⟨w.heap.size, 1, none⟩) k1 hrp; have m3 := ho2.cell (a := ⟨w.heap.size, 3, none⟩) k3 hrp))
      go_wp2_with fail
      go_ret
      exact ⟨⟨_, rfl, fun h => by rw [Heq.out h]; exact beq_self_eq_true _⟩, by rw [Hact.out, HacE.out]; exact ⟨hd1.overR (hBd.r.overD hBd.d ho1) ho2, hd2⟩, (Two.of_none (only_drew hg)).trans ((Two.of_left ho1).trans (Two.of_right ho2))⟩
    · have hact : D.act a = (D.append a.file dt).2 := by unfold Dk.act; rw [hm]; rw [Hdt0.out]; rfl
      have hacE : E.act a = (E.append a.file dt).2 := by unfold Dk.act; rw [hm]; rw [Hdt0.out]; rfl
      have heq : D = E → (E.append a.file dt).1 = (D.append a.file dt).1 := fun h => by rw [h]
      have hlt := D.append_lt a.file dt
      have hlE := E.append_lt a.file dt
      have hc1 := append_any hBd.d a.file dt hdt
      have hc2 := fun (W : World) (hr : RDiskAt W r E) => rappend_any hr a.file dt hdt'
      generalize D.append a.file dt = pr at hact hlt hc1 heq
      generalize E.append a.file dt = pe at hacE hlE hc2 heq
      obtain ⟨pc, pd⟩ := pr
      obtain ⟨ec, ed⟩ := pe
      simp only at hact hlt hc1 hc2 hacE hlE heq
      have hw := code_wrap hlt
      have hwE := code_wrap hlE
      have Hact := Lib.hid hact
      have HacE := Lib.hid hacE
      have Hc1 := Lib.hid hc1
      have Hc2 := Lib.hid hc2
      have Heq := Lib.hid heq
      clear hc1 hc2 hact hacE heq
      go_wp2_with fail
      go_region_held3 (fun w' => w'.cell? ⟨w.heap.size, 1, none⟩ = some (.int .i64 a.file) ∧ w'.cell? ⟨w.heap.size, 3, none⟩ = some (.string dt)) (first | go_keep | assumption | exact ⟨by assumption, by assumption⟩)
        (first
          | (go_at_call 17; refine Hc1.out.mono ?_; rintro e w1 ⟨rfl, hd1, ho1⟩; have k1 := ho1.cell (a := ⟨w.heap.size, 1, none⟩) d1 hgp; have k3 := ho1.cell (a := ⟨w.heap.size, 3, none⟩) d3 hgp)
          | (go_at_call 18; refine (Hc2.out w1 (hBd.r.overD hBd.d ho1)).mono ?_; rintro e w2 ⟨rfl, hd2, ho2⟩; have m1 := ho2.cell (a := ⟨w.heap.size, 1, none⟩) k1 hrp; have m3 := ho2.cell (a := ⟨w.heap.size, 3, none⟩) k3 hrp))
      go_wp2_with fail
      go_ret
      exact ⟨⟨_, rfl, fun h => by rw [Heq.out h]; exact beq_self_eq_true _⟩, by rw [Hact.out, HacE.out]; exact ⟨hd1.overR (hBd.r.overD hBd.d ho1) ho2, hd2⟩, (Two.of_none (only_drew hg)).trans ((Two.of_left ho1).trans (Two.of_right ho2))⟩
theorem act_any (h : Both w g r D) (ha : ActAt w g r a kA kc) :
    Calls Tryz.prog 28 #[.pointer (some ⟨g, 0, none⟩), .pointer (some ⟨r, 0, none⟩), .agg #[.int .i64 a.do_, .int .i64 a.file, .int .i64 a.n, .string a.data, .slice kA a.keep.length kc]] w fun e w' =>
      e = .returned (.bool true) ∧ Both w' g r (D.act a) ∧ Two w w' g r :=
  (act2_any (E := D) ⟨h.d, h.r⟩ ha).mono fun e w' ⟨⟨b, he, hb⟩, hp, ht⟩ => ⟨by rw [he, hb rfl], ⟨hp.d, hp.r⟩, ht⟩
end
end Go.Proofs.YtklcpckjmncdkaaGreatDoor
