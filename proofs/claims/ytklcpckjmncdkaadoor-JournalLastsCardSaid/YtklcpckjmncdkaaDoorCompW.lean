/- THE WALK of the statement JournalCompacts. -/
import Derived.Test.YtklcpckjmncdkaaDoorWk
import Derived.Test.YtklcpckjmncdkaaDoorCompLaw
import Derived.Test.YtklcpckjmncdkaaDoorNilW
namespace Go.Proofs.YtklcpckjmncdkaaDoor
set_option maxRecDepth 100000
open Go.RowKit

/-- A slice that reads as these texts. -/
def Strs (w : World) (v : Value) (l : List ByteArray) : Prop :=
  ∃ A c, v = .slice A l.length c ∧ l.length ≤ c ∧ ∀ j (h : j < l.length), ∃ b off, A = some ⟨b, off, none⟩ ∧ w.cell? ⟨b, off + j, none⟩ = some (.string l[j])
theorem Strs.grown {w w' : World} {v : Value} {l : List ByteArray} (h : Strs w v l) (hg : w.grownBy w' none) : Strs w' v l := by
  obtain ⟨A, c, hv, hc, h⟩ := h
  refine ⟨A, c, hv, hc, fun j hj => ?_⟩
  obtain ⟨b, off, hA, hcell⟩ := h j hj
  exact ⟨b, off, hA, hg.cell hcell (by simp)⟩
/-- A slice that reads as these ints. -/
def IntsA (w : World) (v : Value) (l : List Int) : Prop :=
  ∃ A c, v = .slice A l.length c ∧ ∀ j (h : j < l.length), ∃ b off, A = some ⟨b, off, none⟩ ∧ w.cell? ⟨b, off + j, none⟩ = some (.int .i64 l[j])
theorem IntsA.at_ {w w' : World} {v : Value} {l : List Int} (h : IntsA w v l) (hg : w.grownBy w' none) {g : Nat} (hgw : w.heap.size ≤ g) : Ints w' g v l := by
  obtain ⟨A, c, hv, h⟩ := h
  refine ⟨A, c, hv, fun j hj => ?_⟩
  obtain ⟨b, off, hA, hcell⟩ := h j hj
  have := World.block_lt_of_cell? w _ hcell
  exact ⟨b, off, hA, by simp only at this; omega, hg.cell hcell (by simp)⟩

theorem rowed_blk {a b : World} {base n : Nat} {v : Value} {xs : List Value} {o : Obj} (hr : a.ownsRow base 9 1 v n xs) (hg : (a.alloc o).grownBy b v.ownBlock) {k : Nat} {t : TypeId} {cs : Array Value} (ht : t ≠ 9) (hk : Blk a k t cs) : Blk b k t cs := by
  refine (hk.alloc o).grown hg ?_
  rcases hr.2 with ⟨rfl, _⟩ | ⟨g, cap, cur, rfl, _, hh, _⟩
  · simp [Value.ownBlock]
  · simp only [Value.ownBlock, ne_eq, Option.some.injEq]
    exact Blk.ne_ hk (t' := 9) hh ht
theorem rowed_disk {a b : World} {base n : Nat} {v : Value} {xs : List Value} {o : Obj} (hr : a.ownsRow base 9 1 v n xs) (hg : (a.alloc o).grownBy b v.ownBlock) {g : Nat} {D : Dk} (h : DiskAt a g D) : DiskAt b g D := by
  have h' := h.grown (only_alloc (only_refl a none) o)
  rcases hr.2 with ⟨rfl, _⟩ | ⟨k, cap, cur, rfl, _, hh, _⟩
  · exact h'.grown hg
  · have hb : Blk (a.alloc o) k 9 cur := Blk.alloc (t := 9) hh o
    obtain ⟨⟨kv, hk, _⟩, _⟩ := h'
    exact (h.grown (only_alloc (only_refl a none) o)).far hb (by decide) (Blk.ne_ hk hb (by decide)) hg
theorem rowed_grown {w a b : World} {base n : Nat} {v : Value} {xs : List Value} {o : Obj} (hr : a.ownsRow base 9 1 v n xs) (hg : (a.alloc o).grownBy b v.ownBlock) (hw : w.grownBy a none) (hb : w.heap.size ≤ base) : w.grownBy b none := by
  have h' := only_alloc hw o
  refine ⟨hg.os.trans h'.os, hg.tape.trans h'.tape, hg.output.trans h'.output, Nat.le_trans h'.size hg.size, fun i hi _ => (hg.block i (Nat.lt_of_lt_of_le hi h'.size) ?_).trans (h'.block i hi (by simp))⟩
  rcases hr.2 with ⟨rfl, _⟩ | ⟨k, cap, cur, rfl, hk, _⟩
  · simp [Value.ownBlock]
  · simp only [Value.ownBlock, ne_eq, Option.some.injEq]; omega
theorem row_duo {a b : World} {base n g jb : Nat} {v : Value} {xs : List Value} {t1 t2 : TypeId} {c1 c2 : Array Value} (hr : a.ownsRow base 9 1 v n xs) (hd : Duo a b g jb) (h1 : Blk a g t1 c1) (h2 : Blk a jb t2 c2) (n1 : t1 ≠ 9) (n2 : t2 ≠ 9) : b.ownsRow base 9 1 v n xs := by
  refine ⟨hr.1, hr.2.imp id ?_⟩
  rintro ⟨k, cap, cur, hv, hb, hh, rest⟩
  have hk : k < a.heap.size := (Array.getElem?_eq_some_iff.1 hh).1
  exact ⟨k, cap, cur, hv, hb, (hd.block k hk (Blk.ne_ (t := 9) hh h1 (Ne.symm n1)) (Blk.ne_ (t := 9) hh h2 (Ne.symm n2))).trans hh, rest⟩
theorem row_strs {w : World} {base : Nat} {v : Value} {l : List ByteArray} (hr : w.ownsRow base 9 1 v l.length (l.map Value.string)) : StrsAt w base v l := by
  rcases hr.2 with ⟨hv, h0⟩ | ⟨g, cap, cur, hv, hb, hh, hle, hcm, hcs, htk⟩
  · have : l = [] := List.eq_nil_of_length_eq_zero h0
    subst this; subst hv
    exact StrsAt.nil _ _
  · exact ⟨some ⟨g, 0, none⟩, cap, hv, hle, hcm, fun _ => ⟨g, 0, cur, rfl, hb, hh, by omega, fun j hj => by rw [Nat.zero_add]; exact row_cells htk j hj⟩⟩

theorem new_ne (sb : ByteArray) : ((⟨#[111, 108, 100]⟩ : ByteArray).toList == ((⟨#[110, 101, 119]⟩ : ByteArray) ++ sb).toList) = false := by
  rw [beq_eq_false_iff_ne]
  intro e
  rw [ByteArray.toList_eq, ByteArray.toList_eq, ByteArray.data_append, Array.toList_append] at e
  simp at e
theorem new_ne2 (sb : ByteArray) : (([111, 108, 100] : List UInt8) == ((⟨#[110, 101, 119]⟩ : ByteArray) ++ sb).toList) = false := by
  have := new_ne sb
  rw [ByteArray.toList_eq] at this
  exact this
section
variable {w : World}
theorem code_240 {v : Value} (hH : Hand w) (h : IsErr w v 240) : Calls Tryd.prog 13 #[v] w fun e w' => e = .returned (.int .i64 240) ∧ w.grownBy w' none := code_any hH h (by decide)
set_option maxHeartbeats 6400000 in
theorem comp_walk (hH : Hand w) (v0 : Value) (l0 : List ByteArray) (hv0 : Strs w v0 l0) (hl0 : ∀ t ∈ l0, t.size ≤ maxLen) (st0 : ByteArray) (hst0 : st0.size ≤ maxLen) (N : Int) (hN : I64 N) (kv : Value) (ks : List Int) (hks : IntsA w kv ks) (h64 : ∀ k ∈ ks, I64 k) (hkl : ks.length ≤ 17592186044416) :
    Calls Tryd.prog 7 #[v0, .string st0, .agg #[.int .i64 N, kv]] w fun e w' => e = .returned (.bool true) ∧ w.grownBy w' none := by
  have h0 := Hand.lt hH
  obtain ⟨A0, c0, rfl, hc0, hcell0⟩ := hv0
  have hks' := hks
  obtain ⟨Ak, ck, rfl, _⟩ := hks'
  have H0 := Lib.hid (fun W => new_any 1048576 W)
  obtain ⟨m, hm, hm20, hml⟩ : ∃ m : Nat, min (l0.length : Int) 20 = (m : Int) ∧ m ≤ 20 ∧ m ≤ l0.length := ⟨min l0.length 20, by omega, by omega, by omega⟩
  have hm2 : max (m : Int) 0 = (m : Int) := by omega
  obtain ⟨i0, hi0, hz0, hz1, hz2⟩ := info_parts Tryd.infoStr
  go_enter Tryd.func7, Tryd.ntmps7
  have hbx0 : Blk (w.alloc (.cells #[.int .i64 N, .slice Ak ks.length ck] 53)) w.heap.size 53 #[.int .i64 N, .slice Ak ks.length ck] := Blk.new w _ _
  have hgx : w.grownBy (w.alloc (.cells #[.int .i64 N, .slice Ak ks.length ck] 53)) none := only_alloc (only_refl w none) _
  go_wp2_with fail
  refine (H0.out _).mono ?_
  rintro e w1 ⟨g, rfl, hgw, hd1, hk1⟩
  rw [new_qd] at hd1
  have hg1 := only_trans hgx hk1
  have hbx1 := hbx0.grown hk1 (by simp)
  have hgw' : w.heap.size + 1 ≤ g := by simpa using hgw
  have hg0 : 0 < g := by omega
  have H1 := open_any (hH.grown hg1 (by simp)) hg0 hd1
  rw [comp_open] at H1
  unfold Img.none_ at H1
  have H1 := Lib.hid H1
  clear hd1 hbx0
  go_wp2_with fail
  refine H1.out.mono ?_
  rintro e w2 ⟨hd2, hk2, hres⟩
  simp only at hd2
  rcases hres with ⟨_, jb, v2, rfl, hjb, hj2, hst2⟩ | ⟨h, _⟩
  rotate_left
  · exact absurd rfl h
  simp only at hj2 hst2
  obtain ⟨A2, c2, rfl, _⟩ := hst2.at_
  have hg2 := grown_own hg1 hk2 (by omega)
  have hs1 : w.heap.size + 1 ≤ w1.heap.size := by have := hk1.size; simpa using this
  have hj0 : 0 < jb := by omega
  have hjw : w.heap.size + 1 ≤ jb := by omega
  have hbx2 := hbx1.grown hk2 (by simp; omega)
  clear hst2 hbx1
  go_wp2_with fail
  refine (wakes_any (hH.grown hg2 (by simp))).mono ?_
  rintro e w3 ⟨rfl, hk3⟩
  have hg3 := only_trans hg2 hk3
  have hd3 := hd2.grown hk3
  have hj3 := hj2.grown hk3 (by simp)
  have hbx3 := hbx2.grown hk3 (by simp)
  have H3 := compact_any (hH.grown hg3 (by simp)) hj0 hg0 hd3 hj3 strOld (by decide)
  rw [comp_old] at H3
  unfold strOld at H3
  have H3 := Lib.hid H3
  clear hbx2 hd2 hj2
  go_wp2_with fail
  refine H3.out.mono ?_
  rintro e w4 ⟨v4, rfl, he4, hd4, hj4, hduo4⟩
  obtain rfl := isErr_no he4
  simp only at hd4 hj4
  have hg4 := grown_duo hg3 hduo4 (by omega) (by omega)
  have hbx4 : Blk w4 w.heap.size 53 _ := (hduo4.block _ hbx3.lt (by omega) (by omega)).trans hbx3
  clear hbx3 hd3 hj3 he4
  go_wp2_with fail
  go_loopw [12, 44] (fun av iv wr => ∃ (all : List ByteArray) (A : Option Addr) (c : Nat), iv = .int .i64 (all.length : Int) ∧ av = .slice A all.length c ∧ wr.ownsRow w.heap.size 9 1 (.slice A all.length c) all.length (all.map Value.string) ∧ all.length ≤ m ∧
    (∀ r ∈ all, r.size ≤ 100) ∧ DiskAt wr g (qd file1 (fileOld all) 29 32) ∧ JrAt wr jb g ⟨1, 2, false⟩ ∧ Blk wr w.heap.size 53 #[.int .i64 N, .slice Ak ks.length ck] ∧ w.grownBy wr none) (fun _ iv _ => m - (intOf iv).toNat)
  case atStart => exact ⟨[], none, 0, rfl, rfl, World.ownsRow_nil _ _ _ _, Nat.zero_le _, fun r h => by simp at h, hd4, hj4, hbx4, hg4⟩
  case round =>
    obtain ⟨all, A, c, rfl, rfl, hrow, hall, hasz, hdr, hjr, hbxr, hgr⟩ := hrel
    have hws := hgr.size
    have hkw : IntKind.i64.wrap ((all.length : Int) + 1) = (all.length : Int) + 1 := IntWalk.i64_in _ (by omega)
    by_cases hlt : all.length < m
    · obtain ⟨bb, ob, rfl, hcb⟩ := hcell0 all.length (by omega)
      have hcr := hgr.cell hcb (by simp)
      have hti := hl0 l0[all.length] (List.getElem_mem (by omega))
      generalize l0[all.length] = tk at *
      obtain ⟨tb, htb⟩ : ∃ tb, tk.extract 0 (min (tk.size : Int) 100).toNat = tb := ⟨_, rfl⟩
      have htbs : tb.size ≤ 100 := by rw [← htb, ByteArray.size_extract]; omega
      unfold maxLen at hti
      have hli : (all.length : Int) < (m : Int) := by omega
      have HA := add_any (hH.grown hgr (by simp)) hj0 hg0 hdr hjr tb (by omega)
      rw [comp_add (by omega) hasz htbs] at HA
      have HA := Lib.hid HA
      go_wp2_with fail
      refine HA.out.mono ?_
      rintro e w5 ⟨v5, rfl, he5, hd5, hj5, hduo5⟩
      obtain rfl := isErr_no he5
      simp only at hd5 hj5
      have hDb := hdr.at_
      obtain ⟨kv1, hDb, _⟩ := hDb
      have hrow5 := row_duo hrow hduo5 hDb hjr.blk (by decide) (by decide)
      have hg5 := grown_duo hgr hduo5 (by omega) (by omega)
      have hbx5 : Blk w5 w.heap.size 53 _ := (hduo5.block _ hbxr.lt (by omega) (by omega)).trans hbxr
      have hws5 := hg5.size
      clear hDb hrow hdr hjr hbxr he5 hduo5
      go_wp2_with (at_builtin; refine wpList_append_lies _ rfl _ _ 23 rfl w.heap.size 9 i0 _ 1 16 Tryd.underlying23 hi0 hz0 hz1 hz2 rfl (by decide) _ _ _ rfl (hrow5.alloc _) ⟨w5.heap.size, 0, none⟩ 1 1 [.string tb] rfl rfl (one_cell _ _ _) (by intro u hu; simp at hu; subst hu; rfl) (by omega) (by unfold maxLen; omega) (by omega) (by simp; omega) (w5.heap.size + 1) (by simp) ?_; intro g6 cap w6 hown6 hg6 hat6 hlt6)
      have hl1 : (all ++ [tb]).length = all.length + 1 := by simp
      refine ⟨⟨all ++ [tb], some ⟨g6, 0, none⟩, cap, by rw [hl1]; rfl, by rw [hl1], by rw [hl1, List.map_append]; exact hown6, by omega, ?_, rowed_disk hrow5 hg6 hd5, ⟨rowed_blk hrow5 hg6 (by decide) hj5.blk, hj5.file, hj5.gen⟩, rowed_blk hrow5 hg6 (by decide) hbx5, rowed_grown hrow5 hg6 hg5 (Nat.le_refl _)⟩, ?_⟩
      · intro r hr
        rw [List.mem_append] at hr
        rcases hr with hr | hr
        · exact hasz r hr
        · simp only [List.mem_singleton] at hr; subst hr; exact htbs
      · simp [intOf]; omega
    · obtain rfl : m = all.length := by omega
      have hlt2 : ¬ ((all.length : Int) < (all.length : Int)) := by omega
      have H5 := jsync_any (hH.grown hgr (by simp)) hj0 hg0 hdr hjr
      rw [comp_sync] at H5
      have H5 := Lib.hid H5
      have hDb := hdr.at_
      obtain ⟨kv1, hDb, _⟩ := hDb
      have hjblk := hjr.blk
      have hallr := row_strs hrow
      obtain ⟨sb, hsb⟩ : ∃ sb, st0.extract 0 (min (st0.size : Int) 1000).toNat = sb := ⟨_, rfl⟩
      have hsbs : sb.size ≤ 1000 := by rw [← hsb, ByteArray.size_extract]; omega
      have hadd : ¬ 9223372036854775807 < 3 + sb.size := by omega
      have hsts : ((⟨#[110, 101, 119]⟩ : ByteArray) ++ sb).size ≤ 1003 := by rw [ByteArray.size_append]; show 3 + sb.size ≤ 1003; omega
      have hne := new_ne sb
      have hne2 := new_ne2 sb
      obtain ⟨rc, D5, J5, D7, J7, I, ec, eo, hcase⟩ := comp_end hm20 hasz hsts N ks
      unfold maxLen at hst0
      clear hrow hdr hcell0 hl0
      go_wp2_with fail
      refine H5.out.mono ?_
      rintro e w5 ⟨v5, rfl, he5, hd5, hj5, hduo5⟩
      obtain rfl := isErr_no he5
      simp only at hd5 hj5
      have hg5 := grown_duo hgr hduo5 (by omega) (by omega)
      have hbx5 : Blk w5 w.heap.size 53 #[.int .i64 N, .slice Ak ks.length ck] := (hduo5.block _ hbxr.lt (by omega) (by omega)).trans hbxr
      have b0 : w5.cell? ⟨w.heap.size, 0, none⟩ = some (.int .i64 N) := hbx5.cell 0
      have b1 : w5.cell? ⟨w.heap.size, 1, none⟩ = some (.slice Ak ks.length ck) := hbx5.cell 1
      have H6 := Lib.hid (cut_any hd5 hN (hks.at_ hg5 (by omega)) h64 hkl)
      clear he5 hbxr hjr
      go_wp2_with fail
      refine H6.out.mono ?_
      rintro e w6 ⟨rfl, hd6, hk6⟩
      have hg6 := grown_own hg5 hk6 (by omega)
      have hj6 := hj5.grown hk6 (by simpa using hj5.ne hd5)
      have hbx6 := hbx5.grown hk6 (by simp; omega)
      have H7 := compact_any (hH.grown hg6 (by simp)) hj0 hg0 hd6 hj6 ((⟨#[110, 101, 119]⟩ : ByteArray) ++ sb) (by omega)
      rw [ec] at H7
      generalize (⟨#[110, 101, 119]⟩ : ByteArray) ++ sb = st at *
      have H7 := Lib.hid H7
      clear b0 b1 hbx5 hd5 hj5
      go_wp2_with fail
      refine H7.out.mono ?_
      rintro e w7 ⟨v7, rfl, he7, hd7, hj7, hduo7⟩
      simp only at he7 hd7
      have hg7 := grown_duo hg6 hduo7 (by omega) (by omega)
      have hbx7 : Blk w7 w.heap.size 53 #[.int .i64 N, .slice Ak ks.length ck] := (hduo7.block _ hbx6.lt (by omega) (by omega)).trans hbx6
      have b1 : w7.cell? ⟨w.heap.size, 1, none⟩ = some (.slice Ak ks.length ck) := hbx7.cell 1
      have H8 := Lib.hid (crash_any hd7 (hks.at_ hg7 (by omega)) h64)
      clear hbx6 hd6 hj6
      have herr : (rc = 0 ∧ v7 = .nilIface) ∨ (rc = 240 ∧ ∃ p, v7 = .iface 97 (.pointer (some ⟨p, 0, none⟩)) ∧ Faulty w7 p 240) := by
        rcases hcase with ⟨rfl, _⟩ | ⟨rfl, _⟩
        · exact .inl ⟨rfl, isErr_no he7⟩
        · exact .inr ⟨rfl, isErr_yes (by decide) he7⟩
      obtain ⟨IG, IS, IR⟩ := I
      simp only at hcase
      rcases herr with ⟨rfl, rfl⟩ | ⟨rfl, p, rfl, hf⟩
      · obtain ⟨rfl, rfl⟩ : IS = st ∧ IR = [] := by
          rcases hcase with ⟨_, h⟩ | ⟨h, _⟩
          · exact h
          · cases h
        go_wp2_with fail
        refine H8.out.mono ?_
        rintro e w8 ⟨rfl, hd8, hk8⟩
        have hg8 := grown_own hg7 hk8 (by omega)
        have H9 := open_any (hH.grown hg8 (by simp)) hg0 hd8
        rw [eo] at H9
        have H9 := Lib.hid H9
        go_wp2_with fail
        refine H9.out.mono ?_
        rintro e w9 ⟨hd9, hk9, hres⟩
        rcases hres with ⟨_, jb9, v9, rfl, hjb9, hj9, hst9⟩ | ⟨h, _⟩
        rotate_left
        · exact absurd rfl h
        simp only at hst9
        have hg9 := grown_own hg8 hk9 (by omega)
        have hst9' := hst9
        obtain ⟨A9, c9, rfl, _⟩ := hst9'.at_
        clear hst9'
        go_wp2_with fail
        go_ret
        exact ⟨rfl, hg9⟩
      · have hpg : p ≠ g := by
          obtain ⟨wh, ca, hpb⟩ := hf.at_
          have hD7 := hd7.at_
          obtain ⟨kv7, hD7, _⟩ := hD7
          exact Blk.ne_ hpb hD7 (by decide)
        have hcase2 : (IS = st ∧ IR = []) ∨ (IS = strOld ∧ IR = all) := by
          rcases hcase with ⟨h, _⟩ | ⟨_, h⟩
          · cases h
          · exact h
        rcases hcase2 with ⟨rfl, rfl⟩ | ⟨rfl, rfl⟩
        · skip
          go_wp2_with fail
          refine H8.out.mono ?_
          rintro e w8 ⟨rfl, hd8, hk8⟩
          have hg8 := grown_own hg7 hk8 (by omega)
          have H9 := open_any (hH.grown hg8 (by simp)) hg0 hd8
          rw [eo] at H9
          have H9 := Lib.hid H9
          go_wp2_with fail
          refine H9.out.mono ?_
          rintro e w9 ⟨hd9, hk9, hres⟩
          rcases hres with ⟨_, jb9, v9, rfl, hjb9, hj9, hst9⟩ | ⟨h, _⟩
          rotate_left
          · exact absurd rfl h
          simp only at hst9
          have hg9 := grown_own hg8 hk9 (by omega)
          have hst9' := hst9
          obtain ⟨A9, c9, rfl, _⟩ := hst9'.at_
          clear hst9'
          have hf9 := (hf.grown hk8 (by simp; omega)).grown hk9 (by simp; omega)
          have HC := Lib.hid (code_240 (hH.grown hg9 (by simp)) (isErr_of (c := 240) (by decide) hf9))
          go_wp2_with fail
          refine HC.out.mono ?_
          rintro e w10 ⟨rfl, hk10⟩
          have hg10 := only_trans hg9 hk10
          go_wp2_with fail
          go_ret
          exact ⟨rfl, hg10⟩
        · skip
          go_wp2_with fail
          refine H8.out.mono ?_
          rintro e w8 ⟨rfl, hd8, hk8⟩
          have hg8 := grown_own hg7 hk8 (by omega)
          have H9 := open_any (hH.grown hg8 (by simp)) hg0 hd8
          rw [eo] at H9
          have H9 := Lib.hid H9
          go_wp2_with fail
          refine H9.out.mono ?_
          rintro e w9 ⟨hd9, hk9, hres⟩
          rcases hres with ⟨_, jb9, v9, rfl, hjb9, hj9, hst9⟩ | ⟨h, _⟩
          rotate_left
          · exact absurd rfl h
          simp only at hst9
          have hg9 := grown_own hg8 hk9 (by omega)
          have hst9' := hst9
          obtain ⟨A9, c9, rfl, _⟩ := hst9'.at_
          clear hst9'
          have hf9 := (hf.grown hk8 (by simp; omega)).grown hk9 (by simp; omega)
          have HC := Lib.hid (code_240 (hH.grown hg9 (by simp)) (isErr_of (c := 240) (by decide) hf9))
          go_wp2_with fail
          refine HC.out.mono ?_
          rintro e w10 ⟨rfl, hk10⟩
          have hg10 := only_trans hg9 hk10
          have hduo := hduo5.trans ((Duo.of_left hk6).trans (hduo7.trans ((Duo.of_left hk8).trans ((Duo.of_left hk9).trans (Duo.of_none hk10)))))
          have hall10 := hallr.duo hduo hDb hjblk (by decide) (by decide)
          have HE := equal_any ((hst9.mono (Nat.zero_le _)).grown hk10) (hall10.mono (Nat.zero_le _)) (by omega)
          rw [show decide (IR = IR) = true from decide_eq_true rfl] at HE
          have HE := Lib.hid HE
          unfold strOld
          go_wp2_with fail
          refine HE.out.mono ?_
          rintro e w11 ⟨rfl, hk11⟩
          go_wp2_with fail
          go_ret
          exact ⟨rfl, only_trans hg10 hk11⟩
end
end Go.Proofs.YtklcpckjmncdkaaDoor
