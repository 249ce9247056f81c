/- THE WALK of the journal's read: what a file's bytes hold. -/
import Derived.Test.YtklcpckjmncdkaaGreatDoorHead
import Derived.Deep.AppendLies
import Derived.Laws.ResultCell
namespace Go.Proofs.YtklcpckjmncdkaaGreatDoor
set_option maxRecDepth 100000
open Go.RowKit

/-- What a file holds. -/
structure Img where
  gen : Nat
  state : ByteArray
  recs : List ByteArray
def Img.none_ : Img := ⟨0, ⟨#[]⟩, []⟩
def markS : ByteArray := ⟨#[115]⟩
def markR : ByteArray := ⟨#[114]⟩
/-- The bodies behind the head. -/
def scan (s : ByteArray) : Nat → Nat → List ByteArray → List ByteArray
  | 0, _, l => l
  | k + 1, p, l =>
    let u := unframe s p
    let r := cutPre u.1 (if l.length = 0 then markS else markR)
    if u.2.2 = 0 ∧ r.2 = true then scan s k u.2.1 (l ++ [r.1]) else l
def jread (s : ByteArray) : Img :=
  let u := unframe s 0
  if u.2.2 = 0 ∧ u.1.size = 16 ∧ (u.1.extract 0 8).toList = magicL then
    let l := scan s (s.size + 1) u.2.1 []
    if numAt u.1 8 4 = 0 ∨ numAt u.1 12 4 = 0 ∨ l.length < numAt u.1 12 4 then Img.none_ else ⟨numAt u.1 8 4, l.headD ⟨#[]⟩, l.tail⟩
  else Img.none_

theorem un_next {s : ByteArray} {q : Nat} (h : (unframe s q).2.2 = 0) : q < (unframe s q).2.1 ∧ (unframe s q).2.1 ≤ s.size := by
  revert h
  unfold unframe
  split
  · intro h; exact absurd h (by decide)
  split
  · intro h; exact absurd h (by decide)
  split
  · intro h; exact absurd h (by decide)
  split
  · intro h; exact absurd h (by decide)
  split
  · intro h; exact absurd h (by decide)
  · intro _
    simp only [Int.toNat_natCast] at *
    omega
theorem un_size (s : ByteArray) (p : Int) : (unframe s p).1.size ≤ s.size := by
  unfold unframe
  split
  · exact Nat.zero_le _
  split
  · exact Nat.zero_le _
  split
  · exact Nat.zero_le _
  split
  · exact Nat.zero_le _
  split
  · exact Nat.zero_le _
  · simp only [ByteArray.size_extract]; omega
/-- A slice of strings in a block of the call's own. -/
structure StrsAt (w : World) (B : Nat) (v : Value) (l : List ByteArray) : Prop where
  at_ : ∃ A c, v = .slice A l.length c ∧ l.length ≤ c ∧ c ≤ maxLen ∧
    (0 < c → ∃ b off cs, A = some ⟨b, off, none⟩ ∧ B ≤ b ∧ w.heap[b]? = some (.cells cs 9 (0, 0)) ∧ off + c ≤ cs.size ∧ ∀ j (h : j < l.length), cs[off + j]? = some (.string l[j]))
theorem StrsAt.nil (w : World) (B : Nat) : StrsAt w B (.slice none 0 0) [] := ⟨none, 0, rfl, Nat.le_refl _, Nat.zero_le _, fun h => absurd h (by omega)⟩
def IsImg (I : Img) (w : World) (e : Ending) (w' : World) : Prop :=
  ∃ v, e = .returned (.agg #[.int .i64 (I.gen : Int), .string I.state, v]) ∧ StrsAt w' w.heap.size v I.recs ∧ Below w.heap.size w w'
theorem IsImg.none_ (w : World) {w' : World} (h : Below w.heap.size w w') : IsImg Img.none_ w (.returned (.agg #[.int .i64 0, .string ⟨#[]⟩, .slice none 0 0])) w' := ⟨_, rfl, StrsAt.nil _ _, h⟩

theorem row_cells {l : List ByteArray} {cur : Array Value} (htk : cur.toList.take (l.length * 1) = l.map Value.string) :
    ∀ j (hj : j < l.length), cur[j]? = some (.string l[j]) := by
  intro j hj
  have h1 : (cur.toList.take (l.length * 1))[j]? = (l.map Value.string)[j]? := by rw [htk]
  rw [List.getElem?_take_of_lt (by omega), List.getElem?_map, List.getElem?_eq_getElem hj] at h1
  simpa using h1
theorem heap3 {wr : World} {g0 n : Nat} {o : Obj} (h : wr.heap[g0]? = some o) (hn : g0 ≠ n) (a b c : Value) :
    (((wr.setCell ⟨n, 0, none⟩ a).setCell ⟨n, 1, none⟩ b).setCell ⟨n, 2, none⟩ c).drew.heap[g0]? = some o :=
  ((Below.heap_setCell _ _ _ g0 hn).trans ((Below.heap_setCell _ _ _ g0 hn).trans (Below.heap_setCell _ _ _ g0 hn))).trans h
theorem img_row0 {w W : World} {gen c : Nat} {st : ByteArray} {l : List ByteArray} {A : Option Addr} (h : c - 1 = 0) (hle : l.length ≤ c) (hl1 : 0 < l.length) (hB : Below w.heap.size w W) :
    IsImg ⟨gen, st, l.tail⟩ w (.returned (.agg #[.int .i64 (gen : Int), .string st, .slice A (l.length - 1) 0])) W := by
  refine ⟨_, rfl, ⟨A, 0, by simp [List.length_tail], ?_, Nat.zero_le _, fun h => absurd h (by omega)⟩, hB⟩
  simp only [List.length_tail]; omega
theorem img_row {w W : World} {gen c g0 : Nat} {st : ByteArray} {l : List ByteArray} {cur : Array Value} (hgb : w.heap.size + 1 ≤ g0) (hle : l.length ≤ c) (hcm : c ≤ maxLen) (hcs : cur.size = c * 1)
    (hcell : ∀ j (hj : j < l.length), cur[j]? = some (.string l[j])) (hl1 : 0 < l.length) (hW : W.heap[g0]? = some (.cells cur 9 (0, 0))) (hB : Below w.heap.size w W) :
    IsImg ⟨gen, st, l.tail⟩ w (.returned (.agg #[.int .i64 (gen : Int), .string st, .slice (some ⟨g0, 1, none⟩) (l.length - 1) (c - 1)])) W := by
  refine ⟨_, rfl, ⟨some ⟨g0, 1, none⟩, c - 1, by simp [List.length_tail], ?_, by omega, fun _ => ⟨g0, 1, cur, rfl, by omega, hW, by omega, ?_⟩⟩, hB⟩
  · simp only [List.length_tail]; omega
  · intro j hj
    simp only [List.length_tail] at hj
    rw [hcell (1 + j) (by omega)]
    simp [List.getElem_tail, Nat.add_comm]
theorem Tryz.infoStr : (Tryz.prog.info? 9).map (fun i => (i.zero, i.size, i.bytes)) = some (some (.string ⟨#[]⟩), 1, 16) := by kernel_rfl
set_option maxHeartbeats 3200000 in
theorem read_file_any (s : ByteArray) (hs : s.size ≤ 16777216) (w : World) : Calls Tryz.prog 37 #[.string s] w (IsImg (jread s) w) := by
  have U := Lib.hid (fun p w => unframe_any s (by unfold maxLen; omega) p w)
  obtain ⟨i0, hi0, hz0, hz1, hz2⟩ := info_parts Tryz.infoStr
  have hJ : ∃ I, jread s = I ∧ I = jread s := ⟨_, rfl, rfl⟩
  obtain ⟨I, hI, hI'⟩ := hJ
  rw [hI]
  unfold jread at hI'
  have hU0 := Lib.hid (fun w => U.out 0 w)
  have hp0 := un_next (s := s) (q := 0)
  rw [show (((0 : Nat) : Int)) = 0 from rfl] at hp0
  generalize unframe s 0 = u0 at hI' hU0 hp0
  obtain ⟨h, p0, c0⟩ := u0
  simp only at hI' hU0 hp0
  have hb0 : Below w.heap.size w (w.alloc (.cells #[.int .i64 0, .string ⟨#[]⟩, .slice none 0 0] 85)) := (Below.refl _ w).alloc (Nat.le_refl _) _
  by_cases h1 : c0 = 0
  · subst h1
    by_cases h2 : h.size = 16
    · by_cases h3 : (h.extract 0 8).toList = magicL
      · rw [if_pos ⟨rfl, h2, h3⟩] at hI'
        have hh : h.size ≤ maxLen := by unfold maxLen; omega
        have G1 : ∀ w, Calls Tryz.prog 74 #[.string h, .int .i64 8, .int .i64 4] w fun e w' => e = .returned (.tuple #[.int .i64 (numAt h 8 4 : Nat), .int .i64 12, .int .u8 0]) ∧ w = w' := fun w => get_ok h hh 4 (.inr (.inr rfl)) 8 (by omega) w
        have G2 : ∀ w, Calls Tryz.prog 74 #[.string h, .int .i64 12, .int .i64 4] w fun e w' => e = .returned (.tuple #[.int .i64 (numAt h 12 4 : Nat), .int .i64 16, .int .u8 0]) ∧ w = w' := fun w => get_ok h hh 4 (.inr (.inr rfl)) 12 (by omega) w
        have g1 := Lib.hid G1
        have g2 := Lib.hid G2
        clear G1 G2
        have hn1 := numAt_lt4 h 8 4 (by decide)
        have hn2 := numAt_lt4 h 12 4 (by decide)
        generalize numAt h 8 4 = gen at *
        generalize numAt h 12 4 = num at *
        unfold magicL at h3
        have HI := Lib.hid hI'
        clear hI hI'
        go_enter Tryz.func37, Tryz.ntmps37
        go_wp2_with fail
        refine (hU0.out _).mono ?_
        rintro e w' ⟨rfl, rfl⟩
        go_wp2_with fail
        refine (g1.out _).mono ?_
        rintro e w' ⟨rfl, rfl⟩
        go_wp2_with fail
        refine (g2.out _).mono ?_
        rintro e w' ⟨rfl, rfl⟩
        go_wp2_with fail
        have Hp0 := Lib.hid (hp0 (by trivial)).2
        clear hp0
        have F0 : ∃ F, scan s (s.size + 1) p0 [] = F := ⟨_, rfl⟩
        obtain ⟨F, hF⟩ := F0
        rw [hF] at HI
        have HF := Lib.hid hF
        clear hF
        go_loopw [4, 12] (fun pv lv wr => ∃ (k q : Nat) (l : List ByteArray) (A : Option Addr) (c : Nat), pv = .int .i64 (q : Int) ∧ lv = .slice A l.length c ∧ wr.ownsRow (w.heap.size + 1) 9 1 (.slice A l.length c) l.length (l.map Value.string) ∧
          Below (w.heap.size + 1) (w.alloc (.cells #[.int .i64 0, .string ⟨#[]⟩, .slice none 0 0] 85)) wr ∧ scan s k q l = F ∧ s.size < q + k ∧ q ≤ s.size ∧ l.length ≤ q) (fun pv _ _ => s.size + 1 - (intOf pv).toNat)
        case atStart => exact ⟨s.size + 1, p0, [], none, 0, rfl, rfl, World.ownsRow_nil _ _ _ _, Below.refl _ _, HF.out, by omega, Hp0.out, Nat.zero_le _⟩
        case round =>
          obtain ⟨k, q, l, A, c, rfl, rfl, hrow, hbel, hsc, hk, hq, hlq⟩ := hrel
          obtain ⟨k, rfl⟩ : ∃ k', k = k' + 1 := ⟨k - 1, by omega⟩
          unfold scan at hsc
          have hun := un_next (s := s) (q := q)
          have hus := un_size s q
          have Uq := Lib.hid (fun w => U.out (q : Int) w)
          generalize unframe s (q : Int) = u at hsc hun hus Uq
          obtain ⟨ub, un, uc⟩ := u
          simp only at hsc hun hus Uq
          by_cases h0 : l.length = 0
          · skip
            obtain rfl : l = [] := List.eq_nil_of_length_eq_zero h0
            clear h0
            have P1 := fun w => cutPre_any ub markS (by unfold maxLen; omega) (by decide) w
            rw [if_pos (show ([] : List ByteArray).length = 0 from rfl)] at hsc
            generalize cutPre ub markS = r at hsc P1
            obtain ⟨rb, ro⟩ := r
            unfold markS at P1
            simp only at hsc P1
            have P1 := Lib.hid P1
            skip
            by_cases hc : uc = 0
            · subst hc
              cases ro with
              | true =>
                rw [if_pos ⟨rfl, rfl⟩] at hsc
                have Hsc := Lib.hid hsc
                obtain ⟨hn1, hn2⟩ := hun (by trivial)
                clear hsc hun
                go_wp2_with fail
                refine (Uq.out _).mono ?_
                rintro e w' ⟨rfl, rfl⟩
                go_wp2_with fail
                refine (P1.out _).mono ?_
                rintro e w' ⟨rfl, rfl⟩
                go_wp2_with (at_builtin; refine wpList_append_lies _ rfl _ _ 32 rfl (w.heap.size + 1) 9 i0 _ 1 16 Tryz.underlying32 hi0 hz0 hz1 hz2 rfl (by decide) _ _ _ rfl (hrow.alloc _) ⟨wr.heap.size, 0, none⟩ 1 1 [.string rb] rfl rfl (one_cell _ _ _) (by intro u hu; simp at hu; subst hu; rfl) (by omega) (by unfold maxLen; omega) (by omega) (by have h9 := hbel.size; simp at h9; simp; omega) (wr.heap.size + 1) (by simp) ?_; intro g cap w1 hown1 hg1 hat1 hlt1)
                go_roundw
                case rel =>
                  have hl : (([] : List ByteArray) ++ [rb]).length = ([] : List ByteArray).length + 1 := by simp
                  refine ⟨k, un, ([] : List ByteArray) ++ [rb], some ⟨g, 0, none⟩, cap, rfl, by first | (rw [hl]; done) | (rw [hl]; rfl), ?_, ?_, Hsc.out, by omega, hn2, by omega⟩
                  · rw [hl, List.map_append]; exact hown1
                  · exact (hbel.alloc (by have h9 := hbel.size; simp at h9; omega) _).grown hg1 (by have h9 := hbel.size; simp at h9; simp; omega) (fun k hk => (hrow.lt k hk).1)
                case measure => simp [intOf]; omega
              | false =>
                rw [if_neg (fun h => absurd h.2 (by decide))] at hsc
                obtain rfl : ([] : List ByteArray) = F := hsc
                have hfin : Below w.heap.size w wr := hb0.trans (hbel.mono (by omega))
                have hbk : Blk wr w.heap.size 85 #[.int .i64 0, .string ⟨#[]⟩, .slice none 0 0] := (Blk.new w _ _).below hbel (by omega)
                have k0 := hbk.cell 0
                have k1 := hbk.cell 1
                have k2 := hbk.cell 2
                have kf := fun i => hbk.frozen i
                by_cases z1 : gen = 0
                · have z1b : ((gen : Int) == 0) = true := by simp [z1]
                  have hI2 : I = Img.none_ := by rw [HI.out]; exact if_pos (.inl z1)
                  clear HI
                  subst hI2
                  try clear z1
                  try clear z2
                  go_wp2_with fail
                  refine (Uq.out _).mono ?_
                  rintro e w' ⟨rfl, rfl⟩
                  go_wp2_with fail
                  refine (P1.out _).mono ?_
                  rintro e w' ⟨rfl, rfl⟩
                  go_wp2_with fail
                  refine bodyPost_ret (by simp [results, Tryz.results37, go_sem, k0, k1, k2]; try rfl) rfl ?_
                  exact IsImg.none_ w (((hfin.setCell (p := ⟨w.heap.size, 0, none⟩) (Nat.le_refl _) _).setCell (p := ⟨w.heap.size, 1, none⟩) (Nat.le_refl _) _).setCell (p := ⟨w.heap.size, 2, none⟩) (Nat.le_refl _) _)
                · have z1b : ((gen : Int) == 0) = false := by simp [z1]
                  by_cases z2 : num = 0
                  · have z2b : ((num : Int) == 0) = true := by simp [z2]
                    have hI2 : I = Img.none_ := by rw [HI.out]; exact if_pos (.inr (.inl z2))
                    clear HI
                    subst hI2
                    try clear z1
                    try clear z2
                    go_wp2_with fail
                    refine (Uq.out _).mono ?_
                    rintro e w' ⟨rfl, rfl⟩
                    go_wp2_with fail
                    refine (P1.out _).mono ?_
                    rintro e w' ⟨rfl, rfl⟩
                    go_wp2_with fail
                    refine bodyPost_ret (by simp [results, Tryz.results37, go_sem, k0, k1, k2]; try rfl) rfl ?_
                    exact IsImg.none_ w (((hfin.setCell (p := ⟨w.heap.size, 0, none⟩) (Nat.le_refl _) _).setCell (p := ⟨w.heap.size, 1, none⟩) (Nat.le_refl _) _).setCell (p := ⟨w.heap.size, 2, none⟩) (Nat.le_refl _) _)
                  · have z2b : ((num : Int) == 0) = false := by simp [z2]
                    by_cases z3 : List.length ([] : List ByteArray) < num
                    · skip
                      have hI2 : I = Img.none_ := by rw [HI.out]; exact if_pos (.inr (.inr z3))
                      clear HI
                      subst hI2
                      try clear z1
                      try clear z2
                      go_wp2_with fail
                      refine (Uq.out _).mono ?_
                      rintro e w' ⟨rfl, rfl⟩
                      go_wp2_with fail
                      refine (P1.out _).mono ?_
                      rintro e w' ⟨rfl, rfl⟩
                      go_wp2_with fail
                      refine bodyPost_ret (by simp [results, Tryz.results37, go_sem, k0, k1, k2]; try rfl) rfl ?_
                      exact IsImg.none_ w (((hfin.setCell (p := ⟨w.heap.size, 0, none⟩) (Nat.le_refl _) _).setCell (p := ⟨w.heap.size, 1, none⟩) (Nat.le_refl _) _).setCell (p := ⟨w.heap.size, 2, none⟩) (Nat.le_refl _) _)
                    · have hI2 : I = ⟨gen, List.headD ([] : List ByteArray) ⟨#[]⟩, List.tail ([] : List ByteArray)⟩ := by rw [HI.out]; exact if_neg (by rintro (h | h | h) <;> omega)
                      clear HI
                      subst hI2
                      exfalso
                      simp at z3
                      omega
            · rw [if_neg (fun h => hc h.1)] at hsc
              have hcb : ((uc : Int) != 0) = true := by simp [hc]
              obtain rfl : ([] : List ByteArray) = F := hsc
              have hfin : Below w.heap.size w wr := hb0.trans (hbel.mono (by omega))
              have hbk : Blk wr w.heap.size 85 #[.int .i64 0, .string ⟨#[]⟩, .slice none 0 0] := (Blk.new w _ _).below hbel (by omega)
              have k0 := hbk.cell 0
              have k1 := hbk.cell 1
              have k2 := hbk.cell 2
              have kf := fun i => hbk.frozen i
              by_cases z1 : gen = 0
              · have z1b : ((gen : Int) == 0) = true := by simp [z1]
                have hI2 : I = Img.none_ := by rw [HI.out]; exact if_pos (.inl z1)
                clear HI
                subst hI2
                try clear z1
                try clear z2
                go_wp2_with fail
                refine (Uq.out _).mono ?_
                rintro e w' ⟨rfl, rfl⟩
                go_wp2_with fail
                refine (P1.out _).mono ?_
                rintro e w' ⟨rfl, rfl⟩
                go_wp2_with fail
                refine bodyPost_ret (by simp [results, Tryz.results37, go_sem, k0, k1, k2]; try rfl) rfl ?_
                exact IsImg.none_ w (((hfin.setCell (p := ⟨w.heap.size, 0, none⟩) (Nat.le_refl _) _).setCell (p := ⟨w.heap.size, 1, none⟩) (Nat.le_refl _) _).setCell (p := ⟨w.heap.size, 2, none⟩) (Nat.le_refl _) _)
              · have z1b : ((gen : Int) == 0) = false := by simp [z1]
                by_cases z2 : num = 0
                · have z2b : ((num : Int) == 0) = true := by simp [z2]
                  have hI2 : I = Img.none_ := by rw [HI.out]; exact if_pos (.inr (.inl z2))
                  clear HI
                  subst hI2
                  try clear z1
                  try clear z2
                  go_wp2_with fail
                  refine (Uq.out _).mono ?_
                  rintro e w' ⟨rfl, rfl⟩
                  go_wp2_with fail
                  refine (P1.out _).mono ?_
                  rintro e w' ⟨rfl, rfl⟩
                  go_wp2_with fail
                  refine bodyPost_ret (by simp [results, Tryz.results37, go_sem, k0, k1, k2]; try rfl) rfl ?_
                  exact IsImg.none_ w (((hfin.setCell (p := ⟨w.heap.size, 0, none⟩) (Nat.le_refl _) _).setCell (p := ⟨w.heap.size, 1, none⟩) (Nat.le_refl _) _).setCell (p := ⟨w.heap.size, 2, none⟩) (Nat.le_refl _) _)
                · have z2b : ((num : Int) == 0) = false := by simp [z2]
                  by_cases z3 : List.length ([] : List ByteArray) < num
                  · skip
                    have hI2 : I = Img.none_ := by rw [HI.out]; exact if_pos (.inr (.inr z3))
                    clear HI
                    subst hI2
                    try clear z1
                    try clear z2
                    go_wp2_with fail
                    refine (Uq.out _).mono ?_
                    rintro e w' ⟨rfl, rfl⟩
                    go_wp2_with fail
                    refine (P1.out _).mono ?_
                    rintro e w' ⟨rfl, rfl⟩
                    go_wp2_with fail
                    refine bodyPost_ret (by simp [results, Tryz.results37, go_sem, k0, k1, k2]; try rfl) rfl ?_
                    exact IsImg.none_ w (((hfin.setCell (p := ⟨w.heap.size, 0, none⟩) (Nat.le_refl _) _).setCell (p := ⟨w.heap.size, 1, none⟩) (Nat.le_refl _) _).setCell (p := ⟨w.heap.size, 2, none⟩) (Nat.le_refl _) _)
                  · have hI2 : I = ⟨gen, List.headD ([] : List ByteArray) ⟨#[]⟩, List.tail ([] : List ByteArray)⟩ := by rw [HI.out]; exact if_neg (by rintro (h | h | h) <;> omega)
                    clear HI
                    subst hI2
                    exfalso
                    simp at z3
                    omega
          · skip
            have P1 := fun w => cutPre_any ub markR (by unfold maxLen; omega) (by decide) w
            rw [if_neg h0] at hsc
            generalize cutPre ub markR = r at hsc P1
            obtain ⟨rb, ro⟩ := r
            unfold markR at P1
            simp only at hsc P1
            have P1 := Lib.hid P1
            have h0b : ((l.length : Int) == 0) = false := by simpa using h0
            by_cases hc : uc = 0
            · subst hc
              cases ro with
              | true =>
                rw [if_pos ⟨rfl, rfl⟩] at hsc
                have Hsc := Lib.hid hsc
                obtain ⟨hn1, hn2⟩ := hun (by trivial)
                clear hsc hun
                go_wp2_with fail
                refine (Uq.out _).mono ?_
                rintro e w' ⟨rfl, rfl⟩
                go_wp2_with fail
                refine (P1.out _).mono ?_
                rintro e w' ⟨rfl, rfl⟩
                go_wp2_with (at_builtin; refine wpList_append_lies _ rfl _ _ 32 rfl (w.heap.size + 1) 9 i0 _ 1 16 Tryz.underlying32 hi0 hz0 hz1 hz2 rfl (by decide) _ _ _ rfl (hrow.alloc _) ⟨wr.heap.size, 0, none⟩ 1 1 [.string rb] rfl rfl (one_cell _ _ _) (by intro u hu; simp at hu; subst hu; rfl) (by omega) (by unfold maxLen; omega) (by omega) (by have h9 := hbel.size; simp at h9; simp; omega) (wr.heap.size + 1) (by simp) ?_; intro g cap w1 hown1 hg1 hat1 hlt1)
                go_roundw
                case rel =>
                  have hl : (l ++ [rb]).length = l.length + 1 := by simp
                  refine ⟨k, un, l ++ [rb], some ⟨g, 0, none⟩, cap, rfl, by first | (rw [hl]; done) | (rw [hl]; rfl), ?_, ?_, Hsc.out, by omega, hn2, by omega⟩
                  · rw [hl, List.map_append]; exact hown1
                  · exact (hbel.alloc (by have h9 := hbel.size; simp at h9; omega) _).grown hg1 (by have h9 := hbel.size; simp at h9; simp; omega) (fun k hk => (hrow.lt k hk).1)
                case measure => simp [intOf]; omega
              | false =>
                rw [if_neg (fun h => absurd h.2 (by decide))] at hsc
                obtain rfl : l = F := hsc
                have hfin : Below w.heap.size w wr := hb0.trans (hbel.mono (by omega))
                have hbk : Blk wr w.heap.size 85 #[.int .i64 0, .string ⟨#[]⟩, .slice none 0 0] := (Blk.new w _ _).below hbel (by omega)
                have k0 := hbk.cell 0
                have k1 := hbk.cell 1
                have k2 := hbk.cell 2
                have kf := fun i => hbk.frozen i
                by_cases z1 : gen = 0
                · have z1b : ((gen : Int) == 0) = true := by simp [z1]
                  have hI2 : I = Img.none_ := by rw [HI.out]; exact if_pos (.inl z1)
                  clear HI
                  subst hI2
                  try clear z1
                  try clear z2
                  go_wp2_with fail
                  refine (Uq.out _).mono ?_
                  rintro e w' ⟨rfl, rfl⟩
                  go_wp2_with fail
                  refine (P1.out _).mono ?_
                  rintro e w' ⟨rfl, rfl⟩
                  go_wp2_with fail
                  refine bodyPost_ret (by simp [results, Tryz.results37, go_sem, k0, k1, k2]; try rfl) rfl ?_
                  exact IsImg.none_ w (((hfin.setCell (p := ⟨w.heap.size, 0, none⟩) (Nat.le_refl _) _).setCell (p := ⟨w.heap.size, 1, none⟩) (Nat.le_refl _) _).setCell (p := ⟨w.heap.size, 2, none⟩) (Nat.le_refl _) _)
                · have z1b : ((gen : Int) == 0) = false := by simp [z1]
                  by_cases z2 : num = 0
                  · have z2b : ((num : Int) == 0) = true := by simp [z2]
                    have hI2 : I = Img.none_ := by rw [HI.out]; exact if_pos (.inr (.inl z2))
                    clear HI
                    subst hI2
                    try clear z1
                    try clear z2
                    go_wp2_with fail
                    refine (Uq.out _).mono ?_
                    rintro e w' ⟨rfl, rfl⟩
                    go_wp2_with fail
                    refine (P1.out _).mono ?_
                    rintro e w' ⟨rfl, rfl⟩
                    go_wp2_with fail
                    refine bodyPost_ret (by simp [results, Tryz.results37, go_sem, k0, k1, k2]; try rfl) rfl ?_
                    exact IsImg.none_ w (((hfin.setCell (p := ⟨w.heap.size, 0, none⟩) (Nat.le_refl _) _).setCell (p := ⟨w.heap.size, 1, none⟩) (Nat.le_refl _) _).setCell (p := ⟨w.heap.size, 2, none⟩) (Nat.le_refl _) _)
                  · have z2b : ((num : Int) == 0) = false := by simp [z2]
                    by_cases z3 : List.length l < num
                    · skip
                      have hI2 : I = Img.none_ := by rw [HI.out]; exact if_pos (.inr (.inr z3))
                      clear HI
                      subst hI2
                      try clear z1
                      try clear z2
                      go_wp2_with fail
                      refine (Uq.out _).mono ?_
                      rintro e w' ⟨rfl, rfl⟩
                      go_wp2_with fail
                      refine (P1.out _).mono ?_
                      rintro e w' ⟨rfl, rfl⟩
                      go_wp2_with fail
                      refine bodyPost_ret (by simp [results, Tryz.results37, go_sem, k0, k1, k2]; try rfl) rfl ?_
                      exact IsImg.none_ w (((hfin.setCell (p := ⟨w.heap.size, 0, none⟩) (Nat.le_refl _) _).setCell (p := ⟨w.heap.size, 1, none⟩) (Nat.le_refl _) _).setCell (p := ⟨w.heap.size, 2, none⟩) (Nat.le_refl _) _)
                    · have hI2 : I = ⟨gen, List.headD l ⟨#[]⟩, List.tail l⟩ := by rw [HI.out]; exact if_neg (by rintro (h | h | h) <;> omega)
                      clear HI
                      subst hI2
                      have hl1 : 0 < l.length := by omega
                      rcases hrow.2 with ⟨_, hz⟩ | ⟨g0, cap, cur, hv, hgb, hg0, hle, hcm, hcs, htk⟩
                      · exact absurd hz (by omega)
                      obtain ⟨rfl, rfl⟩ : A = some ⟨g0, 0, none⟩ ∧ c = cap := by injection hv with a1 a2 a3; exact ⟨a1, a3⟩
                      have hcell : ∀ j (hj : j < l.length), cur[j]? = some (.string l[j]) := row_cells htk
                      have e0 : wr.cell? ⟨g0, 0, none⟩ = some (.string (l.headD ⟨#[]⟩)) := by
                        rw [cell_of_row wr g0 0 _ _ (0, 0) hg0, hcell 0 hl1]
                        cases l with
                        | nil => exact absurd hl1 (by simp)
                        | cons a l => rfl
                      have hgn : g0 ≠ w.heap.size := by omega
                      have b0 : (0 : Int) < (l.length : Int) := by omega
                      have b1 : (1 : Int) ≤ (l.length : Int) := by omega
                      have z3b : decide ((l.length : Int) < (num : Int)) = false := by simp; omega
                      go_wp2_with fail
                      refine (Uq.out _).mono ?_
                      rintro e w' ⟨rfl, rfl⟩
                      go_wp2_with fail
                      refine (P1.out _).mono ?_
                      rintro e w' ⟨rfl, rfl⟩
                      go_wp2_with fail
                      go_region
                      all_goals (try go_wp2_with fail)
                      all_goals (refine bodyPost_ret (by simp [results, Tryz.results37, go_sem, k0, k1, k2]; try rfl) rfl ?_)
                      all_goals rw [← List.headD_eq_head?_getD]
                      all_goals have hBw := fun x => (((hfin.setCell (p := ⟨w.heap.size, 0, none⟩) (Nat.le_refl _) (.int .i64 (gen : Int))).setCell (p := ⟨w.heap.size, 1, none⟩) (Nat.le_refl _) (.string (l.headD ⟨#[]⟩))).setCell (p := ⟨w.heap.size, 2, none⟩) (Nat.le_refl _) x).drew
                      all_goals first
                        | exact img_row0 (by omega) hle hl1 (hBw _)
                        | exact img_row hgb hle hcm hcs hcell hl1 (heap3 hg0 hgn _ _ _) (hBw _)
            · rw [if_neg (fun h => hc h.1)] at hsc
              have hcb : ((uc : Int) != 0) = true := by simp [hc]
              obtain rfl : l = F := hsc
              have hfin : Below w.heap.size w wr := hb0.trans (hbel.mono (by omega))
              have hbk : Blk wr w.heap.size 85 #[.int .i64 0, .string ⟨#[]⟩, .slice none 0 0] := (Blk.new w _ _).below hbel (by omega)
              have k0 := hbk.cell 0
              have k1 := hbk.cell 1
              have k2 := hbk.cell 2
              have kf := fun i => hbk.frozen i
              by_cases z1 : gen = 0
              · have z1b : ((gen : Int) == 0) = true := by simp [z1]
                have hI2 : I = Img.none_ := by rw [HI.out]; exact if_pos (.inl z1)
                clear HI
                subst hI2
                try clear z1
                try clear z2
                go_wp2_with fail
                refine (Uq.out _).mono ?_
                rintro e w' ⟨rfl, rfl⟩
                go_wp2_with fail
                refine (P1.out _).mono ?_
                rintro e w' ⟨rfl, rfl⟩
                go_wp2_with fail
                refine bodyPost_ret (by simp [results, Tryz.results37, go_sem, k0, k1, k2]; try rfl) rfl ?_
                exact IsImg.none_ w (((hfin.setCell (p := ⟨w.heap.size, 0, none⟩) (Nat.le_refl _) _).setCell (p := ⟨w.heap.size, 1, none⟩) (Nat.le_refl _) _).setCell (p := ⟨w.heap.size, 2, none⟩) (Nat.le_refl _) _)
              · have z1b : ((gen : Int) == 0) = false := by simp [z1]
                by_cases z2 : num = 0
                · have z2b : ((num : Int) == 0) = true := by simp [z2]
                  have hI2 : I = Img.none_ := by rw [HI.out]; exact if_pos (.inr (.inl z2))
                  clear HI
                  subst hI2
                  try clear z1
                  try clear z2
                  go_wp2_with fail
                  refine (Uq.out _).mono ?_
                  rintro e w' ⟨rfl, rfl⟩
                  go_wp2_with fail
                  refine (P1.out _).mono ?_
                  rintro e w' ⟨rfl, rfl⟩
                  go_wp2_with fail
                  refine bodyPost_ret (by simp [results, Tryz.results37, go_sem, k0, k1, k2]; try rfl) rfl ?_
                  exact IsImg.none_ w (((hfin.setCell (p := ⟨w.heap.size, 0, none⟩) (Nat.le_refl _) _).setCell (p := ⟨w.heap.size, 1, none⟩) (Nat.le_refl _) _).setCell (p := ⟨w.heap.size, 2, none⟩) (Nat.le_refl _) _)
                · have z2b : ((num : Int) == 0) = false := by simp [z2]
                  by_cases z3 : List.length l < num
                  · skip
                    have hI2 : I = Img.none_ := by rw [HI.out]; exact if_pos (.inr (.inr z3))
                    clear HI
                    subst hI2
                    try clear z1
                    try clear z2
                    go_wp2_with fail
                    refine (Uq.out _).mono ?_
                    rintro e w' ⟨rfl, rfl⟩
                    go_wp2_with fail
                    refine (P1.out _).mono ?_
                    rintro e w' ⟨rfl, rfl⟩
                    go_wp2_with fail
                    refine bodyPost_ret (by simp [results, Tryz.results37, go_sem, k0, k1, k2]; try rfl) rfl ?_
                    exact IsImg.none_ w (((hfin.setCell (p := ⟨w.heap.size, 0, none⟩) (Nat.le_refl _) _).setCell (p := ⟨w.heap.size, 1, none⟩) (Nat.le_refl _) _).setCell (p := ⟨w.heap.size, 2, none⟩) (Nat.le_refl _) _)
                  · have hI2 : I = ⟨gen, List.headD l ⟨#[]⟩, List.tail l⟩ := by rw [HI.out]; exact if_neg (by rintro (h | h | h) <;> omega)
                    clear HI
                    subst hI2
                    have hl1 : 0 < l.length := by omega
                    rcases hrow.2 with ⟨_, hz⟩ | ⟨g0, cap, cur, hv, hgb, hg0, hle, hcm, hcs, htk⟩
                    · exact absurd hz (by omega)
                    obtain ⟨rfl, rfl⟩ : A = some ⟨g0, 0, none⟩ ∧ c = cap := by injection hv with a1 a2 a3; exact ⟨a1, a3⟩
                    have hcell : ∀ j (hj : j < l.length), cur[j]? = some (.string l[j]) := row_cells htk
                    have e0 : wr.cell? ⟨g0, 0, none⟩ = some (.string (l.headD ⟨#[]⟩)) := by
                      rw [cell_of_row wr g0 0 _ _ (0, 0) hg0, hcell 0 hl1]
                      cases l with
                      | nil => exact absurd hl1 (by simp)
                      | cons a l => rfl
                    have hgn : g0 ≠ w.heap.size := by omega
                    have b0 : (0 : Int) < (l.length : Int) := by omega
                    have b1 : (1 : Int) ≤ (l.length : Int) := by omega
                    have z3b : decide ((l.length : Int) < (num : Int)) = false := by simp; omega
                    go_wp2_with fail
                    refine (Uq.out _).mono ?_
                    rintro e w' ⟨rfl, rfl⟩
                    go_wp2_with fail
                    refine (P1.out _).mono ?_
                    rintro e w' ⟨rfl, rfl⟩
                    go_wp2_with fail
                    go_region
                    all_goals (try go_wp2_with fail)
                    all_goals (refine bodyPost_ret (by simp [results, Tryz.results37, go_sem, k0, k1, k2]; try rfl) rfl ?_)
                    all_goals rw [← List.headD_eq_head?_getD]
                    all_goals have hBw := fun x => (((hfin.setCell (p := ⟨w.heap.size, 0, none⟩) (Nat.le_refl _) (.int .i64 (gen : Int))).setCell (p := ⟨w.heap.size, 1, none⟩) (Nat.le_refl _) (.string (l.headD ⟨#[]⟩))).setCell (p := ⟨w.heap.size, 2, none⟩) (Nat.le_refl _) x).drew
                    all_goals first
                      | exact img_row0 (by omega) hle hl1 (hBw _)
                      | exact img_row hgb hle hcm hcs hcell hl1 (heap3 hg0 hgn _ _ _) (hBw _)
      · rw [if_neg (fun h => h3 h.2.2)] at hI'
        subst hI'
        unfold magicL at h3
        have h3b : ((h.extract 0 8).toList == [65, 81, 85, 69, 68, 85, 67, 84]) = false := by simpa using h3
        go_enter Tryz.func37, Tryz.ntmps37
        go_wp2_with fail
        refine (hU0.out _).mono ?_
        rintro e w' ⟨rfl, rfl⟩
        go_wp2_with fail
        go_returns
        exact IsImg.none_ w hb0
    · rw [if_neg (fun h => h2 h.2.1)] at hI'
      subst hI'
      have h2b : ((h.size : Int) != 16) = true := by simp; omega
      clear h2
      go_enter Tryz.func37, Tryz.ntmps37
      go_wp2_with fail
      refine (hU0.out _).mono ?_
      rintro e w' ⟨rfl, rfl⟩
      go_wp2_with fail
      go_returns
      exact IsImg.none_ w hb0
  · rw [if_neg (fun h => h1 h.1)] at hI'
    subst hI'
    have h1b : ((c0 : Int) != 0) = true := by simp [h1]
    clear h1
    go_enter Tryz.func37, Tryz.ntmps37
    go_wp2_with fail
    refine (hU0.out _).mono ?_
    rintro e w' ⟨rfl, rfl⟩
    go_wp2_with fail
    go_returns
    exact IsImg.none_ w hb0
end Go.Proofs.YtklcpckjmncdkaaGreatDoor
