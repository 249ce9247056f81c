/- THE WALKS of packet.Put at the four kinds. -/
import Derived.Test.YtcepfhnlbnlnhaaDoorPutC
namespace Go.Proofs.YtcepfhnlbnlnhaaDoor
set_option maxRecDepth 100000
open Go.RowKit

/-- A packet's bytes, or why there are none. -/
def IsPut (bad : Bool) (L : List UInt8) (w : World) (e : Ending) (w' : World) : Prop :=
  w.grownBy w' none ∧ ((bad = false ∧ ∃ s : ByteArray, e = .returned (.tuple #[.string s, .int .u8 0]) ∧ s.data.toList = L) ∨ (bad = true ∧ e = .returned (.tuple #[.string ⟨#[]⟩, .int .u8 129])))
theorem be_one (n : Nat) (h : n < 256) : be 1 n = [UInt8.ofNat n] := by
  simp only [be]
  rw [Nat.mod_eq_of_lt h]; rfl
theorem bodyL_pub (q id : Nat) (t p : ByteArray) : (Pk.pub q id t p).bodyL ≠ [] := by
  simp [Pk.bodyL]
section
variable {w : World}
theorem flags_any (k : Nat) (h : k = 3 ∨ k = 4 ∨ k = 12) : Calls Tryd.prog 10 #[.int .i64 (k : Int)] w fun e w' => e = .returned (.int .i64 0) ∧ w = w' := by
  rcases h with rfl | rfl | rfl <;> (go_enter Tryd.func10, Tryd.ntmps10; go_wp2_with fail; go_ret; exact ⟨rfl, rfl⟩)
theorem flags_sub : Calls Tryd.prog 10 #[.int .i64 8] w fun e w' => e = .returned (.int .i64 2) ∧ w = w' := by
  go_enter Tryd.func10, Tryd.ntmps10
  go_wp2_with fail
  go_ret
  exact ⟨rfl, rfl⟩
/-- A writer that is new. -/
theorem writer_new (w : World) (cs : Array Value) : WrAt ((w.alloc (.cells cs 37)).alloc (.cells #[.pointer none, .slice none 0 0, .int .u8 0] 56)) (w.heap.size + 1) [] 0 := by
  refine ⟨.pointer none, .slice none 0 0, .inl rfl, ?_, World.ownsRow_nil _ _ _ _⟩
  have h := Blk.new (w.alloc (.cells cs 37)) 56 #[.pointer none, .slice none 0 0, .int .u8 ((0 : Nat) : Int)]
  rw [show (w.alloc (.cells cs 37)).heap.size = w.heap.size + 1 by simp] at h
  exact h
set_option maxHeartbeats 3200000 in
theorem put_pub (hT : U8 w) (q id : Nat) (t p : ByteArray) (hq : q ≤ 2) (hid : q ≠ 0 → IdOk id) (ht : t.size ≤ 31) (hp : p.size ≤ 300) :
    Calls Tryd.prog 6 #[.agg (pkZ 3 q id t p (.slice none 0 0))] w (IsPut (tbad t 0).isSome (Pk.pub q id t p).enc w) := by
  have hsm := hT.small
  have hX : Blk (w.alloc (.cells (pkZ 3 q id t p (.slice none 0 0)) 37)) w.heap.size 37 (pkZ 3 q id t p (.slice none 0 0)) := Blk.new _ _ _
  have hX2 := (hX.alloc (.cells #[.pointer none, .slice none 0 0, .int .u8 0] 56)).drew
  have hW := (writer_new w (pkZ 3 q id t p (.slice none 0 0))).grown (only_drew (only_refl _ none))
  have hk0 : Lk none (w.heap.size + 1) (w.alloc (.cells (pkZ 3 q id t p (.slice none 0 0)) 37)) ((w.alloc (.cells (pkZ 3 q id t p (.slice none 0 0)) 37)).alloc (.cells #[.pointer none, .slice none 0 0, .int .u8 0] 56)).drew :=
    ((Lk.refl _ _ _).allocR _).trans (Lk.of_grown (only_drew (only_refl _ none)) _)
  have hT0 : U8 ((w.alloc (.cells (pkZ 3 q id t p (.slice none 0 0)) 37)).alloc (.cells #[.pointer none, .slice none 0 0, .int .u8 0] 56)).drew := hT.kept (only_drew (only_alloc (only_alloc (only_refl w none) _) _))
  have hB := wbody_pub hW hT0 q id t p hid (by omega) (by omega) (by simp)
  rw [if_pos rfl, List.nil_append] at hB
  have hLl : (tputL t ++ (if q = 0 then [] else be 2 id) ++ [0] ++ p.data.toList).length ≤ 400 := by
    have h1 := tputL_len t
    simp only [List.length_append, List.length_singleton, size_data]
    split
    · simp only [List.length_nil]; omega
    · rw [be_length]; omega
  have hL0 : tbad t 0 = none → tputC t = 0 ∧ tputL t ++ (if q = 0 then [] else be 2 id) ++ [0] ++ p.data.toList = (Pk.pub q id t p).bodyL := by
    intro h
    unfold tputC tputL Pk.bodyL
    rw [if_pos h, if_pos h]
    exact ⟨rfl, rfl⟩
  have hL1 : tbad t 0 ≠ none → tputC t = 129 := fun h => if_neg h
  generalize (tputL t ++ (if q = 0 then [] else be 2 id) ++ [0] ++ p.data.toList) = L at *
  generalize tputC t = d at *
  have hFx := fun (W : World) => fixed_any 1 (48 + 2 * q) (.inl rfl) (by omega) W
  rw [be_one _ (by omega), show ((48 + 2 * q : Nat) : Int) = 48 + (q : Int) * 2 by omega] at hFx
  have hwf : IntKind.i64.wrap (48 + (q : Int) * 2) = 48 + (q : Int) * 2 := IntWalk.i64_in _ (by omega)
  have hA : bits .and .i64 (q : Int) 3 = (q : Int) := by
    have : q = 0 ∨ q = 1 ∨ q = 2 := by omega
    rcases this with rfl | rfl | rfl <;> decide
  have HQ := Lib.hid (fun W => wqos_ok (w := W) (.pointer (some ⟨w.heap.size + 1, 0, none⟩)) q hq)
  have HBit := Lib.hid (fun W n => bit_no (w := W) n)
  have HFl := Lib.hid (fun W => flags_any (w := W) 3 (.inl rfl))
  have HB := Lib.hid hB
  have HFx := Lib.hid hFx
  clear hB hFx hX
  unfold pkZ at *
  have q1 : ((w.alloc (.cells (pkZ 3 q id t p (.slice none 0 0)) 37)).alloc (.cells #[.pointer none, .slice none 0 0, .int .u8 0] 56)).cell? ⟨w.heap.size, 1, none⟩ = some (.bool false) := hX2.cell 1
  have q2 : ((w.alloc (.cells (pkZ 3 q id t p (.slice none 0 0)) 37)).alloc (.cells #[.pointer none, .slice none 0 0, .int .u8 0] 56)).cell? ⟨w.heap.size, 2, none⟩ = some (.bool false) := hX2.cell 2
  have q3 : ((w.alloc (.cells (pkZ 3 q id t p (.slice none 0 0)) 37)).alloc (.cells #[.pointer none, .slice none 0 0, .int .u8 0] 56)).cell? ⟨w.heap.size, 3, none⟩ = some (.int .i64 (q : Int)) := hX2.cell 3
  unfold pkZ at q1 q2 q3
  go_enter Tryd.func6, Tryd.ntmps6
  go_upto_region 9 with (first
    | (go_at_call 10; refine (HFl.out _).mono ?_; rintro e w' ⟨rfl, rfl⟩)
    | (go_at_call 11; refine (HQ.out _).mono ?_; rintro e w' ⟨rfl, rfl⟩))
  go_region_held3 (fun w' => w'.cell? ⟨w.heap.size, 1, none⟩ = some (.bool false) ∧ w'.cell? ⟨w.heap.size, 2, none⟩ = some (.bool false) ∧ w'.cell? ⟨w.heap.size, 3, none⟩ = some (.int .i64 (q : Int))) (first | go_keep | assumption | exact ⟨by assumption, by assumption, by assumption⟩)
    (first
      | (go_at_call 13; refine (HBit.out _ _).mono ?_; rintro e w' ⟨rfl, rfl⟩))
  go_wp2_with (refine wpList_load_row (by rfl) 37 _ (by rfl) w.heap.size (by rfl) 37 _ (0, 0) _ hX2 Tryd.underlying37 (by rfl) (by kernel_rfl) ?_)
  refine HB.out.mono ?_
  rintro e w1 ⟨rfl, h1, hk1⟩
  have hX3 := hk1.blk hX2 (by simp) (by omega) (by decide)
  have c2 := h1.cells
  have y0 := hX3.cell 0
  have hg1 : w.grownBy w1 none := grown_lk (only_alloc (only_refl w none) _) (hk0.trans hk1) (by omega)
  clear hX2 hW hk0 q1 q2 q3
  cases hb : tbad t 0 with
  | none =>
    obtain ⟨rfl, hLe⟩ := hL0 hb
    have hle : ¬ (65536 : Int) < (L.length : Int) := by omega
    have hle2 : decide ((65536 : Int) < (L.length : Int)) = false := decide_eq_false hle
    obtain ⟨n, hn⟩ : ∃ n, L.length = n := ⟨_, rfl⟩
    have HLn := Lib.hid (fun (W : World) (hw : WrAt W (w.heap.size + 1) L 0) => wlen_any hw)
    rw [hn] at HLn hle hle2 hLl
    have hl0 : L ≠ [] := by rw [hLe]; exact bodyL_pub q id t p
    have HV := Lib.hid (fun W => vput_any (w := W) n (by omega))
    have hz1 : (⟨[UInt8.ofNat (48 + 2 * q)].toArray⟩ : ByteArray).size = 1 := rfl
    have hz2 : (⟨(vi n).toArray⟩ : ByteArray).size ≤ 2 := by rw [size_list]; have := vi_len n; simp only; omega
    have hz3 : (⟨L.toArray⟩ : ByteArray).size = n := by rw [size_list]; exact hn
    have hfin : ((⟨[UInt8.ofNat (48 + 2 * q)].toArray⟩ : ByteArray) ++ ⟨(vi n).toArray⟩ ++ ⟨L.toArray⟩).data.toList = (Pk.pub q id t p).enc := by
      rw [ByteArray.data_append, ByteArray.data_append, Array.toList_append, Array.toList_append, ← hn, hLe]
      rfl
    have HFin := Lib.hid hfin
    clear hfin
    generalize (⟨[UInt8.ofNat (48 + 2 * q)].toArray⟩ : ByteArray) = s1 at *
    generalize (⟨(vi n).toArray⟩ : ByteArray) = s2 at *
    generalize hs3 : (⟨L.toArray⟩ : ByteArray) = s3 at *
    have HS := Lib.hid (fun (W : World) (hw : WrAt W (w.heap.size + 1) L 0) => wstring_any hw hl0)
    rw [hs3] at HS
    clear hLe hl0 hs3 hL0 hL1
    go_upto_region 15 with (go_at_call 15; refine (HLn.out _ h1).mono ?_; rintro e w' ⟨rfl, rfl⟩)
    go_wp2_with fail
    refine (HFx.out _).mono ?_
    rintro e w2 ⟨rfl, hb2⟩
    have hg2 := grown_below hb2 (Nat.le_refl _)
    have h2 := h1.grown hg2
    go_wp2_with (go_at_call 15; refine (HLn.out _ h2).mono ?_; rintro e w' ⟨rfl, rfl⟩)
    refine (HV.out _).mono ?_
    rintro e w3 ⟨rfl, hg3⟩
    have h3 := h2.grown hg3
    go_wp2_with fail
    refine (HS.out _ h3).mono ?_
    rintro e w4 ⟨rfl, hk4⟩
    go_wp2_with fail
    go_ret2
    exact ⟨grown_lk (only_trans (only_trans hg1 hg2) hg3) hk4 (by omega), .inl ⟨by rw [hb]; rfl, _, rfl, HFin.out⟩⟩
  | some i =>
    obtain rfl := hL1 (by rw [hb]; simp)
    go_wp2_with fail
    go_region
    go_wp2_with fail
    go_ret2
    exact ⟨only_drew hg1, .inr ⟨by rw [hb]; rfl, rfl⟩⟩
end
end Go.Proofs.YtcepfhnlbnlnhaaDoor
