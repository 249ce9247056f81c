/- THE WALKS of packet.Put at a Subscribe, a Puback, a Pingreq. -/
import Derived.Test.YtcepfhnlbnlnhaaDoorPutD
namespace Go.Proofs.YtcepfhnlbnlnhaaDoor
set_option maxRecDepth 100000
open Go.RowKit

theorem be_some (k n : Nat) : be (k + 1) n ≠ [] := by simp [be]
section
variable {w : World}
set_option maxHeartbeats 3200000 in
theorem put_sub (hT : U8 w) (id q : Nat) (t : ByteArray) (hid : IdOk id) (hq : q ≤ 2) (ht : t.size ≤ 31) {sb sc : Nat} (hsc : 1 ≤ sc) (hS : Blk w sb 47 (subZ t q)) :
    Calls Tryd.prog 6 #[.agg (pkZ 8 0 id ⟨#[]⟩ ⟨#[]⟩ (.slice (some ⟨sb, 0, none⟩) 1 sc))] w (IsPut (tbad t 0).isSome (Pk.sub id q t).enc w) := by
  have hsm := hT.small
  have hX : Blk (w.alloc (.cells (pkZ 8 0 id ⟨#[]⟩ ⟨#[]⟩ (.slice (some ⟨sb, 0, none⟩) 1 sc)) 37)) w.heap.size 37 (pkZ 8 0 id ⟨#[]⟩ ⟨#[]⟩ (.slice (some ⟨sb, 0, none⟩) 1 sc)) := Blk.new _ _ _
  have hX2 := hX.alloc (.cells #[.pointer none, .slice none 0 0, .int .u8 0] 56)
  have hW := writer_new w (pkZ 8 0 id ⟨#[]⟩ ⟨#[]⟩ (.slice (some ⟨sb, 0, none⟩) 1 sc))
  have hk0 : Lk none (w.heap.size + 1) (w.alloc (.cells (pkZ 8 0 id ⟨#[]⟩ ⟨#[]⟩ (.slice (some ⟨sb, 0, none⟩) 1 sc)) 37)) ((w.alloc (.cells (pkZ 8 0 id ⟨#[]⟩ ⟨#[]⟩ (.slice (some ⟨sb, 0, none⟩) 1 sc)) 37)).alloc (.cells #[.pointer none, .slice none 0 0, .int .u8 0] 56)) := (Lk.refl _ _ _).allocR _
  have hB := wbody_sub hW (hT.kept (only_alloc (only_alloc (only_refl w none) _) _)) id q hid hq t (by omega) (by simp) hsc ((hS.alloc _).alloc _) (by omega) (by omega)
  rw [if_pos rfl, List.nil_append] at hB
  have hLl : (be 2 id ++ [0] ++ tputL t ++ be 1 q).length ≤ 400 := by
    have h1 := tputL_len t
    simp only [List.length_append, List.length_singleton, be_length]
    omega
  have hL0 : tbad t 0 = none → tputC t = 0 ∧ be 2 id ++ [0] ++ tputL t ++ be 1 q = (Pk.sub id q t).bodyL := by
    intro h
    unfold tputC tputL Pk.bodyL
    rw [if_pos h, if_pos h, be_one q (by omega)]
    exact ⟨rfl, rfl⟩
  have hL1 : tbad t 0 ≠ none → tputC t = 129 := fun h => if_neg h
  generalize be 2 id ++ [0] ++ tputL t ++ be 1 q = L at *
  generalize tputC t = d at *
  have hFx := fun (W : World) => fixed_any 1 130 (.inl rfl) (by omega) W
  rw [be_one _ (by omega)] at hFx
  have HFl := Lib.hid (fun W => flags_sub (w := W))
  have HB := Lib.hid hB
  have HFx := Lib.hid hFx
  clear hB hFx hX
  unfold pkZ at *
  go_enter Tryd.func6, Tryd.ntmps6
  go_wp2_with (first
    | (go_at_call 10; refine (HFl.out _).mono ?_; rintro e w' ⟨rfl, rfl⟩)
    | (refine wpList_load_row (by rfl) 37 _ (by rfl) w.heap.size (by rfl) 37 _ (0, 0) _ hX2 Tryd.underlying37 (by rfl) (by kernel_rfl) ?_))
  refine HB.out.mono ?_
  rintro e w1 ⟨rfl, h1, hk1⟩
  have hX3 := hk1.blk hX2 (by simp) (by omega) (by decide)
  have c2 := h1.cells
  have y0 : w1.cell? ⟨w.heap.size, 0, none⟩ = some (.int .i64 8) := hX3.cell 0
  have hg1 : w.grownBy w1 none := grown_lk (only_alloc (only_refl w none) _) (hk0.trans hk1) (by omega)
  clear hX2 hW hk0
  cases hb : tbad t 0 with
  | none =>
    obtain ⟨rfl, hLe⟩ := hL0 hb
    have hle : ¬ (65536 : Int) < (L.length : Int) := by omega
    have hle2 : decide ((65536 : Int) < (L.length : Int)) = false := decide_eq_false hle
    obtain ⟨n, hn⟩ : ∃ n, L.length = n := ⟨_, rfl⟩
    have HLn := Lib.hid (fun (W : World) (hw : WrAt W (w.heap.size + 1) L 0) => wlen_any hw)
    rw [hn] at HLn hle hle2 hLl
    have hl0 : L ≠ [] := by rw [hLe]; exact (by simp [Pk.bodyL])
    have HV := Lib.hid (fun W => vput_any (w := W) n (by omega))
    have hz1 : (⟨[UInt8.ofNat 130].toArray⟩ : ByteArray).size = 1 := rfl
    have hz2 : (⟨(vi n).toArray⟩ : ByteArray).size ≤ 2 := by rw [size_list]; have := vi_len n; simp only; omega
    have hz3 : (⟨L.toArray⟩ : ByteArray).size = n := by rw [size_list]; exact hn
    have hfin : ((⟨[UInt8.ofNat 130].toArray⟩ : ByteArray) ++ ⟨(vi n).toArray⟩ ++ ⟨L.toArray⟩).data.toList = (Pk.sub id q t).enc := by
      rw [ByteArray.data_append, ByteArray.data_append, Array.toList_append, Array.toList_append, ← hn, hLe]
      rfl
    have HFin := Lib.hid hfin
    clear hfin
    generalize (⟨[UInt8.ofNat 130].toArray⟩ : ByteArray) = s1 at *
    generalize (⟨(vi n).toArray⟩ : ByteArray) = s2 at *
    generalize hs3 : (⟨L.toArray⟩ : ByteArray) = s3 at *
    have HS := Lib.hid (fun (W : World) (hw : WrAt W (w.heap.size + 1) L 0) => wstring_any hw hl0)
    rw [hs3] at HS
    clear hLe hl0 hs3 hL0
    go_upto_region 15 with (go_at_call 15; refine (HLn.out _ h1).mono ?_; rintro e w' ⟨rfl, rfl⟩)
    go_wp2_with fail
    refine (HFx.out _).mono ?_
    rintro e w2 ⟨rfl, hb2⟩
    have hg2 := grown_below hb2 (Nat.le_refl _)
    have h2 := h1.grown hg2
    go_wp2_with (go_at_call 15; refine (HLn.out _ h2).mono ?_; rintro e w' ⟨rfl, rfl⟩)
    refine (HV.out _).mono ?_
    rintro e w3 ⟨rfl, hg3⟩
    have h3 := h2.grown hg3
    go_wp2_with fail
    refine (HS.out _ h3).mono ?_
    rintro e w4 ⟨rfl, hk4⟩
    go_wp2_with fail
    go_ret2
    exact ⟨grown_lk (only_trans (only_trans hg1 hg2) hg3) hk4 (by omega), .inl ⟨by rw [hb]; rfl, _, rfl, HFin.out⟩⟩
  | some i =>
    obtain rfl := hL1 (by rw [hb]; simp)
    go_wp2_with fail
    go_region
    go_wp2_with fail
    go_ret2
    exact ⟨only_drew hg1, .inr ⟨by rw [hb]; rfl, rfl⟩⟩
set_option maxHeartbeats 3200000 in
theorem put_puback (id : Nat) (hid : IdOk id) : Calls Tryd.prog 6 #[.agg (pkZ 4 0 id ⟨#[]⟩ ⟨#[]⟩ (.slice none 0 0))] w (IsPut false (Pk.ack id).enc w) := by
  have hX : Blk (w.alloc (.cells (pkZ 4 0 id ⟨#[]⟩ ⟨#[]⟩ (.slice none 0 0)) 37)) w.heap.size 37 (pkZ 4 0 id ⟨#[]⟩ ⟨#[]⟩ (.slice none 0 0)) := Blk.new _ _ _
  have hX2 := hX.alloc (.cells #[.pointer none, .slice none 0 0, .int .u8 0] 56)
  have hW := writer_new w (pkZ 4 0 id ⟨#[]⟩ ⟨#[]⟩ (.slice none 0 0))
  have hk0 : Lk none (w.heap.size + 1) (w.alloc (.cells (pkZ 4 0 id ⟨#[]⟩ ⟨#[]⟩ (.slice none 0 0)) 37)) ((w.alloc (.cells (pkZ 4 0 id ⟨#[]⟩ ⟨#[]⟩ (.slice none 0 0)) 37)).alloc (.cells #[.pointer none, .slice none 0 0, .int .u8 0] 56)) := (Lk.refl _ _ _).allocR _
  have hB := wbody_ack hW id hid.1 (by have := hid.2; omega) (by simp)
  rw [List.nil_append] at hB
  have hLl : (be 2 id).length ≤ 400 := by rw [be_length]; omega
  have hLe : be 2 id = (Pk.ack id).bodyL := rfl
  have hL0 : True := trivial
  generalize be 2 id = L at *
  have hFx := fun (W : World) => fixed_any 1 64 (.inl rfl) (by omega) W
  rw [be_one _ (by omega)] at hFx
  have HFl := Lib.hid (fun W => flags_any (w := W) 4 (.inr (.inl rfl)))
  have HB := Lib.hid hB
  have HFx := Lib.hid hFx
  clear hB hFx hX
  unfold pkZ at *
  unfold ackV at HB
  go_enter Tryd.func6, Tryd.ntmps6
  go_wp2_with (first
    | (go_at_call 10; refine (HFl.out _).mono ?_; rintro e w' ⟨rfl, rfl⟩)
    | (refine wpList_load_row (by rfl) 37 _ (by rfl) w.heap.size (by rfl) 37 _ (0, 0) _ hX2 Tryd.underlying37 (by rfl) (by kernel_rfl) ?_))
  refine HB.out.mono ?_
  rintro e w1 ⟨rfl, h1, hk1⟩
  have hX3 := hk1.blk hX2 (by simp) (by omega) (by decide)
  have c2 := h1.cells
  have y0 : w1.cell? ⟨w.heap.size, 0, none⟩ = some (.int .i64 4) := hX3.cell 0
  have hg1 : w.grownBy w1 none := grown_lk (only_alloc (only_refl w none) _) (hk0.trans hk1) (by omega)
  clear hX2 hW hk0
  · skip
    have hle : ¬ (65536 : Int) < (L.length : Int) := by omega
    have hle2 : decide ((65536 : Int) < (L.length : Int)) = false := decide_eq_false hle
    obtain ⟨n, hn⟩ : ∃ n, L.length = n := ⟨_, rfl⟩
    have HLn := Lib.hid (fun (W : World) (hw : WrAt W (w.heap.size + 1) L 0) => wlen_any hw)
    rw [hn] at HLn hle hle2 hLl
    have hl0 : L ≠ [] := by rw [hLe]; exact be_some 1 id
    have HV := Lib.hid (fun W => vput_any (w := W) n (by omega))
    have hz1 : (⟨[UInt8.ofNat 64].toArray⟩ : ByteArray).size = 1 := rfl
    have hz2 : (⟨(vi n).toArray⟩ : ByteArray).size ≤ 2 := by rw [size_list]; have := vi_len n; simp only; omega
    have hz3 : (⟨L.toArray⟩ : ByteArray).size = n := by rw [size_list]; exact hn
    have hfin : ((⟨[UInt8.ofNat 64].toArray⟩ : ByteArray) ++ ⟨(vi n).toArray⟩ ++ ⟨L.toArray⟩).data.toList = (Pk.ack id).enc := by
      rw [ByteArray.data_append, ByteArray.data_append, Array.toList_append, Array.toList_append, ← hn, hLe]
      rfl
    have HFin := Lib.hid hfin
    clear hfin
    generalize (⟨[UInt8.ofNat 64].toArray⟩ : ByteArray) = s1 at *
    generalize (⟨(vi n).toArray⟩ : ByteArray) = s2 at *
    generalize hs3 : (⟨L.toArray⟩ : ByteArray) = s3 at *
    have HS := Lib.hid (fun (W : World) (hw : WrAt W (w.heap.size + 1) L 0) => wstring_any hw hl0)
    rw [hs3] at HS
    clear hLe hl0 hs3 hL0
    go_upto_region 15 with (go_at_call 15; refine (HLn.out _ h1).mono ?_; rintro e w' ⟨rfl, rfl⟩)
    go_wp2_with fail
    refine (HFx.out _).mono ?_
    rintro e w2 ⟨rfl, hb2⟩
    have hg2 := grown_below hb2 (Nat.le_refl _)
    have h2 := h1.grown hg2
    go_wp2_with (go_at_call 15; refine (HLn.out _ h2).mono ?_; rintro e w' ⟨rfl, rfl⟩)
    refine (HV.out _).mono ?_
    rintro e w3 ⟨rfl, hg3⟩
    have h3 := h2.grown hg3
    go_wp2_with fail
    refine (HS.out _ h3).mono ?_
    rintro e w4 ⟨rfl, hk4⟩
    go_wp2_with fail
    go_ret2
    exact ⟨grown_lk (only_trans (only_trans hg1 hg2) hg3) hk4 (by omega), .inl ⟨rfl, _, rfl, HFin.out⟩⟩
/-- The bytes of a builder that has none. -/
theorem wstring_none {b : Nat} {p q : Value} (hb : Blk w b 56 #[p, .slice none 0 0, q]) : Calls Tryd.prog 18 #[.pointer (some ⟨b, 0, none⟩)] w fun e w' => e = .returned (.string ⟨#[]⟩) ∧ w.grownBy w' none := by
  have c1 : w.drew.cell? ⟨b, 1, none⟩ = some (.slice none 0 0) := hb.cell 1
  have hSD : (Builtin.unsafeSliceData_ #[52] 73 #[.slice none 0 0]).run Tryd.prog w.drew = .ok (.pointer none) w.drew := Lib.run_unsafeSliceData_nil _ _ _ _ _
  have hUS : (Builtin.unsafeString_ #[73, 3] 9 #[.pointer none, .int .i64 0]).run Tryd.prog w.drew = .ok (.string ⟨#[]⟩) w.drew := Lib.run_unsafeString_none _ _ _ _ _
  go_enter Tryd.func18, Tryd.ntmps18
  go_wp2_with fail
  go_region
  all_goals (go_wp2_with fail)
  all_goals go_ret
  all_goals exact ⟨rfl, only_drew (only_refl w none)⟩
set_option maxHeartbeats 3200000 in
theorem put_ping : Calls Tryd.prog 6 #[.agg (pkZ 12 0 0 ⟨#[]⟩ ⟨#[]⟩ (.slice none 0 0))] w (IsPut false Pk.ping.enc w) := by
  have hX : Blk (w.alloc (.cells (pkZ 12 0 0 ⟨#[]⟩ ⟨#[]⟩ (.slice none 0 0)) 37)) w.heap.size 37 (pkZ 12 0 0 ⟨#[]⟩ ⟨#[]⟩ (.slice none 0 0)) := Blk.new _ _ _
  have hX2 := hX.alloc (.cells #[.pointer none, .slice none 0 0, .int .u8 0] 56)
  have hW := writer_new w (pkZ 12 0 0 ⟨#[]⟩ ⟨#[]⟩ (.slice none 0 0))
  have hk0 : Lk none (w.heap.size + 1) (w.alloc (.cells (pkZ 12 0 0 ⟨#[]⟩ ⟨#[]⟩ (.slice none 0 0)) 37)) ((w.alloc (.cells (pkZ 12 0 0 ⟨#[]⟩ ⟨#[]⟩ (.slice none 0 0)) 37)).alloc (.cells #[.pointer none, .slice none 0 0, .int .u8 0] 56)) := (Lk.refl _ _ _).allocR _
  have hWb : Blk ((w.alloc (.cells (pkZ 12 0 0 ⟨#[]⟩ ⟨#[]⟩ (.slice none 0 0)) 37)).alloc (.cells #[.pointer none, .slice none 0 0, .int .u8 0] 56)) (w.heap.size + 1) 56 #[.pointer none, .slice none 0 0, .int .u8 0] := by
    have h := Blk.new (w.alloc (.cells (pkZ 12 0 0 ⟨#[]⟩ ⟨#[]⟩ (.slice none 0 0)) 37)) 56 #[.pointer none, .slice none 0 0, .int .u8 0]
    rw [show (w.alloc (.cells (pkZ 12 0 0 ⟨#[]⟩ ⟨#[]⟩ (.slice none 0 0)) 37)).heap.size = w.heap.size + 1 by simp] at h
    exact h
  have HFl := Lib.hid (fun W => flags_any (w := W) 12 (.inr (.inr rfl)))
  have HB := Lib.hid (fun W v => wbody_ping (w := W) v)
  have hFx := fun (W : World) => fixed_any 1 192 (.inl rfl) (by omega) W
  rw [be_one _ (by omega)] at hFx
  have HFx := Lib.hid hFx
  have HV := Lib.hid (fun W => vput_any (w := W) 0 (by omega))
  have hvi : vi 0 = [0] := rfl
  rw [hvi] at HV
  have HLn := Lib.hid (fun (W : World) (hw : WrAt W (w.heap.size + 1) [] 0) => wlen_any hw)
  have HS := Lib.hid (fun (W : World) (hw : Blk W (w.heap.size + 1) 56 #[.pointer none, .slice none 0 0, .int .u8 0]) => wstring_none hw)
  clear hFx hX
  unfold pkZ at *
  go_enter Tryd.func6, Tryd.ntmps6
  go_wp2_with (first
    | (go_at_call 10; refine (HFl.out _).mono ?_; rintro e w' ⟨rfl, rfl⟩)
    | (refine wpList_load_row (by rfl) 37 _ (by rfl) w.heap.size (by rfl) 37 _ (0, 0) _ hX2 Tryd.underlying37 (by rfl) (by kernel_rfl) ?_))
  refine (HB.out _ _).mono ?_
  rintro e w1 ⟨rfl, hw1⟩
  have hk1 : ((w.alloc (.cells (pkZ 12 0 0 ⟨#[]⟩ ⟨#[]⟩ (.slice none 0 0)) 37)).alloc (.cells #[.pointer none, .slice none 0 0, .int .u8 0] 56)).grownBy w1 none := hw1 ▸ only_alloc (only_refl _ none) _
  have hX3 := hX2.grown (by unfold pkZ at hk1; exact hk1) (by simp)
  have hW1 := hW.grown (by unfold pkZ at hk1; exact hk1)
  have hWb1 := hWb.grown (by unfold pkZ at hk1; exact hk1) (by simp)
  have c2 := hWb1.cell 2
  have y0 : w1.cell? ⟨w.heap.size, 0, none⟩ = some (.int .i64 12) := hX3.cell 0
  have hg1 : w.grownBy w1 none := only_trans (only_alloc (only_alloc (only_refl w none) _) _) hk1
  clear hX2 hk0 hw1 hW hWb
  go_upto_region 15 with (go_at_call 15; refine (HLn.out _ hW1).mono ?_; rintro e w' ⟨rfl, rfl⟩)
  go_wp2_with fail
  refine (HFx.out _).mono ?_
  rintro e w2 ⟨rfl, hb2⟩
  have hg2 := grown_below hb2 (Nat.le_refl _)
  have h2 := hW1.grown hg2
  have hWb2 := hWb1.grown hg2 (by simp)
  go_wp2_with (go_at_call 15; refine (HLn.out _ h2).mono ?_; rintro e w' ⟨rfl, rfl⟩)
  refine (HV.out _).mono ?_
  rintro e w3 ⟨rfl, hg3⟩
  have hWb3 := hWb2.grown hg3 (by simp)
  go_wp2_with fail
  refine (HS.out _ hWb3).mono ?_
  rintro e w4 ⟨rfl, hg4⟩
  go_wp2_with fail
  go_ret2
  exact ⟨only_trans (only_trans (only_trans hg1 hg2) hg3) hg4, .inl ⟨rfl, _, rfl, rfl⟩⟩
end
end Go.Proofs.YtcepfhnlbnlnhaaDoor
