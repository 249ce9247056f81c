/- THE WALKS of the packet's reader's lists at a Subscribe. -/
import Derived.Test.YtcepfhnlbnlnhaaDoorGetC
import Derived.Deep.RegionLawGrows
namespace Go.Proofs.YtcepfhnlbnlnhaaDoor
set_option maxRecDepth 100000
open Go.RowKit

theorem Tryd.infoSub : (Tryd.prog.info? 47).map (fun i => (i.zero, i.size, i.bytes)) = some (some (.agg (subZ ⟨#[]⟩ 0)), 5, 40) := by kernel_rfl
/-- A packet's subscriptions: one. -/
def OneSub (w : World) (B : Nat) (v : Value) (t : ByteArray) (q : Nat) : Prop := w.ownsRow B 47 5 v 1 (subZ t q).toList
section
variable {w : World} {rb pb : Nat} {s : ByteArray}
set_option maxHeartbeats 1600000 in
theorem rlists_sub (hb : Rd w rb s 0) (id q : Nat) (t : ByteArray) (hA : SubAt s id q t) (hid : IdOk id) (hq : q ≤ 2) (hs : s.size ≤ 1000000) (htb : tbad t 0 = none) (hT : U8 w) (hp : Blk w pb 37 (pkZ 8 0 0 ⟨#[]⟩ ⟨#[]⟩ (.slice none 0 0))) (hT1 : ∀ g, g = 0 ∨ g = 1 → g ≠ rb ∧ g ≠ pb) :
    Calls Tryd.prog 52 #[.pointer (some ⟨rb, 0, none⟩), .pointer (some ⟨pb, 0, none⟩)] w fun e w' => e = .returned (.tuple #[]) ∧ ∃ v, Blk w' pb 37 (pkZ 8 0 id ⟨#[]⟩ ⟨#[]⟩ v) ∧ OneSub w' w.heap.size v t q ∧ Rd w' rb s s.size ∧ Duo w w' rb pb := by
  obtain ⟨hia, hsz, hlt, hz, hn, htx, hqs⟩ := hA
  obtain ⟨ip, hip, hq0, hq1, hq2⟩ := info_parts Tryd.infoSub
  have hnil := @World.ownsRow_nil
  have hne : pb ≠ rb := Blk.ne_ hp hb (by decide)
  have hrp : rb ≠ pb := Ne.symm hne
  have hrl : rb < w.heap.size := Blk.lt hb
  have hpl := hp.lt
  have HId := Lib.hid (rid_gen 0 (s := s) (by omega) (by omega) (by rw [hia]; have := hid.1; omega) hb)
  rw [hia] at HId
  have HPr := Lib.hid (fun (W : World) (hb : Rd W rb s (0 + 2)) => rprops_zero 8 (0 + 2) (by omega) hlt hz hb)
  have HSu := Lib.hid (fun (W : World) (hT : U8 W) (hb : Rd W rb s (0 + 2 + 1)) => rsub_gen (0 + 2 + 1) q hq t (by omega) (by rw [hn]; omega) (by rw [hn]; exact htx) htb (by rw [hn]; exact hqs) hT hb)
  rw [hn, show 0 + 2 + 1 + 2 + t.size + 1 = s.size by omega] at HSu
  have HL3 := Lib.hid (fun (W : World) (hb : Blk W rb 82 #[.string s, .int .i64 ((0 + 2 + 1 : Nat) : Int)]) => rleft_any hb)
  rw [decide_eq_true (by omega : 0 + 2 + 1 < s.size)] at HL3
  have HLe := Lib.hid (fun (W : World) (hb : Blk W rb 82 #[.string s, .int .i64 (s.size : Int)]) => rleft_any hb)
  rw [decide_eq_false (by omega : ¬ s.size < s.size)] at HLe
  unfold Rd at HId HPr HSu ⊢
  unfold subZ at HSu
  go_enter Tryd.func52, Tryd.ntmps52
  go_wp2_with fail
  refine HId.out.mono ?_
  rintro e w1 ⟨rfl, h1, hk1⟩
  have hp1 := hp.grown hk1 (by simpa using hne)
  have d4 : w1.cell? ⟨pb, 4, none⟩ = some (.int .i64 0) := hp1.cell 4
  have f4 := hp1.frozen 4
  have hp2 : Blk (w1.setCell ⟨pb, 4, none⟩ (.int .i64 (id : Int))) pb 37 (pkZ 8 0 id ⟨#[]⟩ ⟨#[]⟩ (.slice none 0 0)) := hp1.put 4 (.int .i64 (id : Int))
  have h2 := Blk.far h1 (p := ⟨pb, 4, none⟩) hrp (.int .i64 (id : Int))
  have hD2 := (Duo.of_left (r := pb) hk1).trans (Duo.of_right (only_put (only_refl w1 (some pb)) 4 (.int .i64 (id : Int))))
  have e0 : (w1.setCell ⟨pb, 4, none⟩ (.int .i64 (id : Int))).cell? ⟨pb, 0, none⟩ = some (.int .i64 8) := hp2.cell 0
  go_wp2_with fail
  refine (HPr.out _ h2).mono ?_
  rintro e w3 ⟨rfl, h3, hk3⟩
  have hp3 := hp2.grown hk3 (by simpa using hne)
  have d9 : w3.cell? ⟨pb, 9, none⟩ = some (.slice none 0 0) := hp3.cell 9
  have f9 := hp3.frozen 9
  have hp4 : Blk (w3.setCell ⟨pb, 9, none⟩ (.slice none 0 0)) pb 37 (pkZ 8 0 id ⟨#[]⟩ ⟨#[]⟩ (.slice none 0 0)) := hp3.put 9 (.slice none 0 0)
  have h4 := Blk.far h3 (p := ⟨pb, 9, none⟩) hrp (.slice none 0 0)
  have hD4 := (hD2.trans (Duo.of_left hk3)).trans (Duo.of_right (only_put (only_refl w3 (some pb)) 9 (.slice none 0 0)))
  clear d4 f4 e0
  go_wp2_with fail
  generalize w3.setCell ⟨pb, 9, none⟩ (.slice none 0 0) = W4 at *
  refine wp_loop_rounds 2 ?_
  rw [rounds_succ]
  go_wp2_with fail
  refine (HL3.out _ h4).mono ?_
  rintro e w5 ⟨rfl, hk5⟩
  have hp5 := hp4.grown hk5 (by simp)
  have h5 := Blk.grown h4 hk5 (by simp)
  have hD5 := hD4.trans (Duo.of_none hk5)
  have a0 : w5.cell? ⟨pb, 0, none⟩ = some (.int .i64 8) := hp5.cell 0
  have a24 : w5.cell? ⟨pb, 24, none⟩ = some (.slice none 0 0) := hp5.cell 24
  have hT5 : U8 w5 := by
    have hsm := hT.small
    have key : ∀ (g i : Nat) (v : Value), g ≠ rb → g ≠ pb → w.cell? ⟨g, i, none⟩ = some v → w5.cell? ⟨g, i, none⟩ = some v := by
      intro g i v h1 h2 hc
      have hlt := World.block_lt_of_cell? w _ hc
      rw [← hc]
      exact World.cell?_of_block (w := w) (a := ⟨g, i, none⟩) (hD5.block g hlt h1 h2)
    exact ⟨fun c hc => key _ _ _ (hT1 _ (.inl rfl)).1 (hT1 _ (.inl rfl)).2 (hT.1 c hc), fun i hi => ⟨key _ _ _ (hT1 _ (.inr rfl)).1 (hT1 _ (.inr rfl)).2 (hT.2 i hi).1, key _ _ _ (hT1 _ (.inr rfl)).1 (hT1 _ (.inr rfl)).2 (hT.2 i hi).2⟩⟩
  have HT5 := Lib.hid (hT5.kept (only_drew (only_refl w5 none)))
  have H5 := Lib.hid (Blk.drew h5)
  have hone : (subZ t q).all (·.oneCell') = true := by simp [subZ, Value.oneCell']
  have HO := Lib.hid (one_mem hone)
  clear hone
  go_upto_region 10 with fail
  go_region_law (first
    | (refine step_append_lies _ (by rfl) (.tmp 48) (.tmp 51) 34 (by rfl) w.heap.size 47 ip _ 5 40 Tryd.underlying34 hip hq0 hq1 hq2 rfl (by decide) (.slice none 0 0) 0 [] (by simp [Act.eval]) (hnil _ _ _ _) ⟨w6.heap.size, 0, none⟩ 1 1 (subZ t q).toList (by simp [Act.eval]) rfl HN6.out HO.out (by omega) (by unfold maxLen; omega) (by omega) (by simp; omega) (w6.heap.size + 1) (by simp) ?_; intro g1 cap w8 hown1 hg1 hat1 hlt1; have hg8 : (w6.alloc (.cells (subZ t q) 47)).grownBy w8 none := hg1; have hp8 := (hp6.alloc (.cells (subZ t q) 47)).grown hg8 (by simp); have b8 : w8.cell? ⟨pb, 24, none⟩ = some (.slice none 0 0) := hp8.cell 24; have z8 := hp8.frozen 24)
    | (go_simp; go_at_call 67; refine (HSu.out _ HT5.out H5.out).mono ?_; rintro e w6 ⟨rfl, h6, hk6⟩; have hp6 := hp5.drew.grown hk6 (by simpa using hne); have b24 : w6.cell? ⟨pb, 24, none⟩ = some (.slice none 0 0) := hp6.cell 24; have c24 : (w6.alloc (.cells #[.string t, .int .i64 (q : Int), .bool false, .bool false, .int .i64 0] 47)).cell? ⟨pb, 24, none⟩ = some (.slice none 0 0) := (hp6.alloc (.cells (subZ t q) 47)).cell 24; have HN6 := Lib.hid (row_news (Blk.new w6 47 (subZ t q))); have hs6 := Nat.le_trans (show w.heap.size ≤ w5.drew.heap.size from hD5.size) hk6.size))
  all_goals
    have hgb := (hown1.lt g1 rfl).1
    have hp9 : Blk (w8.setCell ⟨pb, 24, none⟩ (.slice (some ⟨g1, 0, none⟩) 1 cap)) pb 37 (pkZ 8 0 id ⟨#[]⟩ ⟨#[]⟩ (.slice (some ⟨g1, 0, none⟩) 1 cap)) := hp8.put 24 (.slice (some ⟨g1, 0, none⟩) 1 cap)
    have h8 := Blk.grown (Blk.alloc h6 (.cells (subZ t q) 47)) hg8 (by simp)
    have h9 := Blk.far h8 (p := ⟨pb, 24, none⟩) hrp (.slice (some ⟨g1, 0, none⟩) 1 cap)
    have hown9 : OneSub (w8.setCell ⟨pb, 24, none⟩ (.slice (some ⟨g1, 0, none⟩) 1 cap)) w.heap.size (.slice (some ⟨g1, 0, none⟩) 1 cap) t q := World.ownsRow.kept hown1 (only_put (only_refl w8 (some pb)) 24 (.slice (some ⟨g1, 0, none⟩) 1 cap)) (.inr (by simp [Value.ownBlock]; omega))
    have hD9 : Duo w (w8.setCell ⟨pb, 24, none⟩ (.slice (some ⟨g1, 0, none⟩) 1 cap)) rb pb := ((((hD5.trans (Duo.of_none (only_drew (only_refl w5 none)))).trans (Duo.of_left hk6)).trans (Duo.of_none (only_alloc (only_refl w6 none) (.cells (subZ t q) 47)))).trans (Duo.of_none hg8)).trans (Duo.of_right (only_put (only_refl w8 (some pb)) 24 (.slice (some ⟨g1, 0, none⟩) 1 cap)))
    generalize w8.setCell ⟨pb, 24, none⟩ (.slice (some ⟨g1, 0, none⟩) 1 cap) = W9 at *
    clear hown1 hg1 hat1 hlt1 hg8 hp8 h8 b8 z8 b24 c24 hp6 h6 HN6 hp5 h5 hD5 a0 a24
    go_wp2_with fail
    rw [rounds_succ]
    go_wp2_with fail
    refine (HLe.out _ h9).mono ?_
    rintro e w10 ⟨rfl, hk10⟩
    go_wp2_with fail
    go_end0
    exact ⟨rfl, _, hp9.grown hk10 (by simp), World.ownsRow.kept hown9 hk10 (.inr (by simp [Value.ownBlock])), Blk.grown h9 hk10 (by simp), hD9.trans (Duo.of_none hk10)⟩
end
end Go.Proofs.YtcepfhnlbnlnhaaDoor
