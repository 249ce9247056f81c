/- THE WALKS of the packet's reader's body at a Publish. -/
import Derived.Test.YtcepfhnlbnlnhaaDoorGetB
import Derived.Test.YtcepfhnlbnlnhaaDoorBytes
namespace Go.Proofs.YtcepfhnlbnlnhaaDoor
set_option maxRecDepth 100000
open Go.RowKit

section
variable {w : World} {rb pb : Nat} {s : ByteArray}
set_option maxHeartbeats 1600000 in
theorem rbody_pub (hb : Rd w rb s 0) (q id : Nat) (t b : ByteArray) {a : Nat} (hA : PubAt s q id t b a) (hid : q ≠ 0 → IdOk id) (hi0 : q = 0 → id = 0) (hs : s.size ≤ 1000000) (htb : tbad t 0 = none) (hT : U8 w) (hp : Blk w pb 37 (pkZ 3 q 0 ⟨#[]⟩ ⟨#[]⟩ (.slice none 0 0))) :
    Calls Tryd.prog 34 #[.pointer (some ⟨rb, 0, none⟩), .pointer (some ⟨pb, 0, none⟩)] w fun e w' => e = .returned (.tuple #[]) ∧ Blk w' pb 37 (pkZ 3 q id t b (.slice none 0 0)) ∧ Duo w w' rb pb := by
  obtain ⟨hn, hfit, htx, hidA, hae, hal, haz, hrest⟩ := hA
  have hne : pb ≠ rb := Blk.ne_ hp hb (by decide)
  have hrp : rb ≠ pb := Ne.symm hne
  have hTx := rtext_gen 0 (s := s) (by omega) (by rw [hn]; exact hfit) (by rw [hn, htx]; exact htb) hT hb
  rw [hn, htx] at hTx
  have HTx := Lib.hid hTx
  have HPr := Lib.hid (fun (W : World) (hb : Rd W rb s a) => rprops_zero 3 a (by omega) hal haz hb)
  have HL := Lib.hid (fun (W : World) (hb : Blk W rb 82 #[.string s, .int .i64 (s.size : Int)]) => rleft_any hb)
  have c0 : w.cell? ⟨pb, 0, none⟩ = some (.int .i64 3) := hp.cell 0
  clear hTx
  unfold Rd at HTx HPr
  go_enter Tryd.func34, Tryd.ntmps34
  go_wp2_with fail
  refine HTx.out.mono ?_
  rintro e w1 ⟨rfl, h1, hk1⟩
  have hp1 := hp.grown hk1 (by simpa using hne)
  have d5 : w1.cell? ⟨pb, 5, none⟩ = some (.string ⟨#[]⟩) := hp1.cell 5
  have f5 := hp1.frozen 5
  have hp2 : Blk (w1.setCell ⟨pb, 5, none⟩ (.string t)) pb 37 (pkZ 3 q 0 t ⟨#[]⟩ (.slice none 0 0)) := hp1.put 5 (.string t)
  have h2 := Blk.far h1 (p := ⟨pb, 5, none⟩) hrp (.string t)
  have hD2 := (Duo.of_left (r := pb) hk1).trans (Duo.of_right (only_put (only_refl w1 (some pb)) 5 (.string t)))
  have e3 : (w1.setCell ⟨pb, 5, none⟩ (.string t)).cell? ⟨pb, 3, none⟩ = some (.int .i64 (q : Int)) := hp2.cell 3
  by_cases hq : q = 0
  · have hq0 : ¬ (0 : Int) < (q : Int) := by omega
    rw [if_pos hq] at hae
    have hi := hi0 hq
    have hp2' : Blk (w1.setCell ⟨pb, 5, none⟩ (.string t)) pb 37 (pkZ 3 q id t ⟨#[]⟩ (.slice none 0 0)) := by rw [hi]; exact hp2
    rw [← hae] at h2
    clear hae
    go_wp2_with fail
    refine (HPr.out _ h2).mono ?_
    rintro e w5 ⟨rfl, h5, hk5⟩
    have hp5 := hp2'.grown hk5 (by simpa using hne)
    have d9 : w5.cell? ⟨pb, 9, none⟩ = some (.slice none 0 0) := hp5.cell 9
    have f9 := hp5.frozen 9
    have hp6 : Blk (w5.setCell ⟨pb, 9, none⟩ (.slice none 0 0)) pb 37 (pkZ 3 q id t ⟨#[]⟩ (.slice none 0 0)) := hp5.put 9 (.slice none 0 0)
    have h6 := Blk.far h5 (p := ⟨pb, 9, none⟩) hrp (.slice none 0 0)
    have hD6 := (hD2.trans (Duo.of_left hk5)).trans (Duo.of_right (only_put (only_refl w5 (some pb)) 9 (.slice none 0 0)))
    have r0 : (w5.setCell ⟨pb, 9, none⟩ (.slice none 0 0)).cell? ⟨rb, 0, none⟩ = some (.string s) := h6.cell 0
    have r1 : (w5.setCell ⟨pb, 9, none⟩ (.slice none 0 0)).cell? ⟨rb, 1, none⟩ = some (.int .i64 ((a + 1 : Nat) : Int)) := h6.cell 1
    have p6 : (w5.setCell ⟨pb, 9, none⟩ (.slice none 0 0)).cell? ⟨pb, 6, none⟩ = some (.string ⟨#[]⟩) := hp6.cell 6
    have g6 := hp6.frozen 6
    go_upto_region 24 with fail
    generalize w5.setCell ⟨pb, 9, none⟩ (.slice none 0 0) = W6 at *
    have hal1 : (a : Int) + 1 ≤ (s.size : Int) := by omega
    go_region
    have hp7 : Blk (W6.setCell ⟨pb, 6, none⟩ (.string b)).drew pb 37 (pkZ 3 q id t b (.slice none 0 0)) := (hp6.put 6 (.string b)).drew
    have h7 : Blk (W6.setCell ⟨pb, 6, none⟩ (.string b)).drew rb 82 #[.string s, .int .i64 ((a + 1 : Nat) : Int)] := (Blk.far h6 (p := ⟨pb, 6, none⟩) hrp (.string b)).drew
    have hD7 : Duo w (W6.setCell ⟨pb, 6, none⟩ (.string b)).drew rb pb := (hD6.trans (Duo.of_right (only_put (only_refl W6 (some pb)) 6 (.string b)))).trans (Duo.of_none (only_drew (only_refl _ none)))
    (try rw [hrest])
    generalize (W6.setCell ⟨pb, 6, none⟩ (.string b)).drew = W7 at *
    have s0 : W7.cell? ⟨rb, 0, none⟩ = some (.string s) := h7.cell 0
    have s1 : W7.cell? ⟨rb, 1, none⟩ = some (.int .i64 ((a + 1 : Nat) : Int)) := h7.cell 1
    have t1 := h7.frozen 1
    have h8 : Blk (W7.setCell ⟨rb, 1, none⟩ (.int .i64 (s.size : Int))) rb 82 #[.string s, .int .i64 (s.size : Int)] := h7.put 1 (.int .i64 (s.size : Int))
    have hp8 := hp7.far (p := ⟨rb, 1, none⟩) hne (.int .i64 (s.size : Int))
    have hD8 := hD7.trans (Duo.of_left (r := pb) (only_put (only_refl W7 (some rb)) 1 (.int .i64 (s.size : Int))))
    have HL8 := HL.out _ h8
    rw [decide_eq_false (by omega : ¬ s.size < s.size)] at HL8
    have HL8 := Lib.hid HL8
    go_wp2_with fail
    refine HL8.out.mono ?_
    rintro e w9 ⟨rfl, hk9⟩
    go_wp2_with (go_at_call 33; refine must_true.mono ?_; rintro e w' ⟨rfl, rfl⟩)
    go_end0
    exact ⟨rfl, hp8.grown hk9 (by simp), hD8.trans (Duo.of_none hk9)⟩
  · have hq0 : (0 : Int) < (q : Int) := by omega
    rw [if_neg hq] at hae
    obtain ⟨hfi, hia⟩ := hidA hq
    have hi := hid hq
    have HId := Lib.hid (rid_gen (0 + 2 + t.size) (by omega) hfi (by rw [hia]; have := hi.1; omega) h2)
    rw [hia, ← hae] at HId
    clear hae
    unfold Rd at HId
    go_wp2_with fail
    refine HId.out.mono ?_
    rintro e w3 ⟨rfl, h3, hk3⟩
    have hp3 := hp2.grown hk3 (by simpa using hne)
    have d4 : w3.cell? ⟨pb, 4, none⟩ = some (.int .i64 0) := hp3.cell 4
    have f4 := hp3.frozen 4
    have hp4 : Blk (w3.setCell ⟨pb, 4, none⟩ (.int .i64 (id : Int))) pb 37 (pkZ 3 q id t ⟨#[]⟩ (.slice none 0 0)) := hp3.put 4 (.int .i64 (id : Int))
    have h4 := Blk.far h3 (p := ⟨pb, 4, none⟩) hrp (.int .i64 (id : Int))
    have hD4 := (hD2.trans (Duo.of_left hk3)).trans (Duo.of_right (only_put (only_refl w3 (some pb)) 4 (.int .i64 (id : Int))))
    clear d5 f5 e3
    go_wp2_with fail
    refine (HPr.out _ h4).mono ?_
    rintro e w5 ⟨rfl, h5, hk5⟩
    have hp5 := hp4.grown hk5 (by simpa using hne)
    have d9 : w5.cell? ⟨pb, 9, none⟩ = some (.slice none 0 0) := hp5.cell 9
    have f9 := hp5.frozen 9
    have hp6 : Blk (w5.setCell ⟨pb, 9, none⟩ (.slice none 0 0)) pb 37 (pkZ 3 q id t ⟨#[]⟩ (.slice none 0 0)) := hp5.put 9 (.slice none 0 0)
    have h6 := Blk.far h5 (p := ⟨pb, 9, none⟩) hrp (.slice none 0 0)
    have hD6 := (hD4.trans (Duo.of_left hk5)).trans (Duo.of_right (only_put (only_refl w5 (some pb)) 9 (.slice none 0 0)))
    have r0 : (w5.setCell ⟨pb, 9, none⟩ (.slice none 0 0)).cell? ⟨rb, 0, none⟩ = some (.string s) := h6.cell 0
    have r1 : (w5.setCell ⟨pb, 9, none⟩ (.slice none 0 0)).cell? ⟨rb, 1, none⟩ = some (.int .i64 ((a + 1 : Nat) : Int)) := h6.cell 1
    have p6 : (w5.setCell ⟨pb, 9, none⟩ (.slice none 0 0)).cell? ⟨pb, 6, none⟩ = some (.string ⟨#[]⟩) := hp6.cell 6
    have g6 := hp6.frozen 6
    go_upto_region 24 with fail
    generalize w5.setCell ⟨pb, 9, none⟩ (.slice none 0 0) = W6 at *
    have hal1 : (a : Int) + 1 ≤ (s.size : Int) := by omega
    go_region
    have hp7 : Blk (W6.setCell ⟨pb, 6, none⟩ (.string b)).drew pb 37 (pkZ 3 q id t b (.slice none 0 0)) := (hp6.put 6 (.string b)).drew
    have h7 : Blk (W6.setCell ⟨pb, 6, none⟩ (.string b)).drew rb 82 #[.string s, .int .i64 ((a + 1 : Nat) : Int)] := (Blk.far h6 (p := ⟨pb, 6, none⟩) hrp (.string b)).drew
    have hD7 : Duo w (W6.setCell ⟨pb, 6, none⟩ (.string b)).drew rb pb := (hD6.trans (Duo.of_right (only_put (only_refl W6 (some pb)) 6 (.string b)))).trans (Duo.of_none (only_drew (only_refl _ none)))
    (try rw [hrest])
    generalize (W6.setCell ⟨pb, 6, none⟩ (.string b)).drew = W7 at *
    have s0 : W7.cell? ⟨rb, 0, none⟩ = some (.string s) := h7.cell 0
    have s1 : W7.cell? ⟨rb, 1, none⟩ = some (.int .i64 ((a + 1 : Nat) : Int)) := h7.cell 1
    have t1 := h7.frozen 1
    have h8 : Blk (W7.setCell ⟨rb, 1, none⟩ (.int .i64 (s.size : Int))) rb 82 #[.string s, .int .i64 (s.size : Int)] := h7.put 1 (.int .i64 (s.size : Int))
    have hp8 := hp7.far (p := ⟨rb, 1, none⟩) hne (.int .i64 (s.size : Int))
    have hD8 := hD7.trans (Duo.of_left (r := pb) (only_put (only_refl W7 (some rb)) 1 (.int .i64 (s.size : Int))))
    have HL8 := HL.out _ h8
    rw [decide_eq_false (by omega : ¬ s.size < s.size)] at HL8
    have HL8 := Lib.hid HL8
    go_wp2_with fail
    refine HL8.out.mono ?_
    rintro e w9 ⟨rfl, hk9⟩
    go_wp2_with (go_at_call 33; refine must_true.mono ?_; rintro e w' ⟨rfl, rfl⟩)
    go_end0
    exact ⟨rfl, hp8.grown hk9 (by simp), hD8.trans (Duo.of_none hk9)⟩
end
end Go.Proofs.YtcepfhnlbnlnhaaDoor
