/- THE WALK of TopDelivers's send. -/
import Derived.Test.YtcepfhnlbnlnhaaGreatDoorSndE
namespace Go.Proofs.YtcepfhnlbnlnhaaGreatDoor
set_option maxRecDepth 100000
open Go.RowKit

section
variable {w : World}
set_option maxHeartbeats 3200000 in
theorem send_done {nv qv pv : Nat} {i n : Nat} {Aq : Option Addr} {cq : Nat} (hn : w.cell? ⟨nv, 0, none⟩ = some (.int .i64 (i : Int))) (hq : w.cell? ⟨qv, 0, none⟩ = some (.slice Aq n cq)) (h : n ≤ i) :
    Calls Tryz.prog 7 #[.pointer (some ⟨nv, 0, none⟩), .pointer (some ⟨qv, 0, none⟩), .pointer (some ⟨pv, 0, none⟩)] w fun e w' => e = .returned (.bool true) ∧ w = w' := by
  have i1 : ¬ (i : Int) < (n : Int) := by omega
  have i2 : (n : Int) ≤ (i : Int) := by omega
  go_enter Tryz.func7, Tryz.ntmps7
  go_wp2_with fail
  go_ret
  exact ⟨rfl, rfl⟩
theorem wrap_byte (i : Nat) (_h : i < 256) : IntKind.u8.wrap (i : Int) = ((UInt8.ofNat i).toNat : Int) := by
  rw [UInt8.toNat_ofNat']
  simp [IntKind.wrap, IntKind.bits, IntKind.signed]
theorem wrap_q (z : Int) (q : Nat) (h : (q : Int) = 1 + max 0 z % 2) : IntKind.i64.wrap (1 + (max 0 z).tmod 2) = (q : Int) := by
  rw [Int.tmod_eq_emod_of_nonneg (by omega), ← h]
  simp [IntKind.wrap, IntKind.bits, IntKind.signed]
  omega
set_option maxHeartbeats 6400000 in
theorem send_step {pr nv qv pv qg qo i n cq qi : Nat} {z : Int} {P : List Nat} {s : PairS} (h : PairA w pr P s) (hnB : Blk w nv 3 #[.int .i64 (i : Int)]) (hq : w.cell? ⟨qv, 0, none⟩ = some (.slice (some ⟨qg, qo, none⟩) n cq)) (hqi : w.cell? ⟨qg, qo + i, none⟩ = some (.int .i64 z)) (hpv : w.cell? ⟨pv, 0, none⟩ = some (.pointer (some ⟨pr, 0, none⟩)))
    (hlt : i < n) (hi : i < 256) (hz : (qi : Int) = 1 + max 0 z % 2) (h1 : nv ∉ P) (h2 : qv ∉ P) (h3 : pv ∉ P) (h4 : qg ∉ P) (o' : OutS) (news : List Pkt) (hnl : s.T.length + news.length ≤ 2000)
    (hSend : ∀ (W : World) (fb : Nat) (F : List Nat), OutA W fb F s.o → Calls Tryz.prog 8 #[.pointer (some ⟨fb, 0, none⟩), .agg (Msg.enc ⟨⟨#[116]⟩, keyB i, (qi : Int)⟩)] W fun e w' => ∃ v, e = .returned (.tuple #[v, .int .u8 0]) ∧ Sent W fb F o' news v w') :
    Calls Tryz.prog 7 #[.pointer (some ⟨nv, 0, none⟩), .pointer (some ⟨qv, 0, none⟩), .pointer (some ⟨pv, 0, none⟩)] w fun e w' => e = .returned (.bool true) ∧ ∃ w7, Stepped w pr P { s with o := o', T := s.T ++ news } w7 ∧ w' = w7.setCell ⟨nv, 0, none⟩ (.int .i64 ((i : Int) + 1)) := by
  obtain ⟨fb, ib, ipb, imb, gb, F, vt, vb, hA, rfl⟩ := h
  have hn : w.cell? ⟨nv, 0, none⟩ = some (.int .i64 (i : Int)) := hnB.cell 0
  obtain ⟨Ab, cb, hvb, -, -, -⟩ := hA.there.slice
  subst hvb
  obtain ⟨nb, hnb⟩ : ∃ nb, s.T.length = nb := ⟨_, rfl⟩
  rw [hnb] at hA h1 h3
  have HAp := Lib.hid (pfoot_iff.1 hA.apart)
  have HNb := Lib.hid hnb
  have HNB := Lib.hid hnB
  have hnr : ¬ pr = nv := fun e => h1 (by simp [pfoot, e])
  have hpr2 : ¬ pr = pv := fun e => h3 (by simp [pfoot, e])
  have hnt : nv ∉ (Value.slice Ab nb cb).ownBlock.toList := fun hm => h1 (by simp only [pfoot, List.mem_append]; exact .inr (.inr (.inl hm)))
  have hpt : pv ∉ (Value.slice Ab nb cb).ownBlock.toList := fun hm => h3 (by simp only [pfoot, List.mem_append]; exact .inr (.inr (.inl hm)))
  have hrt : pr ∉ (Value.slice Ab nb cb).ownBlock.toList := fun hm => by have := (HAp.out.2.2.2.1 pr (mem_own.1 hm)).1; simp at this
  clear hnB
  have c0 : w.cell? ⟨pr, 0, none⟩ = some (.pointer (some ⟨fb, 0, none⟩)) := hA.blk.cell 0
  have i1 : (i : Int) < (n : Int) := by omega
  have i2 : ¬ (n : Int) ≤ (i : Int) := by omega
  have hconv : (convert 36 9 (.slice (some ⟨w.heap.size, 0, none⟩) 1 1)).run Tryz.prog ((w.alloc (.cells #[.int .u8 (IntKind.u8.wrap (i : Int))] 5)).drew) = .ok (.string (keyB i)) ((w.alloc (.cells #[.int .u8 (IntKind.u8.wrap (i : Int))] 5)).drew) := by
    rw [wrap_byte i hi]
    exact conv_one w.drew (UInt8.ofNat i)
  have hw := wrap_q z qi hz
  clear hz
  have hcA : Chg w (w.alloc (.cells #[.int .u8 (IntKind.u8.wrap (i : Int))] 5)).drew [] := ((Chg.refl w []).alloc _).drew
  have HOA := Lib.hid (hA.out.chg hcA (by simp))
  have hnF : nv ∉ F := fun hm => h1 (by simp [pfoot, hm])
  have hqF : qv ∉ F := fun hm => h2 (by simp [pfoot, hm])
  have hpF : pv ∉ F := fun hm => h3 (by simp [pfoot, hm])
  have hgF : qg ∉ F := fun hm => h4 (by simp [pfoot, hm])
  have hrF : pr ∉ F := fun hm => by have := (pfoot_iff.1 hA.apart).2.2.1 pr hm; simp at this
  have HA := Lib.hid hA
  simp only [Msg.enc] at hSend
  have HS := Lib.hid hSend
  have HCA := Lib.hid hcA
  have HH1 := Lib.hid h1
  have HH3 := Lib.hid h3
  clear hA hSend hcA h1 h2 h3 h4
  go_enter Tryz.func7, Tryz.ntmps7
  go_wp2_with fail
  have tA : (fun w' => w'.cell? ⟨pr, 0, none⟩ = some (.pointer (some ⟨fb, 0, none⟩)) ∧ w'.cell? ⟨pv, 0, none⟩ = some (.pointer (some ⟨pr, 0, none⟩)) ∧ w'.cell? ⟨nv, 0, none⟩ = some (.int .i64 (i : Int)) ∧ w'.cell? ⟨qv, 0, none⟩ = some (.slice (some ⟨qg, qo, none⟩) n cq) ∧ w'.cell? ⟨qg, qo + i, none⟩ = some (.int .i64 z)) (w.alloc (.cells #[.int .u8 (IntKind.u8.wrap (i : Int))] 5)).drew := ⟨HCA.out.cell c0 (by simp), HCA.out.cell hpv (by simp), HCA.out.cell hn (by simp), HCA.out.cell hq (by simp), HCA.out.cell hqi (by simp)⟩
  have TA := Lib.hid tA
  clear tA
  refine wp_region_held_drew (S := (fun w' => w'.cell? ⟨pr, 0, none⟩ = some (.pointer (some ⟨fb, 0, none⟩)) ∧ w'.cell? ⟨pv, 0, none⟩ = some (.pointer (some ⟨pr, 0, none⟩)) ∧ w'.cell? ⟨nv, 0, none⟩ = some (.int .i64 (i : Int)) ∧ w'.cell? ⟨qv, 0, none⟩ = some (.slice (some ⟨qg, qo, none⟩) n cq) ∧ w'.cell? ⟨qg, qo + i, none⟩ = some (.int .i64 z))) (by kernel_rfl) ?_ (fun hHeld => ?_)
  · exact ⟨c0, hpv, hn, hq, hqi⟩
  refine' wpAnyH_take (i := 0) (v := _) rfl (by kernel_rfl) (by kernel_rfl) (by kernel_rfl) (fun _ _ _ h => h) (Or.inl ⟨by rfl, ?hy0⟩) (by assumption) ?rest0
  case hy0 =>
    intro w hSw
    try dsimp only at hSw
    go_simp
    try with_reducible rfl
  change wpAnyH _ _ _ _ _ _ _ (Act.put _ (some 11) _) _
  simp only [Act.put, List.setIfInBounds_toArray, List.set_cons_zero, List.set_cons_succ]
  refine' wpAnyH_take (i := 1) (v := _) rfl (by kernel_rfl) (by kernel_rfl) (by kernel_rfl) (fun _ _ _ h => h) (Or.inl ⟨by rfl, ?hy1⟩) (by assumption) ?rest1
  case hy1 =>
    intro w hSw
    try dsimp only at hSw
    go_simp
    try with_reducible rfl
  change wpAnyH _ _ _ _ _ _ _ (Act.put _ (some 12) _) _
  simp only [Act.put, List.setIfInBounds_toArray, List.set_cons_zero, List.set_cons_succ]
  refine' wpAnyH_take (i := 2) (v := _) rfl (by kernel_rfl) (by kernel_rfl) (by kernel_rfl) (fun _ _ _ h => h) (Or.inl ⟨by rfl, ?hy2⟩) (by assumption) ?rest2
  case hy2 =>
    intro w hSw
    try dsimp only at hSw
    go_simp
    try with_reducible rfl
  change wpAnyH _ _ _ _ _ _ _ (Act.put _ (some 13) _) _
  simp only [Act.put, List.setIfInBounds_toArray, List.set_cons_zero, List.set_cons_succ]
  refine' wpAnyH_take (i := 3) (v := _) rfl (by kernel_rfl) (by kernel_rfl) (by kernel_rfl) (fun _ _ _ h => h) (Or.inl ⟨by rfl, ?hy3⟩) (by assumption) ?rest3
  case hy3 =>
    intro w hSw
    try dsimp only at hSw
    go_simp
    try with_reducible rfl
  change wpAnyH _ _ _ _ _ _ _ (Act.put _ (some 14) _) _
  simp only [Act.put, List.setIfInBounds_toArray, List.set_cons_zero, List.set_cons_succ]
  refine' wpAnyH_take (i := 4) (v := _) rfl (by kernel_rfl) (by kernel_rfl) (by kernel_rfl) (fun _ _ _ h => h) (Or.inl ⟨by rfl, ?hy4⟩) (by assumption) ?rest4
  case hy4 =>
    intro w hSw
    try dsimp only at hSw
    go_simp
    try with_reducible rfl
  change wpAnyH _ _ _ _ _ _ _ (Act.put _ (some 15) _) _
  simp only [Act.put, List.setIfInBounds_toArray, List.set_cons_zero, List.set_cons_succ]
  refine' wpAnyH_take (i := 5) (v := _) rfl (by kernel_rfl) (by kernel_rfl) (by kernel_rfl) (fun _ _ _ h => h) (Or.inl ⟨by rfl, ?hy5⟩) (by assumption) ?rest5
  case hy5 =>
    intro w hSw
    try dsimp only at hSw
    go_simp
    try with_reducible rfl
  change wpAnyH _ _ _ _ _ _ _ (Act.put _ (some 16) _) _
  simp only [Act.put, List.setIfInBounds_toArray, List.set_cons_zero, List.set_cons_succ]
  refine' wpAnyH_take (i := 6) (v := _) rfl (by kernel_rfl) (by kernel_rfl) (by kernel_rfl) (fun _ _ _ h => h) (Or.inl ⟨by rfl, ?hy6⟩) (by assumption) ?rest6
  case hy6 =>
    intro w hSw
    try dsimp only at hSw
    go_simp
    try with_reducible rfl
  change wpAnyH _ _ _ _ _ _ _ (Act.put _ (some 17) _) _
  simp only [Act.put, List.setIfInBounds_toArray, List.set_cons_zero, List.set_cons_succ]
  refine' wpAnyH_take (i := 7) (v := _) rfl (by kernel_rfl) (by kernel_rfl) (by kernel_rfl) (fun _ _ _ h => h) (Or.inl ⟨by rfl, ?hy7⟩) (by assumption) ?rest7
  case hy7 =>
    intro w hSw
    try dsimp only at hSw
    go_simp
    try with_reducible rfl
  change wpAnyH _ _ _ _ _ _ _ (Act.put _ (some 18) _) _
  simp only [Act.put, List.setIfInBounds_toArray, List.set_cons_zero, List.set_cons_succ]
  refine' wpAnyH_take (i := 8) (v := _) rfl (by kernel_rfl) (by kernel_rfl) (by kernel_rfl) (fun _ _ _ h => h) (Or.inl ⟨by rfl, ?hy8⟩) (by assumption) ?rest8
  case hy8 =>
    intro w hSw
    try dsimp only at hSw
    go_simp
    try with_reducible rfl
  change wpAnyH _ _ _ _ _ _ _ (Act.put _ (some 19) _) _
  simp only [Act.put, List.setIfInBounds_toArray, List.set_cons_zero, List.set_cons_succ]
  refine' wpAnyH_take (i := 9) (v := _) rfl (by kernel_rfl) (by kernel_rfl) (by kernel_rfl) (fun _ _ _ h => h) (Or.inl ⟨by rfl, ?hy9⟩) (by assumption) ?rest9
  case hy9 =>
    intro w hSw
    try dsimp only at hSw
    go_simp
    try with_reducible rfl
  change wpAnyH _ _ _ _ _ _ _ (Act.put _ (some 20) _) _
  simp only [Act.put, List.setIfInBounds_toArray, List.set_cons_zero, List.set_cons_succ]
  refine' wpAnyH_take (i := 10) (v := _) rfl (by kernel_rfl) (by kernel_rfl) (by kernel_rfl) (fun _ _ _ h => h) (Or.inl ⟨by rfl, ?hy10⟩) (by assumption) ?rest10
  case hy10 =>
    intro w hSw
    try dsimp only at hSw
    go_simp
    try with_reducible rfl
  change wpAnyH _ _ _ _ _ _ _ (Act.put _ (some 21) _) _
  simp only [Act.put, List.setIfInBounds_toArray, List.set_cons_zero, List.set_cons_succ]
  refine' wpAnyH_take (i := 11) (v := _) rfl (by kernel_rfl) (by kernel_rfl) (by kernel_rfl) (fun _ _ _ h => h) (Or.inl ⟨by rfl, ?hy11⟩) (by assumption) ?rest11
  case hy11 =>
    intro w hSw
    try dsimp only at hSw
    go_simp
    try with_reducible rfl
  change wpAnyH _ _ _ _ _ _ _ (Act.put _ (some 22) _) _
  simp only [Act.put, List.setIfInBounds_toArray, List.set_cons_zero, List.set_cons_succ]
  refine' wpAnyH_take (i := 12) (v := _) rfl (by kernel_rfl) (by kernel_rfl) (by kernel_rfl) (fun _ _ _ h => h) (Or.inl ⟨by rfl, ?hy12⟩) (by assumption) ?rest12
  case hy12 =>
    intro w hSw
    try dsimp only at hSw
    go_simp
    try with_reducible rfl
  change wpAnyH _ _ _ _ _ _ _ (Act.put _ (some 23) _) _
  simp only [Act.put, List.setIfInBounds_toArray, List.set_cons_zero, List.set_cons_succ]
  refine wpAnyH_ready (rs := [13]) (by kernel_rfl) (by simp) ?_
  refine AllReadyH.cons rfl (fun K hK => ?_) AllReadyH.nil
  go_simp
  refine hK.out _ _ ?_ (fun hHeldA => ?_)
  · exact TA.out
  clear hK K
  try simp only [Act.put, List.setIfInBounds_toArray, List.set_cons_zero, List.set_cons_succ]
  refine wpAnyH_ready (rs := [14]) (by kernel_rfl) (by simp) ?_
  refine AllReadyH.cons rfl (fun K hK => ?_) AllReadyH.nil
  go_simp
  refine hK.out _ _ ?_ (fun hHeldB => ?_)
  · exact TA.out
  clear hK K
  try simp only [Act.put, List.setIfInBounds_toArray, List.set_cons_zero, List.set_cons_succ]
  refine' wpAnyH_take (i := 15) (v := _) rfl (by kernel_rfl) (by kernel_rfl) (by kernel_rfl) (fun _ _ _ h => h) (Or.inl ⟨by rfl, ?hy15⟩) (by assumption) ?rest15
  case hy15 =>
    intro w hSw
    try dsimp only at hSw
    go_simp
    try with_reducible rfl
  change wpAnyH _ _ _ _ _ _ _ (Act.put _ (some 26) _) _
  simp only [Act.put, List.setIfInBounds_toArray, List.set_cons_zero, List.set_cons_succ]
  refine wpAnyH_ready (rs := [16]) (by kernel_rfl) (by simp) ?_
  refine AllReadyH.cons rfl (fun K hK => ?_) AllReadyH.nil
  go_simp
  refine (HS.out _ _ _ HOA.out).mono ?_
  rintro e w5 ⟨v5, rfl, hS5⟩
  obtain ⟨F5, hO5, hr5, hn5, hc5, hF5, hv5⟩ := hS5
  obtain ⟨A5, c5, hv5', -, -, -⟩ := hr5.slice
  subst hv5'
  have k0 := hc5.cell (HCA.out.cell c0 (by simp)) hrF
  have kp := hc5.cell (HCA.out.cell hpv (by simp)) hpF
  have kn := hc5.cell (HCA.out.cell hn (by simp)) hnF
  have kq := hc5.cell (HCA.out.cell hq (by simp)) hqF
  have kz := hc5.cell (HCA.out.cell hqi (by simp)) hgF
  have HS5 := Lib.hid (show Sent (w.alloc (.cells #[.int .u8 (IntKind.u8.wrap (i : Int))] 5)).drew fb F o' news (.slice A5 news.length c5) w5 from ⟨F5, hO5, hr5, hn5, hc5, hF5, hv5⟩)
  clear hO5 hr5 hn5 hc5 hF5 hv5
  dsimp only
  refine hK.out _ _ ?_ (fun hHeld2 => ?_)
  · exact ⟨k0, kp, kn, kq, kz⟩
  clear hK K
  try simp only [Act.put, List.setIfInBounds_toArray, List.set_cons_zero, List.set_cons_succ]
  refine' wpAnyH_take (i := 17) (v := _) rfl (by kernel_rfl) (by kernel_rfl) (by kernel_rfl) (fun _ _ _ h => h) (Or.inl ⟨by rfl, ?hy17⟩) (by assumption) ?rest17
  case hy17 =>
    intro w hSw
    try dsimp only at hSw
    go_simp
    try with_reducible rfl
  change wpAnyH _ _ _ _ _ _ _ (Act.put _ (some 10) _) _
  simp only [Act.put, List.setIfInBounds_toArray, List.set_cons_zero, List.set_cons_succ]
  refine' wpAnyH_take (i := 18) (v := _) rfl (by kernel_rfl) (by kernel_rfl) (by kernel_rfl) (fun _ _ _ h => h) (Or.inl ⟨by rfl, ?hy18⟩) (by assumption) ?rest18
  case hy18 =>
    intro w hSw
    try dsimp only at hSw
    go_simp
    try with_reducible rfl
  change wpAnyH _ _ _ _ _ _ _ (Act.put _ (some 28) _) _
  simp only [Act.put, List.setIfInBounds_toArray, List.set_cons_zero, List.set_cons_succ]
  refine' wpAnyH_take (i := 19) (v := _) rfl (by kernel_rfl) (by kernel_rfl) (by kernel_rfl) (fun _ _ _ h => h) (Or.inl ⟨by rfl, ?hy19⟩) (by assumption) ?rest19
  case hy19 =>
    intro w hSw
    try dsimp only at hSw
    go_simp
    try with_reducible rfl
  change wpAnyH _ _ _ _ _ _ _ (Act.put _ (some 29) _) _
  simp only [Act.put, List.setIfInBounds_toArray, List.set_cons_zero, List.set_cons_succ]
  refine' wpAnyH_take (i := 20) (v := _) rfl (by kernel_rfl) (by kernel_rfl) (by kernel_rfl) (fun _ _ _ h => h) (Or.inl ⟨by rfl, ?hy20⟩) (by assumption) ?rest20
  case hy20 =>
    intro w hSw
    try dsimp only at hSw
    go_simp
    try with_reducible rfl
  change wpAnyH _ _ _ _ _ _ _ (Act.put _ (some 4) _) _
  simp only [Act.put, List.setIfInBounds_toArray, List.set_cons_zero, List.set_cons_succ]
  refine' wpAnyH_take (i := 21) (v := _) rfl (by kernel_rfl) (by kernel_rfl) (by kernel_rfl) (fun _ _ _ h => h) (Or.inl ⟨by rfl, ?hy21⟩) (by assumption) ?rest21
  case hy21 =>
    intro w hSw
    try dsimp only at hSw
    go_simp
    try with_reducible rfl
  change wpAnyH _ _ _ _ _ _ _ (Act.put _ (some 5) _) _
  simp only [Act.put, List.setIfInBounds_toArray, List.set_cons_zero, List.set_cons_succ]
  refine wpAnyH_done (by kernel_rfl) ?_ _
  clear hHeld hHeldA hHeldB hHeld2 c0 hpv hn hq hqi hconv
  all_goals
    obtain ⟨F5, hO5, hr5, hn5, hc5, hF5, hv5⟩ := HS5.out
    have HB5 := Lib.hid ((HA.out.blk.chg HCA.out (by simp)).chg hc5 hrF)
    have HNv5 := Lib.hid ((HNB.out.chg HCA.out (by simp)).chg hc5 hnF)
    have HT5 : Hid (RowOf Pkt.enc 26 w5.drew (.slice Ab nb cb) s.T) := Lib.hid (((HA.out.there.chg HCA.out (by simp)).chg hc5 fun k hk => (HAp.out.2.2.2.1 k hk).2).chg (Chg.refl w5 []).drew (by simp))
    have HR5 := Lib.hid (hr5.chg (Chg.refl w5 []).drew (by simp))
    have HN5 := Lib.hid hn5
    have k2 : w5.cell? ⟨pr, 2, none⟩ = some (.slice Ab nb cb) := HB5.out.cell 2
    have f2 := HB5.out.frozen 2
    clear hO5 hr5 hn5 hc5 hF5 hv5 kq kz
    go_wp2_with fail
    go_region_law (first
      | (refine step_append_pkts (by rfl) (.tmp 34) (.tmp 35) (by rfl) (.slice Ab nb cb) s.T (by simp [Act.eval]) HT5.out (.slice A5 news.length c5) news (by simp [Act.eval]) HR5.out HN5.out (by omega) ?_; intro A' n' c' w7 hr7 hc7 hat7; have hb7 := HB5.out.drew.chg hc7 hrt; have hn7 := HNv5.out.drew.chg hc7 hnt; have r2 : w7.cell? ⟨pr, 2, none⟩ = some (.slice Ab nb cb) := hb7.cell 2; have r2f := hb7.frozen 2; have rn : w7.cell? ⟨nv, 0, none⟩ = some (.int .i64 (i : Int)) := hn7.cell 0; have rnf := hn7.frozen 0; have rp : w7.cell? ⟨pv, 0, none⟩ = some (.pointer (some ⟨pr, 0, none⟩)) := hc7.cell (by exact kp : w5.drew.cell? ⟨pv, 0, none⟩ = _) hpt; have HR7 := Lib.hid hr7; have HC7 := Lib.hid hc7; have HAt7 := Lib.hid hat7; clear hr7 hc7 hat7 hb7 hn7))
  all_goals
    clear k0 k2 f2 r2 r2f rp
    go_wp2_with fail
    go_ret
    have hfin := pub_end HA.out rfl HA.out.back ((Chg.refl w [pr]).alloc _) (HA.out.blk.chg ((Chg.refl w []).alloc _) (by simp)) HS5.out HR7.out (((Chg.refl w5 _).drew).trans HC7.out fun b hb => .inl hb) HAt7.out
    rw [← HNb.out] at hfin
    exact ⟨rfl, _, hfin, rfl⟩
end
end Go.Proofs.YtcepfhnlbnlnhaaGreatDoor
