/- THE WALK of packet.Get at a packet's own bytes. -/
import Derived.Test.YtcepfhnlbnlnhaaDoorGetF
import Derived.Test.YtcepfhnlbnlnhaaDoorReads5
namespace Go.Proofs.YtcepfhnlbnlnhaaDoor
set_option maxRecDepth 100000
open Go.RowKit

/-- A packet's subscriptions, in memory of its own. -/
def SubsAt (w : World) (B : Nat) (v : Value) : Option (ByteArray × Nat) → Prop
  | some (t, q) => OneSub w B v t q
  | none => v = .slice none 0 0
theorem SubsAt.kept {w w' : World} {B : Nat} {v : Value} {o : Option (ByteArray × Nat)} (h : SubsAt w B v o) {g : Nat} (hg : w.grownBy w' (some g)) (hB : g < B) : SubsAt w' B v o := by
  cases o with
  | none => exact h
  | some x =>
    have h0 : OneSub w B v x.1 x.2 := h
    refine World.ownsRow.kept h0 hg ?_
    rcases h0.2 with ⟨rfl, _⟩ | ⟨g', cap, cur, rfl, hb, hh, _⟩
    · exact .inl rfl
    · exact .inr fun e => by
        have : g' = g := by simpa [Value.ownBlock] using e
        omega
theorem SubsAt.grown {w w' : World} {B : Nat} {v : Value} {o : Option (ByteArray × Nat)} (h : SubsAt w B v o) (hg : w.grownBy w' none) : SubsAt w' B v o := by
  cases o with
  | none => exact h
  | some x =>
    have h0 : OneSub w B v x.1 x.2 := h
    exact World.ownsRow.kept h0 hg (by cases v.ownBlock <;> simp)
theorem SubsAt.mono {w : World} {B B' : Nat} {v : Value} {o : Option (ByteArray × Nat)} (h : SubsAt w B v o) (hB : B' ≤ B) : SubsAt w B' v o := by
  cases o with
  | none => exact h
  | some x =>
    have h0 : OneSub w B v x.1 x.2 := h
    refine ⟨h0.1, h0.2.imp id ?_⟩
    rintro ⟨g', cap, cur, hv, hb, rest⟩
    exact ⟨g', cap, cur, hv, Nat.le_trans hB hb, rest⟩
section
variable {w : World}
set_option maxHeartbeats 6400000 in
theorem get_gen (S B : ByteArray) (h k q fr len id : Nat) (t b : ByteArray) (o : Option (ByteArray × Nat)) (hS : S.size ≤ 1000) (h0 : 0 < S.size) (hh : (S[0]).toNat = h) (hT : U8 w)
    (hhead : ∀ W : World, Calls Tryd.prog 32 #[.int .i64 (h : Int)] W fun e w' => e = .returned (.agg (pkZ k q 0 ⟨#[]⟩ ⟨#[]⟩ (.slice none 0 0))) ∧ W.grownBy w' none)
    (hv : ∀ W : World, Calls Tryd.prog 30 #[.string S, .int .i64 1] W fun e w' => e = .returned (.tuple #[.int .i64 (len : Int), .int .i64 (fr : Int), .int .u8 0]) ∧ W = w')
    (hfr : fr + len = S.size) (hB : S.extract fr S.size = B)
    (hbody : ∀ (W : World) (rb pb : Nat), Rd W rb B 0 → Blk W pb 37 (pkZ k q 0 ⟨#[]⟩ ⟨#[]⟩ (.slice none 0 0)) → U8 W → (∀ g, g = 0 ∨ g = 1 → g ≠ rb ∧ g ≠ pb) →
      Calls Tryd.prog 34 #[.pointer (some ⟨rb, 0, none⟩), .pointer (some ⟨pb, 0, none⟩)] W fun e w' => e = .returned (.tuple #[]) ∧ ∃ A l c, Blk w' pb 37 (pkZ k q id t b (.slice A l c)) ∧ SubsAt w' W.heap.size (.slice A l c) o ∧ Duo W w' rb pb) :
    Calls Tryd.prog 20 #[.string S] w fun e w' => ∃ A l c, e = .returned (.tuple #[.agg (pkZ k q id t b (.slice A l c)), .int .u8 0]) ∧ SubsAt w' w.heap.size (.slice A l c) o ∧ w.grownBy w' none := by
  have hsm := hT.small
  have hmf : ∀ (fn : Fn) (first cap : Array Value) (w : World), (Instr.makeFunc fn first cap).run Tryd.prog w = .ok (.func fn first cap) w := fun _ _ _ _ => rfl
  have hR0 := (Blk.new w 37 (ackZ 0 0)).alloc (.cells #[.int .u8 0] 29)
  have hC0 : Blk ((w.alloc (.cells (ackZ 0 0) 37)).alloc (.cells #[.int .u8 0] 29)) (w.heap.size + 1) 29 #[.int .u8 0] := by
    have h := Blk.new (w.alloc (.cells (ackZ 0 0) 37)) 29 #[.int .u8 0]
    rw [show (w.alloc (.cells (ackZ 0 0) 37)).heap.size = w.heap.size + 1 by simp] at h
    exact h
  have hg0 : w.grownBy ((w.alloc (.cells (ackZ 0 0) 37)).alloc (.cells #[.int .u8 0] 29)) none := only_alloc (only_alloc (only_refl w none) _) _
  have HR0 := Lib.hid hR0
  have HC0 := Lib.hid hC0
  have HG0 := Lib.hid hg0
  have HH := Lib.hid hhead
  have HVg := Lib.hid hv
  have HBody := Lib.hid hbody
  have hone0 := Lib.hid (pk_one k q 0 ⟨#[]⟩ ⟨#[]⟩ none 0 0)
  have hne : (S.toList == ([] : List UInt8)) = false := by
    rw [ByteArray.toList_eq, beq_eq_false_iff_ne]
    intro e
    have := congrArg List.length e
    rw [← size_list, List.length_nil] at this
    omega
  have hwh : wrap64 (h : Int) = (h : Int) := IntWalk.wrap64_in _ (by have := (S[0]).toNat_lt; omega)
  have hS1 : ¬ (65536 : Int) < (len : Int) := by omega
  have hd1 : decide ((65536 : Int) < (len : Int)) = false := decide_eq_false hS1
  have hlen : (S.size : Int) - (fr : Int) = (len : Int) := by omega
  clear hR0 hC0 hg0 hhead hv hbody
  unfold ackZ at HR0 HC0 HG0
  go_enter_defers Tryd.func20, Tryd.ntmps20
  go_wp2_with fail
  try rw [hwh]
  refine (HH.out _).mono ?_
  rintro e w1 ⟨rfl, hk1⟩
  have hR1 := HR0.out.grown hk1 (by simp)
  have hC1 := HC0.out.grown hk1 (by simp)
  have hg1 := only_trans HG0.out hk1
  clear HR0 HC0 HG0 HH hk1
  unfold pkZ
  go_wp2_with (refine wpList_store_row (by rfl) 37 _ _ (by rfl) w.heap.size (pkZ k q 0 ⟨#[]⟩ ⟨#[]⟩ (.slice none 0 0)) (by rfl) (by rfl) 37 _ hR1 (by kernel_rfl) (by rfl) hone0.out ?_)
  refine (HVg.out _).mono ?_
  rintro e w2 ⟨rfl, hw2⟩
  have hR2 : Blk w2 w.heap.size 37 (pkZ k q 0 ⟨#[]⟩ ⟨#[]⟩ (.slice none 0 0)) := hw2 ▸ hR1.rowed _
  have hC2 : Blk w2 (w.heap.size + 1) 29 #[.int .u8 0] := hw2 ▸ hC1.rowFar (by omega) _
  have hg2 : w.grownBy w2 none := hw2 ▸ only_row hg1 (Nat.le_refl _) _
  clear hw2 hR1 hC1 hg1 HVg
  have c0 := hC2.cell 0
  have f0 := hC2.frozen 0
  have hR3 := (hR2.far (p := ⟨w.heap.size + 1, 0, none⟩) (by simp) (.int .u8 0)).alloc (.cells #[.string B, .int .i64 0] 82)
  have hB3 : Blk ((w2.setCell ⟨w.heap.size + 1, 0, none⟩ (.int .u8 0)).alloc (.cells #[.string B, .int .i64 0] 82)) w2.heap.size 82 #[.string B, .int .i64 0] := by
    have h := Blk.new (w2.setCell ⟨w.heap.size + 1, 0, none⟩ (.int .u8 0)) 82 #[.string B, .int .i64 0]
    rw [show (w2.setCell ⟨w.heap.size + 1, 0, none⟩ (.int .u8 0)).heap.size = w2.heap.size by simp [World.setCell]] at h
    exact h
  have hC3 := (hC2.put 0 (.int .u8 0)).alloc (.cells #[.string B, .int .i64 0] 82)
  have hg3 : w.grownBy ((w2.setCell ⟨w.heap.size + 1, 0, none⟩ (.int .u8 0)).alloc (.cells #[.string B, .int .i64 0] 82)) none := only_alloc (only_new hg2 (p := ⟨w.heap.size + 1, 0, none⟩) (by simp) _) _
  have hws := hg2.size
  have hcl := hC2.lt
  have hT3 := hT.kept hg3
  have HBd := Lib.hid (HBody.out _ _ _ hB3 hR3 hT3 (by rintro g (rfl | rfl) <;> omega))
  have HC3 := Lib.hid hC3
  have HG3 := Lib.hid hg3
  clear hR3 hB3 hC3 hg3 HBody
  go_wp2_with (go_at_call 33; refine must_true.mono ?_; rintro e w' ⟨rfl, rfl⟩)
  refine HBd.out.mono ?_
  rintro e w4 ⟨rfl, A, l, c, hR4, ho4, hdu⟩
  have hC4 : Blk w4 (w.heap.size + 1) 29 #[.int .u8 0] := (hdu.block _ HC3.out.lt (by omega) (by omega)).trans HC3.out
  have hg4 := grown_duo HG3.out hdu (by omega) (Nat.le_refl _)
  have hB2 : w.heap.size + 2 ≤ ((w2.setCell ⟨w.heap.size + 1, 0, none⟩ (.int .u8 0)).alloc (.cells #[.string B, .int .i64 0] 82)).heap.size := by have := HC3.out.lt; omega
  have ho4' := ho4.mono hB2
  have hR5 := hR4.rowed (pkZ k q id t b (.slice A l c))
  have hC5 := hC4.rowFar (g := w.heap.size) (by omega) (pkZ k q id t b (.slice A l c))
  have hg5 := only_row hg4 (Nat.le_refl _) (pkZ k q id t b (.slice A l c))
  have ho5 := ho4'.kept (only_rowOwn (only_refl w4 (some w.heap.size)) (pkZ k q id t b (.slice A l c))) (by omega)
  have e0 := hC5.cell 0
  have e1 := hC5.frozen 0
  have hone7 := Lib.hid (pk_one k q id t b A l c)
  have HR6 := Lib.hid (hR5.far (p := ⟨w.heap.size + 1, 0, none⟩) (by simp) (.int .u8 0))
  have HC6 := Lib.hid (hC5.put 0 (.int .u8 0))
  have HG6 := Lib.hid (only_new hg5 (p := ⟨w.heap.size + 1, 0, none⟩) (by simp) (.int .u8 0))
  have HO6 := Lib.hid (ho5.kept (only_put (only_refl _ (some (w.heap.size + 1))) 0 (.int .u8 0)) (by omega))
  clear hR5 hg5 hg4 hC5 hC4 ho4 ho4' ho5
  have hR4' := hR4
  unfold pkZ at hR4'
  go_wp2_with (first
    | (refine wpList_load_row (by rfl) 37 _ (by rfl) w.heap.size (by rfl) 37 _ (0, 0) _ hR4' Tryd.underlying37 (by rfl) (by kernel_rfl) ?_)
    | (refine wpList_store_row (by rfl) 37 _ _ (by rfl) w.heap.size (pkZ k q id t b (.slice A l c)) (by rfl) (by rfl) 37 _ hR4' (by kernel_rfl) (by rfl) hone7.out ?_))
  refine leaves_cons (f := 31) (args := #[.pointer (some ⟨w.heap.size, 0, none⟩), .pointer (some ⟨w.heap.size + 1, 0, none⟩)]) (by simp) (by simp [go_sem]) ?_
  refine (catch_idle ⟨w.heap.size, 0, none⟩ ⟨w.heap.size + 1, 0, none⟩).mono ?_
  rintro e u' w6 ⟨rfl, rfl, hw6⟩
  have hR6 : Blk w6 w.heap.size 37 (pkZ k q id t b (.slice A l c)) := hw6 ▸ HR6.out
  have hC6 : Blk w6 (w.heap.size + 1) 29 #[.int .u8 0] := hw6 ▸ HC6.out
  have hg6 : w.grownBy w6 none := hw6 ▸ HG6.out
  have ho6 : SubsAt w6 (w.heap.size + 2) (.slice A l c) o := hw6 ▸ HO6.out
  clear hw6 HR6 HC6 HG6 hR4' hR4 hdu hmf e0 e1 HO6
  have hld : (loadVar 37 ⟨w.heap.size, 0, none⟩).run Tryd.prog w6 = .ok (.agg (pkZ k q id t b (.slice A l c))) w6 := run_loadVar_row w6 _ _ _ _ (0, 0) _ hR6 Tryd.underlying37 rfl (by kernel_rfl)
  have hcd : w6.cell? ⟨w.heap.size + 1, 0, none⟩ = some (.int .u8 0) := hC6.cell 0
  have hld2 : (loadVar 29 ⟨w.heap.size + 1, 0, none⟩).run Tryd.prog w6 = .ok (.int .u8 0) w6 := by
    simp [loadVar, isAgg, underlying, Tryd.underlying29, hcd, Result.andThen]
  clear hcd
  have hfin : ∃ A' l' c', Value.tuple #[.agg (pkZ k q id t b (.slice A l c)), .int .u8 0] = .tuple #[.agg (pkZ k q id t b (.slice A' l' c')), .int .u8 0] ∧ SubsAt w6 w.heap.size (.slice A' l' c') o ∧ w.grownBy w6 none := ⟨A, l, c, rfl, ho6.mono (by omega), hg6⟩
  have HFin := Lib.hid hfin
  clear hfin
  have HL := hld
  have HL2 := hld2
  generalize hV : Value.agg (pkZ k q id t b (.slice A l c)) = V at *
  simp [Leaves, settle, results, Tryd.results20, asAddr, hld, hld2, Sem.run_bind, Result.andThen]
  exact ⟨A, l, c, hV.symm, ho6.mono (by omega), hg6⟩
end
end Go.Proofs.YtcepfhnlbnlnhaaDoor
