/- THE WALKS of fault.New, Wrap (their cells kept), inner, Path, Error, Text; of no error. -/
import Derived.Test.YtaolamdkmiionaaDoorFault
import Derived.Test.YtaolamdkmiionaaDoorItoa
import Derived.Lib.AppendIntMem
import Derived.Laws.AppendOwn
import Derived.BigQuiet
import Derived.Deep.QuietTactic
import Derived.BigRegion
import Derived.Deep.RegionHeld3
import Derived.Deep.DrawnRows
import Derived.Deep.AppendLies
namespace Go.Proofs.YtaolamdkmiionaaDoor
set_option maxRecDepth 100000
open Go.RowKit

theorem Tryd.infoStr : (Tryd.prog.info? 9).map (fun i => (i.zero, i.size, i.bytes)) = some (some (.string ⟨#[]⟩), 1, 16) := by kernel_rfl
theorem one_cell' (w : World) (u : Value) (o : TypeId) : ∀ j x, [u][j]? = some x → (w.alloc (.cells #[u] o)).cell? ((⟨w.heap.size, 0, none⟩ : Addr).add j) = some x := by
  intro j x h
  cases j with
  | zero =>
    simp at h
    subst h
    exact (Blk.new w o #[u]).cell 0
  | succ j => simp at h
theorem grown_own' {a b c : World} {row : Option Nat} (h : a.grownBy b none) (k : b.grownBy c row) (hr : ∀ k, row = some k → a.heap.size ≤ k) : a.grownBy c none :=
  ⟨k.os.trans h.os, k.tape.trans h.tape, k.output.trans h.output, Nat.le_trans h.size k.size, fun i hi _ => (k.block i (Nat.lt_of_lt_of_le hi h.size) (fun e => by have := hr i e.symm; omega)).trans (h.block i hi (by simp))⟩
theorem itoa_grown {w : World} {n : Nat} (hn : n ≤ 9223372036854775807) (htab : Lib.TabIs Tryd.prog w "internal/strconv.uint64pow10" .u64 Lib.pow10Tab) :
    Calls Tryd.prog 19 #[.int .i64 (n : Int)] w fun e w' => e = .returned (.string ⟨(Lib.itoa (n : Int)).toArray⟩) ∧ w.grownBy w' none :=
  (itoa_any n hn htab).mono fun e w' ⟨he, k, os, hw⟩ => ⟨he, by subst hw; exact only_below (Lib.below_grow w.heap.size w (Nat.le_refl _) k os) none⟩

/-- The table, as it is laid, stays. -/
def Tab (w : World) : Prop := Lib.TabIs Tryd.prog w "internal/strconv.uint64pow10" .u64 Lib.pow10Tab

section
variable {w : World}
set_option maxHeartbeats 800000 in
theorem fnew_cells (c : Nat) (wh : ByteArray) : Calls Tryd.prog 15 #[.int .u8 (c : Int), .string wh] w fun e w' => ∃ p, e = .returned (errV p) ∧ w.heap.size ≤ p ∧ Blk w' p 41 #[.int .u8 (c : Int), .string wh, .nilIface] ∧ w.grownBy w' none := by
  go_enter Tryd.func15, Tryd.ntmps15
  go_wp2_with fail
  go_ret
  exact ⟨w.heap.size, rfl, Nat.le_refl _, Blk.new _ _ _, only_alloc (only_refl _ _) _⟩
set_option maxHeartbeats 800000 in
theorem wrap_cells {p c : Nat} (wh : ByteArray) (hH : Hand w) (hf : Faulty w p c) : Calls Tryd.prog 5 #[.string wh, errV p] w fun e w' => ∃ q, e = .returned (errV q) ∧ w.heap.size ≤ q ∧ Blk w' q 41 #[.int .u8 (c : Int), .string wh, errV p] ∧ w.grownBy w' none := by
  have hc := Lib.hid (codeOf_err hH hf)
  unfold errV at *
  go_enter Tryd.func5, Tryd.ntmps5
  go_wp2_with fail
  refine hc.out.mono ?_
  rintro e w1 ⟨rfl, hg1⟩
  go_wp2_with fail
  go_ret
  exact ⟨w1.heap.size, rfl, hg1.size, Blk.new _ _ _, only_trans hg1 (only_alloc (only_refl _ _) _)⟩
theorem unwrapM (v : Value) (w : World) : (Go.method 64 22 v "Unwrap").run Tryd.prog w = .ok (11, v) w := by kernel_rfl
theorem errorM (v : Value) (w : World) : (Go.method 25 22 v "Error").run Tryd.prog w = .ok (14, v) w := by kernel_rfl
set_option maxHeartbeats 800000 in
theorem unwrap_any {q : Nat} {cs : Array Value} {v : Value} (hb : Blk w q 41 cs) (hv : cs[2]? = some v) : Calls Tryd.prog 11 #[.pointer (some ⟨q, 0, none⟩)] w fun e w' => e = .returned v ∧ w = w' := by
  have c0 := (hb.cell 2).trans hv
  go_enter Tryd.func11, Tryd.ntmps11
  go_wp2_with fail
  go_ret
  exact ⟨rfl, rfl⟩
theorem hasUnwrap (v : Value) (w : World) : (Instr.typeAssert (.iface 22 v) 25 64 true).run Tryd.prog w = .ok (.tuple #[.iface 22 v, .bool true]) w := run_typeAssert_hasB Tryd.underlying64 (by kernel_rfl) v 25 w
theorem isFault (v : Value) (w : World) : (Instr.typeAssert (.iface 22 v) 25 22 true).run Tryd.prog w = .ok (.tuple #[v, .bool true]) w := by kernel_rfl
set_option maxHeartbeats 800000 in
theorem inner_any {q : Nat} {cs : Array Value} {v : Value} (hb : Blk w q 41 cs) (hv : cs[2]? = some v) : Calls Tryd.prog 18 #[errV q] w fun e w' => e = .returned v ∧ w = w' := by
  have hU := Lib.hid (unwrap_any hb hv)
  have hM := unwrapM
  have hA := hasUnwrap
  unfold errV
  go_enter Tryd.func18, Tryd.ntmps18
  go_wp2_with (go_at_call 11; refine hU.out.mono ?_; rintro e w' ⟨rfl, rfl⟩)
  go_ret
  exact ⟨rfl, rfl⟩
set_option maxHeartbeats 3200000 in
/-- Where an error of two faults was met. -/
theorem path_two {p q : Nat} {c d : Nat} {s t : ByteArray} (hq : Blk w q 41 #[.int .u8 (c : Int), .string s, errV p]) (hp : Blk w p 41 #[.int .u8 (d : Int), .string t, .nilIface]) :
    Calls Tryd.prog 9 #[errV q] w fun e w' => ∃ g cap, e = .returned (.slice (some ⟨g, 0, none⟩) 2 cap) ∧ w'.cell? ⟨g, 0, none⟩ = some (.string s) ∧ w'.cell? ⟨g, 1, none⟩ = some (.string t) ∧ w.grownBy w' none := by
  obtain ⟨i0, hi0, hz0, hz1, hz2⟩ := info_parts Tryd.infoStr
  have hF := isFault
  have HF := Lib.hid hF
  clear hF
  have hn := @World.ownsRow_nil
  unfold errV at *
  have hF := HF.out
  have cq := hq.cell 1
  go_enter Tryd.func9, Tryd.ntmps9
  go_wp2_with fail
  refine wp_loop_rounds 3 ?_
  rw [rounds_succ]
  go_wp2_with (at_builtin; refine wpList_append_lies _ rfl _ _ 31 rfl w.heap.size 9 i0 _ 1 16 Tryd.underlying31 hi0 hz0 hz1 hz2 rfl (by decide) _ _ _ rfl (hn _ _ _ _) ⟨w.heap.size, 0, none⟩ 1 1 [.string s] rfl rfl (one_cell' _ _ _) (by intro u hu; simp at hu; subst hu; rfl) (by omega) (by unfold maxLen; omega) (by omega) (by simp) w.heap.size.succ (by simp) ?_; intro g1 cap1 w1 hown1 hg1 hat1 hlt1)
  have hg1' : w.grownBy w1 none := only_trans (only_alloc (only_refl w none) _) (show (w.alloc (.cells #[.string s] 9)).grownBy w1 none from hg1)
  have hq1 := hq.grown hg1' (by simp)
  have hp1 := hp.grown hg1' (by simp)
  have cp := hp1.cell 1
  refine (inner_any hq1 rfl).mono ?_
  rintro e w2 ⟨rfl, rfl⟩
  go_wp2_with fail
  rw [rounds_succ]
  go_wp2_with (at_builtin; refine wpList_append_lies _ rfl _ _ 31 rfl w.heap.size 9 i0 _ 1 16 Tryd.underlying31 hi0 hz0 hz1 hz2 rfl (by decide) _ _ _ rfl (hown1.alloc _) ⟨w1.heap.size, 0, none⟩ 1 1 [.string t] rfl rfl (one_cell' _ _ _) (by intro u hu; simp at hu; subst hu; rfl) (by omega) (by unfold maxLen; omega) (by omega) (by have := hg1'.size; simp; omega) w1.heap.size.succ (by simp) ?_; intro g2 cap2 w2 hown2 hg2 hat2 hlt2)
  have hg2' : w.grownBy w2 none := by
    refine grown_own' (only_alloc hg1' _) hg2 ?_
    intro k hk
    exact (hown1.lt k hk).1
  refine (inner_any (hp.grown hg2' (by simp)) rfl).mono ?_
  rintro e w3 ⟨rfl, rfl⟩
  go_wp2_with fail
  rw [rounds_succ]
  go_wp2_with fail
  go_ret
  have hc := fun j u h => hown2.cells (g := g2) rfl j u h
  exact ⟨g2, cap2, rfl, hc 0 _ rfl, hc 1 _ rfl, hg2'⟩
theorem itoa_151 : (⟨(Lib.itoa ((151 : Nat) : Int)).toArray⟩ : ByteArray) = ⟨#[49, 53, 49]⟩ := by kernel_rfl
set_option maxHeartbeats 1600000 in
/-- The text of a fault without a cause. -/
theorem error_leaf {p : Nat} (hT : Tab w) (hb : Blk w p 41 #[.int .u8 ((151 : Nat) : Int), .string ⟨#[116, 97, 103, 115]⟩, .nilIface]) :
    Calls Tryd.prog 14 #[.pointer (some ⟨p, 0, none⟩)] w fun e w' => e = .returned (.string ⟨#[116, 97, 103, 115, 58, 32, 49, 53, 49]⟩) ∧ w.grownBy w' none := by
  have hI : ∀ W, Tab W → Calls Tryd.prog 19 #[.int .i64 (IntKind.i64.wrap 151)] W fun e w' => e = .returned (.string ⟨#[49, 53, 49]⟩) ∧ W.grownBy w' none := by
    intro W hW
    have h := itoa_grown (w := W) (n := 151) (by omega) hW
    rw [itoa_151] at h
    exact h
  have HI := Lib.hid hI
  clear hI
  have hT' := Lib.hid hT
  have c0 := hb.cell 0
  have c1 := hb.cell 1
  have c2 := hb.cell 2
  go_enter Tryd.func14, Tryd.ntmps14
  go_wp2_with fail
  go_region_held3 (fun w' => w'.cell? ⟨p, 0, none⟩ = some (.int .u8 ((151 : Nat) : Int)) ∧ w'.cell? ⟨p, 1, none⟩ = some (.string ⟨#[116, 97, 103, 115]⟩)) (first | go_keep | assumption | exact ⟨by assumption, by assumption⟩)
    (first
      | (go_at_call 19; refine (HI.out w.drew (show Tab w.drew from hT'.out)).mono ?_; rintro e w1 ⟨rfl, hg1⟩; have k0 := (hb.drew.grown hg1 (by simp)).cell 0; have k1 := (hb.drew.grown hg1 (by simp)).cell 1))
  go_wp2_with fail
  go_ret
  exact ⟨by rfl, only_trans (only_drew (only_refl w none)) hg1⟩
set_option maxHeartbeats 1600000 in
theorem text_leaf {p : Nat} (hT : Tab w) (hb : Blk w p 41 #[.int .u8 ((151 : Nat) : Int), .string ⟨#[116, 97, 103, 115]⟩, .nilIface]) :
    Calls Tryd.prog 10 #[errV p] w fun e w' => e = .returned (.string ⟨#[116, 97, 103, 115, 58, 32, 49, 53, 49]⟩) ∧ w.grownBy w' none := by
  have HE := Lib.hid (error_leaf hT hb)
  have hM := errorM
  unfold errV
  go_enter Tryd.func10, Tryd.ntmps10
  go_wp2_with fail
  refine HE.out.mono ?_
  rintro e w1 ⟨rfl, hg1⟩
  go_wp2_with fail
  go_ret
  exact ⟨rfl, hg1⟩
theorem Tab.grown {w' : World} (h : Tab w) (hg : w.grownBy w' none) : Tab w' := by
  unfold Tab Lib.TabIs World.var? at *
  cases hn : Tryd.prog.globalNamed "internal/strconv.uint64pow10" with
  | none => rw [hn] at h; simp at h
  | some g =>
    rw [hn] at h
    simp only [Option.bind_some] at h ⊢
    have hl : g < w.heap.size := by
      rcases Nat.lt_or_ge g w.heap.size with h0 | h0
      · exact h0
      · rw [Array.getElem?_eq_none h0] at h; simp at h
    rw [hg.block g hl (by simp)]
    exact h
set_option maxHeartbeats 1600000 in
/-- The text of a fault with a cause. -/
theorem error_two {p q : Nat} (hT : Tab w) (hp : Blk w p 41 #[.int .u8 ((151 : Nat) : Int), .string ⟨#[116, 97, 103, 115]⟩, .nilIface]) (hq : Blk w q 41 #[.int .u8 ((151 : Nat) : Int), .string ⟨#[108, 105, 110, 107]⟩, errV p]) :
    Calls Tryd.prog 14 #[.pointer (some ⟨q, 0, none⟩)] w fun e w' => e = .returned (.string ⟨#[108, 105, 110, 107, 58, 32, 116, 97, 103, 115, 58, 32, 49, 53, 49]⟩) ∧ w.grownBy w' none := by
  have HI := Lib.hid (text_leaf (w := w.drew) hT hp)
  clear hp
  unfold errV at *
  have c0 := hq.cell 0
  have c1 := hq.cell 1
  have c2 := hq.cell 2
  go_enter Tryd.func14, Tryd.ntmps14
  go_wp2_with fail
  go_region_held3 (fun w' => w'.cell? ⟨q, 1, none⟩ = some (.string ⟨#[108, 105, 110, 107]⟩) ∧ w'.cell? ⟨q, 2, none⟩ = some (.iface 22 (.pointer (some ⟨p, 0, none⟩)))) (first | go_keep | assumption | exact ⟨by assumption, by assumption⟩)
    (first
      | (go_at_call 10; refine HI.out.mono ?_; rintro e w1 ⟨rfl, hg1⟩; have k1 := (hq.drew.grown hg1 (by simp)).cell 1; have k2 := (hq.drew.grown hg1 (by simp)).cell 2))
  go_wp2_with fail
  go_ret
  exact ⟨by rfl, only_trans (only_drew (only_refl w none)) hg1⟩
set_option maxHeartbeats 1600000 in
theorem text_two {p q : Nat} (hT : Tab w) (hp : Blk w p 41 #[.int .u8 ((151 : Nat) : Int), .string ⟨#[116, 97, 103, 115]⟩, .nilIface]) (hq : Blk w q 41 #[.int .u8 ((151 : Nat) : Int), .string ⟨#[108, 105, 110, 107]⟩, errV p]) :
    Calls Tryd.prog 10 #[errV q] w fun e w' => e = .returned (.string ⟨#[108, 105, 110, 107, 58, 32, 116, 97, 103, 115, 58, 32, 49, 53, 49]⟩) ∧ w.grownBy w' none := by
  have HE := Lib.hid (error_two hT hp hq)
  have hM := errorM
  unfold errV
  go_enter Tryd.func10, Tryd.ntmps10
  go_wp2_with fail
  refine HE.out.mono ?_
  rintro e w1 ⟨rfl, hg1⟩
  go_wp2_with fail
  go_ret
  exact ⟨rfl, hg1⟩
end
end Go.Proofs.YtaolamdkmiionaaDoor
