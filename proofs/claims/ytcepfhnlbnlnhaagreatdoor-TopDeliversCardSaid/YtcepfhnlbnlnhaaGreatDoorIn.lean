/- THE WALKS of the receiver's flow. -/
import Derived.Test.YtcepfhnlbnlnhaaGreatDoorPool
import Derived.Laws.ResultCell
import Derived.Great.BuildSlice
namespace Go.Proofs.YtcepfhnlbnlnhaaGreatDoor
set_option maxRecDepth 100000
open Go.RowKit

section
variable {w : World}
theorem ints_cell {v : Value} {n : Nat} {zs : List Int} {base : Nat} (h : w.ownsRow base 3 1 v n (zs.map (Value.int .i64))) : ∃ A c, v = .slice A zs.length c ∧ n = zs.length ∧ ∀ k (hk : k < zs.length), ∃ g, A = some ⟨g, 0, none⟩ ∧ w.cell? ⟨g, k, none⟩ = some (.int .i64 zs[k]) := by
  have hl : zs.length = n := by have := h.1; rw [List.length_map] at this; omega
  subst hl
  rcases h.2 with ⟨rfl, h0⟩ | ⟨g, cap, cur, rfl, _⟩
  · exact ⟨none, 0, by rw [h0], rfl, fun k hk => by omega⟩
  · refine ⟨_, cap, rfl, rfl, fun k hk => ⟨g, rfl, ?_⟩⟩
    have := World.ownsRow.cells h (g := g) rfl k (.int .i64 zs[k]) (by rw [List.getElem?_map, List.getElem?_eq_getElem hk]; rfl)
    rwa [Addr.add_mid, Nat.zero_add] at this
set_option maxHeartbeats 1600000 in
theorem index_any {v : Value} {n : Nat} {zs : List Int} {base : Nat} (h : w.ownsRow base 3 1 v n (zs.map (Value.int .i64))) (hl : zs.length ≤ 1000) (x : Int) :
    Calls Tryz.prog 95 #[v, .int .i64 x] w fun e w' => w = w' ∧ ∃ r : Int, e = .returned (.int .i64 r) ∧ (0 ≤ r ↔ x ∈ zs) := by
  obtain ⟨A, c, rfl, rfl, hc⟩ := ints_cell h
  clear h
  go_enter Tryz.func95, Tryz.ntmps95
  go_wp2_with fail
  go_loopw [8] (fun iv wr => ∃ i : Nat, iv = .int .i64 (i : Int) ∧ i ≤ zs.length ∧ wr = w ∧ ∀ k (hk : k < zs.length), k < i → zs[k] ≠ x) (fun iv _ => zs.length - (intOf iv).toNat)
  case atStart => exact ⟨0, rfl, Nat.zero_le _, rfl, fun k hk h0 => by omega⟩
  case round =>
    obtain ⟨i, rfl, hi, rfl, hno⟩ := hrel
    have HNo := Lib.hid hno
    clear hno
    by_cases hlt : i < zs.length
    · have i1 : (i : Int) < (zs.length : Int) := by omega
      obtain ⟨g, rfl, hcc⟩ := hc i hlt
      have HC := Lib.hid hc
      clear hc
      by_cases he : x = zs[i]
      · have HE := Lib.hid he
        have hee : (x == zs[i]) = true := by simpa using he
        clear he
        have HM := Lib.hid (List.getElem_mem hlt)
        generalize zs[i] = z at *
        go_wp2_with fail
        go_ret
        exact ⟨rfl, i, rfl, fun _ => by rw [HE.out]; exact HM.out, fun _ => by omega⟩
      · have HE := Lib.hid he
        have hee : (x == zs[i]) = false := by simpa using he
        clear he
        go_wp2_with fail
        refine ⟨⟨i + 1, by go_num, by omega, trivial, fun k hk h0 => ?_⟩, by simp [intOf]; omega⟩
        by_cases e : k = i
        · subst e; exact fun h => HE.out h.symm
        · exact HNo.out k hk (by omega)
    · obtain rfl : i = zs.length := by omega
      have i1 : ¬ (zs.length : Int) < (zs.length : Int) := by omega
      go_wp2_with fail
      go_ret
      refine ⟨rfl, -1, rfl, fun h => by omega, fun h => ?_⟩
      obtain ⟨k, hk, e⟩ := List.mem_iff_getElem.1 h
      exact absurd e (HNo.out k hk hk)
set_option maxHeartbeats 1600000 in
theorem contains_any {v : Value} {n : Nat} {zs : List Int} {base : Nat} (h : w.ownsRow base 3 1 v n (zs.map (Value.int .i64))) (hl : zs.length ≤ 1000) (x : Int) :
    Calls Tryz.prog 72 #[v, .int .i64 x] w fun e w' => w = w' ∧ e = .returned (.bool (decide (x ∈ zs))) := by
  have HI := Lib.hid (index_any h hl x)
  clear h
  go_enter Tryz.func72, Tryz.ntmps72
  go_wp2_with fail
  refine HI.out.mono ?_
  rintro e w' ⟨rfl, r, rfl, hr⟩
  have hd : decide (0 ≤ r) = decide (x ∈ zs) := decide_eq_decide.2 hr
  go_wp2_with fail
  go_ret
  exact ⟨rfl, by rw [← hd]; rfl⟩
/-- What comes from one sender: the identifiers that are open. -/
structure InAt (w : World) (fb pb mb : Nat) (most taken : Nat) (U : List Int) : Prop where
  blk : Blk w fb 63 #[.pointer (some ⟨pb, 0, none⟩)]
  pool : PoolAt w pb mb most taken U
theorem has_any {fb pb mb most taken : Nat} {U : List Int} (h : InAt w fb pb mb most taken U) (hU : U.length ≤ 64) (x : Int) :
    Calls Tryz.prog 51 #[.pointer (some ⟨fb, 0, none⟩), .int .i64 x] w fun e w' => e = .returned (.bool (decide (x ∈ U))) ∧ Chg w w' [] := by
  have p0 := h.blk.cell 0
  have hlt := h.blk.lt
  have HU := Lib.hid (pool_used h.pool hU)
  clear h
  go_enter Tryz.func51, Tryz.ntmps51
  go_wp2_with fail
  refine HU.out.mono ?_
  rintro e w1 ⟨v, ss, rfl, hp, hrow, hc⟩
  have HC := Lib.hid (contains_any hrow (by rw [hp.length_eq]; omega) x)
  have hd : decide (x ∈ ss) = decide (x ∈ U) := decide_eq_decide.2 hp.mem_iff
  have HP := Lib.hid hc
  clear hrow hc hp
  go_wp2_with fail
  refine HC.out.mono ?_
  rintro e w2 ⟨rfl, rfl⟩
  go_wp2_with fail
  go_ret
  exact ⟨rfl, HP.out⟩
theorem open_any {fb pb mb most taken : Nat} {U : List Int} (h : InAt w fb pb mb most taken U) (hU : U.length ≤ 64) :
    Calls Tryz.prog 16 #[.pointer (some ⟨fb, 0, none⟩)] w fun e w' => ∃ A c, e = .returned (.slice A U.length c) ∧ Chg w w' [] := by
  have p0 := h.blk.cell 0
  have hlt := h.blk.lt
  have HU := Lib.hid (pool_used h.pool hU)
  clear h
  go_enter Tryz.func16, Tryz.ntmps16
  go_wp2_with fail
  refine HU.out.mono ?_
  rintro e w1 ⟨v, ss, rfl, hp, hrow, hc⟩
  obtain ⟨A, c, rfl, _, _⟩ := ints_cell hrow
  rw [hp.length_eq]
  have HP := Lib.hid hc
  clear hrow hc hp
  go_wp2_with fail
  go_ret
  exact ⟨A, c, rfl, HP.out⟩
theorem in_new (n : Int) (m : Nat) (hn : max 1 (min n 64) = (m : Int)) : Calls Tryz.prog 6 #[.int .i64 n] w fun e w' => ∃ fb pb mb, e = .returned (.pointer (some ⟨fb, 0, none⟩)) ∧ w.heap.size ≤ fb ∧ w.heap.size ≤ pb ∧ w.heap.size ≤ mb ∧ fb ≠ pb ∧ fb ≠ mb ∧ InAt w' fb pb mb m 0 [] ∧ Chg w w' [] := by
  have HN := Lib.hid (pool_new (w := w) n m hn)
  go_enter Tryz.func6, Tryz.ntmps6
  go_wp2_with fail
  refine HN.out.mono ?_
  rintro e w1 ⟨pb, mb, rfl, h1, h2, hp, hc⟩
  have HP := Lib.hid hp
  have HC := Lib.hid hc
  clear hp hc
  go_wp2_with fail
  go_ret
  have := HP.out.blk.lt
  have := HP.out.set.lt
  have := HC.out.size
  exact ⟨w1.heap.size, pb, mb, rfl, by omega, h1, h2, by omega, by omega, ⟨Blk.new _ _ _, HP.out.chg ((Chg.refl _ []).alloc _) (by simp) (by simp)⟩, HC.out.alloc _⟩
end
end Go.Proofs.YtcepfhnlbnlnhaaGreatDoor
