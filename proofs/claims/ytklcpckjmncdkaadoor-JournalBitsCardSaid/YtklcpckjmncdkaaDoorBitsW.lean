/- THE WALK of the statement JournalBits. -/
import Derived.Test.YtklcpckjmncdkaaDoorWk
import Derived.Test.YtklcpckjmncdkaaDoorBitsLaw
import Derived.Laws.IdiomStrings
import Derived.Laws.BitsAllLaws
import Derived.Deep.DeepCutAuto
namespace Go.Proofs.YtklcpckjmncdkaaDoor
set_option maxRecDepth 100000
open Go.RowKit

theorem bytesRow_at {L : List UInt8} {cap j : Nat} {u : UInt8} (h : L[j]? = some u) : (bytesRow ⟨L.toArray⟩ cap)[j]? = some (.int .u8 (u.toNat : Int)) := by
  obtain ⟨hj, hu⟩ := List.getElem?_eq_some_iff.1 h
  unfold bytesRow
  rw [Array.getElem?_append_left (by simpa using hj)]
  simp [h]
theorem pow_small : ∀ r, r < 8 → (2 : Int) ^ r % 256 = ((2 ^ r : Nat) : Int) ∧ 2 ^ r < 256 ∧ 2 ^ r ≠ 0 := by decide
section
variable {w : World}
set_option maxHeartbeats 3200000 in
theorem bits_walk (hH : Hand w) (b0 : ByteArray) (hb0 : b0.size ≤ maxLen) (bit : Int) : Calls Tryd.prog 4 #[.string b0, .int .i64 bit] w fun e w' => e = .returned (.bool true) ∧ w.grownBy w' none := by
  obtain ⟨b, hb⟩ : ∃ b, b0.extract 0 (min (b0.size : Int) 1000).toNat = b := ⟨_, rfl⟩
  have hbs : b.size ≤ 1000 := by rw [← hb, ByteArray.size_extract]; omega
  have hF := Lib.hid (fun W => frame_any b (by unfold maxLen; omega) W)
  unfold maxLen at hb0
  by_cases h0 : b.size = 0
  · have hfr : frameR b = (⟨#[]⟩, 129) := by unfold frameR; rw [if_pos h0]
    rw [hfr] at hF
    have hbe : b = ⟨#[]⟩ := by
      apply ByteArray.ext
      exact Array.eq_empty_of_size_eq_zero h0
    subst hbe
    go_enter Tryd.func4, Tryd.ntmps4
    go_wp2_with fail
    refine (hF.out _).mono ?_
    rintro e w1 ⟨rfl, hb1⟩
    have hg1 := grown_below hb1 (Nat.le_refl _)
    go_wp2_with fail
    refine (wakes_any (hH.grown hg1 (by simp))).mono ?_
    rintro e w2 ⟨rfl, hk2⟩
    have hg2 := only_trans hg1 hk2
    go_wp2_with fail
    refine (wakes_any (hH.grown hg2 (by simp))).mono ?_
    rintro e w3 ⟨rfl, hk3⟩
    go_wp2_with fail
    go_ret
    exact ⟨rfl, only_trans hg2 hk3⟩
  · have hok : OkB b := ⟨by omega, by omega⟩
    have hfr := frameR_ok hok
    rw [hfr] at hF
    have hfl := frame_length b.data.toList
    have hfs : (⟨(frame b.data.toList).toArray⟩ : ByteArray).size = 6 + b.size := by rw [size_list b]; exact hfl
    have hU := un_at (s := ⟨(frame b.data.toList).toArray⟩) (b := b) (pre := []) (post := []) (by simp) hok (p := 0) rfl
    have hbits := fun (j : Nat) (h4 : 4 ≤ j) (x y : UInt8) (hx : (frame b.data.toList)[j]? = some x) (hy : x ≠ y) => bits_law hok h4 hx hy
    generalize frame b.data.toList = L at *
    have hfi : ¬ ((⟨L.toArray⟩ : ByteArray).size : Int) < 7 := by omega
    go_enter Tryd.func4, Tryd.ntmps4
    go_wp2_with fail
    refine (hF.out _).mono ?_
    rintro e w1 ⟨rfl, hb1⟩
    have hg1 := grown_below hb1 (Nat.le_refl _)
    go_wp2_with fail
    refine (wakes_any (hH.grown hg1 (by simp))).mono ?_
    rintro e w2 ⟨rfl, hk2⟩
    have hg2 := only_trans hg1 hk2
    have hconv := run_bytes_of_string (P := Tryd.prog) w2 9 44 5 ⟨L.toArray⟩ Tryd.underlying9 Tryd.underlying44 Tryd.underlying5
    have hmw : IntKind.i64.wrap (8 * (6 + (b.size : Int) - 4)) = 8 * (6 + (b.size : Int) - 4) := IntWalk.i64_in _ (by omega)
    go_upto_region 7 with fail
    obtain ⟨q, r, hkk, hr8, hqn⟩ : ∃ q r : Nat, max 0 bit % (8 * (6 + (b.size : Int) - 4)) = ((8 * q + r : Nat) : Int) ∧ r < 8 ∧ q < 2 + b.size := by
      have h1 : 0 ≤ max 0 bit % (8 * (6 + (b.size : Int) - 4)) := Int.emod_nonneg _ (by omega)
      have h2 : max 0 bit % (8 * (6 + (b.size : Int) - 4)) < 8 * (6 + (b.size : Int) - 4) := Int.emod_lt_of_pos _ (by omega)
      generalize max 0 bit % (8 * (6 + (b.size : Int) - 4)) = m at *
      obtain ⟨m, rfl⟩ := Int.eq_ofNat_of_zero_le h1
      exact ⟨m / 8, m % 8, by omega, by omega, by omega⟩
    rw [hkk]
    have hq : (((8 * q + r : Nat) : Int)) / 8 = (q : Int) := by omega
    have hr : (((8 * q + r : Nat) : Int)) % 8 = (r : Int) := by omega
    have hq2 : (8 * (q : Int) + (r : Int)) / 8 = (q : Int) := by omega
    have hr2 : (8 * (q : Int) + (r : Int)) % 8 = (r : Int) := by omega
    generalize hcap : grownCap w2 (6 + b.size) 0 5 = cap at *
    obtain ⟨row, hrow⟩ : ∃ row : Array Value, row = bytesRow ⟨L.toArray⟩ cap := ⟨_, rfl⟩
    rw [← hrow]
    have hLlen : L.length = 6 + b.size := by rw [size_list b]; exact hfl
    obtain ⟨x, hx⟩ : ∃ x, L[4 + q]? = some x := ⟨L[4 + q]'(by omega), List.getElem?_eq_getElem (by omega)⟩
    have hrj : ∀ (j : Nat) (u : UInt8), L[j]? = some u → row[j]? = some (Value.int .u8 (u.toNat : Int)) := by
      intro j u hu
      rw [hrow]
      exact bytesRow_at hu
    obtain ⟨W3, hW3⟩ : ∃ W3, W3 = (w2.alloc (.cells row 5 (row.size, row.size + 1))).drew := ⟨_, rfl⟩
    rw [← hW3]
    have hi1 : (4 + (q : Int)) < 6 + (b.size : Int) := by omega
    have d1 : W3.cell? ⟨w2.heap.size, 4 + q, none⟩ = some (.int .u8 (x.toNat : Int)) := by
      rw [hW3]
      exact (cell_of_row _ w2.heap.size (4 + q) row _ _ (heap_alloc_new w2 _)).trans (hrj _ _ hx)
    have hjs : 4 + q < row.size := (Array.getElem?_eq_some_iff.1 (hrj _ _ hx)).1
    have f1 : W3.frozen? ⟨w2.heap.size, 4 + q, none⟩ = false := by
      rw [hW3]
      show ((w2.alloc (.cells row 5 (row.size, row.size + 1)))).frozen? ⟨w2.heap.size, 4 + q, none⟩ = false
      have hh := heap_alloc_new w2 (.cells row 5 (row.size, row.size + 1))
      unfold World.frozen?
      simp only [hh]
      simp
      omega
    have hW3h : W3.heap[w2.heap.size]? = some (.cells row 5 (row.size, row.size + 1)) := by rw [hW3]; exact heap_alloc_new w2 _
    have hg3 : w2.grownBy W3 none := by rw [hW3]; exact only_drew (only_alloc (only_refl _ _) _)
    obtain ⟨hp1, hp2, hp3⟩ := pow_small r hr8
    obtain ⟨y, hy⟩ : ∃ y : UInt8, y = UInt8.ofNat (x.toNat ^^^ 2 ^ r) := ⟨_, rfl⟩
    have hxlt := x.toNat_lt
    have hylt : x.toNat ^^^ 2 ^ r < 256 := Nat.xor_lt_two_pow (n := 8) hxlt hp2
    have hyt : y.toNat = x.toNat ^^^ 2 ^ r := by rw [hy, UInt8.toNat_ofNat']; exact Nat.mod_eq_of_lt hylt
    have hxy : x ≠ y := by
      intro e
      have e2 : x.toNat ^^^ 0 = x.toNat ^^^ 2 ^ r := by rw [Nat.xor_zero, ← hyt, ← e]
      have := Jr.xor_cancel e2
      omega
    have hxor : bits .xor .u8 (x.toNat : Int) ((2 : Int) ^ r % 256) = (y.toNat : Int) := by rw [hp1, u8_xor_nat _ _ hxlt hp2, hyt]
    have hbad := hbits (4 + q) (by omega) x y hx hxy
    have hset : ∀ (j : Nat) (u : UInt8), (L.set (4 + q) y)[j]? = some u → (row.setIfInBounds (4 + q) (.int .u8 (y.toNat : Int)))[j]? = some (.int .u8 (u.toNat : Int)) := by
      intro j u hu
      rw [List.getElem?_set] at hu
      by_cases hj : 4 + q = j
      · subst hj
        rw [if_pos rfl, if_pos (by omega)] at hu
        injection hu with hu
        subst hu
        rw [Array.getElem?_setIfInBounds_self_of_lt hjs]
      · rw [if_neg hj] at hu
        rw [Array.getElem?_setIfInBounds_ne hj]
        exact hrj j u hu
    have HW3 := Lib.hid hW3
    have Hrow := Lib.hid hrow
    clear hW3 hrow
    clear hrj hbits hjs hp1 hp2 hp3 hylt hyt hxy
    have Hxor := Lib.hid hxor
    clear hxor
    go_region
    rw [Hxor.out]
    have hg4 : w2.grownBy (W3.setCell ⟨w2.heap.size, 4 + q, none⟩ (.int .u8 (y.toNat : Int))).drew none := only_drew (only_new hg3 (Nat.le_refl _) _)
    have hh4 : (W3.setCell ⟨w2.heap.size, 4 + q, none⟩ (.int .u8 (y.toNat : Int))).drew.heap[w2.heap.size]? = some (.cells (row.setIfInBounds (4 + q) (.int .u8 (y.toNat : Int))) 5 (row.size, row.size + 1)) := by
      show (W3.setCell ⟨w2.heap.size, 4 + q, none⟩ (.int .u8 (y.toNat : Int))).heap[w2.heap.size]? = _
      simp [World.setCell, Array.getElem?_modify, hW3h]
    generalize (W3.setCell ⟨w2.heap.size, 4 + q, none⟩ (.int .u8 (y.toNat : Int))).drew = W4 at *
    have hl4 : (L.set (4 + q) y).length = 6 + b.size := by rw [List.length_set]; exact hLlen
    have hconv2 := run_convert_bytes_back (P := Tryd.prog) W4 44 9 5 ⟨w2.heap.size, 0, none⟩ cap (L.set (4 + q) y) Tryd.underlying44 Tryd.underlying5 Tryd.underlying9
      (fun j hj => by
        have e : (⟨w2.heap.size, 0, none⟩ : Addr).add j = ⟨w2.heap.size, j, none⟩ := by rw [add_off, Nat.zero_add]
        rw [e, cell_of_row W4 w2.heap.size j _ _ _ hh4]
        exact hset j _ (List.getElem?_eq_getElem hj))
    rw [hl4] at hconv2
    have hs4 : (⟨(L.set (4 + q) y).toArray⟩ : ByteArray).size ≤ maxLen := by
      show (L.set (4 + q) y).toArray.size ≤ maxLen
      rw [List.size_toArray, hl4]; unfold maxLen; omega
    have hsF : (⟨L.toArray⟩ : ByteArray).size ≤ maxLen := by rw [hfs]; unfold maxLen; omega
    have hU1 := unframe_any ⟨(L.set (4 + q) y).toArray⟩ hs4 0 W4
    rw [hbad] at hU1
    have HU1 := Lib.hid hU1
    have hU2 := unframe_any ⟨L.toArray⟩ hsF 0 W4
    rw [show unframe ⟨L.toArray⟩ 0 = _ from hU] at hU2
    have HU2 := Lib.hid hU2
    clear hU1 hU2 hbad hset hh4
    generalize L.set (4 + q) y = L4 at *
    go_wp2_with fail
    refine HU1.out.mono ?_
    rintro e w' ⟨rfl, rfl⟩
    go_wp2_with fail
    refine HU2.out.mono ?_
    rintro e w' ⟨rfl, rfl⟩
    go_wp2_with fail
    go_ret
    exact ⟨rfl, only_trans hg2 hg4⟩
end
end Go.Proofs.YtklcpckjmncdkaaDoor
