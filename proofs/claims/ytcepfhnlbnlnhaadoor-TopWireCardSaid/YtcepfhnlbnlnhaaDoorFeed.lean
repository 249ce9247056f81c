/- THE WALK of the stream's Feed at whole packets and a beginning of the next. -/
import Derived.Test.YtcepfhnlbnlnhaaDoorPRow
import Derived.Deep.RegionHeld3
import Derived.Great.BuildSlice
namespace Go.Proofs.YtcepfhnlbnlnhaaDoor
set_option maxRecDepth 100000
open Go.RowKit

theorem take_snoc {α : Type} {l : List α} {i : Nat} {a : α} (h : l[i]? = some a) : l.take (i + 1) = l.take i ++ [a] := by
  obtain ⟨h', rfl⟩ := List.getElem?_eq_some_iff.1 h
  exact List.take_succ_eq_append_getElem h'
theorem wpList_buildSliceTo {P : Program} {ops : Array Oper} {rest : List Oper} {o : Oper} {a : Act} {w : World} {Q : Exit → Act → World → Prop} (N : Nat) (hN : w.heap.size = N) (hg : o.guard = none) (t e : TypeId) (len : Nat) (parts : Array (Nat × Operand)) (ho : o.op = .buildSlice t len parts)
    (cells : Array Value) (ie : TypeInfo) (z : Value)
    (hu : P.underlying t = some (.slice e)) (hie : P.info? e = some ie) (hz : ie.zero = some z) (hsmall : ¬ len * ie.size > 2 ^ 24) (hpos : ¬ len * ie.size = 0)
    (hf : Instr.fill (fun i => some (i * ie.size, ie.size)) ((Array.range (len * ie.size)).map (z.cells[· % z.cells.size]!)) (parts.map fun (i, x) => (i, a.eval x)).toList = some cells)
    (h : wpList P ops Q rest (a.put o.dst (.slice (some ⟨N, 0, none⟩) len len)) (w.alloc (.cells cells e))) : wpList P ops Q (o :: rest) a w := by
  subst hN
  exact wpList_buildSlice hg t e len parts ho cells ie z hu hie hz hsmall hpos hf h
theorem fill_pk (p : Pk) (v : Value) : Instr.fill (fun i => some (i * 26, 26)) ((Array.range (1 * 26)).map ((Value.agg (ackZ 0 0)).cells[· % (Value.agg (ackZ 0 0)).cells.size]!)) [(0, .agg (p.cells v))] = some (p.cells v) := by
  cases p <;> kernel_rfl
theorem TRow.at_ {w : World} {B : Nat} {v : Value} {l : List ByteArray} (h : TRow w B v l) : ∃ A c, v = .slice A l.length c ∧ (l.length ≠ 0 → ∃ g, A = some ⟨g, 0, none⟩) := by
  rcases h.2 with ⟨rfl, hn⟩ | ⟨g, cap, cur, rfl, _⟩
  · exact ⟨none, 0, by rw [hn], fun h => absurd hn h⟩
  · exact ⟨_, _, rfl, fun _ => ⟨g, rfl⟩⟩
theorem TRow.cell {w : World} {B g c n : Nat} {l : List ByteArray} (h : TRow w B (.slice (some ⟨g, 0, none⟩) n c) l) {i : Nat} (hi : i < l.length) : w.cell? ⟨g, i, none⟩ = some (.string l[i]) := by
  have := World.ownsRow.cells h (g := g) rfl i (.string l[i]) (by rw [List.getElem?_map, List.getElem?_eq_getElem hi]; rfl)
  rw [Addr.add_lit] at this
  simpa using this
theorem TRow.kept {w w' : World} {B : Nat} {v : Value} {l : List ByteArray} (h : TRow w B v l) (hg : w.grownBy w' none) : TRow w' B v l := World.ownsRow.kept h hg (by cases v.ownBlock <;> simp)
section
variable {w : World}
set_option maxHeartbeats 6400000 in
theorem feed_any {rg : Nat} (L S : ByteArray) (r : List UInt8) (ps : List Pk) (most : Nat) (hm : 1000 ≤ most) (hm2 : most ≤ 1000000) (hR : Blk w rg 65 #[.int .i64 (most : Int), .string L, .int .u8 0]) (hT : U8 w)
    (hS : (L ++ S).data.toList = encs ps ++ r) (hrr : r = [] ∨ ∃ p : Pk, p.Ok ∧ Part r p) (hok : ∀ p ∈ ps, p.Ok) (hl : ps.length ≤ 1000) (hs : L.size + S.size ≤ 100000) :
    Calls Tryd.prog 8 #[.pointer (some ⟨rg, 0, none⟩), .string S] w fun e w' => ∃ v, e = .returned (.tuple #[v, .int .u8 0]) ∧ (ps = [] → v = .slice none 0 0) ∧ PRow w' w.heap.size v ps ∧ Blk w' rg 65 #[.int .i64 (most : Int), .string ⟨r.toArray⟩, .int .u8 0] ∧ w.grownBy w' (some rg) := by
  have r0 := hR.cell 0
  have r1 := hR.cell 1
  have r2 := hR.cell 2
  have hrl := hR.lt
  have hbig : ¬ 9223372036854775807 < L.size + S.size := by omega
  have HSplit : ∀ W : World, Calls Tryd.prog 19 #[.string (L ++ S), .int .i64 (most : Int)] W fun e w' => ∃ v, e = .returned (.tuple #[v, .string ⟨r.toArray⟩, .int .u8 0]) ∧ TRow w' W.heap.size v (ps.map encB) ∧ W.grownBy w' none := fun W => split_any (w := W) (L ++ S) (by rw [ByteArray.size_append]; exact hs) most hm hm2 ps hok r hrr hS hl
  obtain ⟨ip, hip, hq0, hq1, hq2⟩ := info_parts Tryd.infoPack
  have HSp := Lib.hid HSplit
  have HTt := Lib.hid hT
  have HRr := Lib.hid hR
  clear HSplit hT hS hrr hR
  go_enter Tryd.func8, Tryd.ntmps8
  go_wp2_with fail
  go_region_held3 (fun w' => w'.cell? ⟨rg, 0, none⟩ = some (.int .i64 (most : Int)) ∧ w'.cell? ⟨rg, 1, none⟩ = some (.string L)) (first | go_keep | assumption | exact ⟨by assumption, by assumption⟩)
    (first
      | (go_at_call 19; refine (HSp.out _).mono ?_; rintro e w3 ⟨lv, rfl, hsc, hsg⟩; have k0 : w3.cell? ⟨rg, 0, none⟩ = some (.int .i64 (most : Int)) := hsg.cell r0 (by simp); have k1 : w3.cell? ⟨rg, 1, none⟩ = some (.string L) := hsg.cell r1 (by simp)))
  obtain ⟨A, c6, rfl, hA⟩ := hsc.at_
  rw [List.length_map] at hA ⊢
  have hgs := hsg
  go_wp2_with fail
  go_loopw [8, 9, 44] (fun cv ov iv wr => ∃ i : Nat, cv = .int .u8 0 ∧ i ≤ ps.length ∧ iv = .int .i64 (i : Int) ∧ (i = 0 → ov = .slice none 0 0) ∧ PRow wr w3.heap.size ov (ps.take i) ∧ w3.grownBy wr none) (fun _ _ iv _ => ps.length - (intOf iv).toNat)
  case atStart => exact ⟨0, rfl, Nat.zero_le _, rfl, fun _ => rfl, PRow.nil _ _, only_refl _ _⟩
  case round =>
    obtain ⟨i, rfl, hi, rfl, hnil, hpr, hg⟩ := hrel
    have HNil := Lib.hid hnil
    clear hnil
    by_cases hlt : i < ps.length
    · have i1 : (i : Int) < (ps.length : Int) := by omega
      obtain ⟨g6, rfl⟩ := hA (by omega)
      have hc := (hsc.kept hg).cell (i := i) (by rw [List.length_map]; exact hlt)
      rw [List.getElem_map] at hc
      have hgw : w.grownBy wr none := only_trans (only_trans (only_drew (only_refl w none)) hgs) hg
      have HG := Lib.hid (get_any (w := wr) ps[i] (hok _ (List.getElem_mem hlt)) (encB ps[i]) (by simp [encB]) (HTt.out.kept hgw))
      have HPR := Lib.hid hpr
      have htk : ps.take (i + 1) = ps.take i ++ [ps[i]] := take_snoc (List.getElem?_eq_getElem hlt)
      have HTK := Lib.hid htk
      clear htk hpr
      generalize hbv : encB ps[i] = bv at *
      generalize hpv : ps[i] = pv at *
      go_wp2_with fail
      refine HG.out.mono ?_
      rintro e w4 ⟨A4, l4, c4, rfl, hsub, hk4⟩
      have hone := cells_one pv A4 l4 c4
      have hcsz := cells_size pv (.slice A4 l4 c4)
      have hfill := fill_pk pv (.slice A4 l4 c4)
      generalize hcs : pv.cells (.slice A4 l4 c4) = cs at *
      have HOne := Lib.hid hone
      have HA := Lib.hid (Blk.new w4 37 (ackZ 0 0))
      have HB := Lib.hid (HA.out.rowed cs)
      have hS5 : ((w4.alloc (.cells (ackZ 0 0) 37)).setRow w4.heap.size cs).heap.size = w4.heap.size + 1 := by simp [World.setRow]
      have hN := Blk.new ((w4.alloc (.cells (ackZ 0 0) 37)).setRow w4.heap.size cs) 37 cs
      rw [hS5] at hN
      have hS6 : (((w4.alloc (.cells (ackZ 0 0) 37)).setRow w4.heap.size cs).alloc (.cells cs 37)).heap.size = w4.heap.size + 2 := by rw [show ∀ (W : World) o, (W.alloc o).heap.size = W.heap.size + 1 from fun _ _ => by simp, hS5]
      have hg6 : w4.grownBy (((w4.alloc (.cells (ackZ 0 0) 37)).setRow w4.heap.size cs).alloc (.cells cs 37)) none := only_alloc (only_row (only_alloc (only_refl w4 none) _) (Nat.le_refl _) _) _
      have HN := Lib.hid (row_news hN)
      have HO := Lib.hid (one_mem hone)
      have HC := Lib.hid hcsz
      have HF := Lib.hid hfill
      clear hfill
      obtain ⟨vs, hvs⟩ := HPR.out
      have hrow6 := (World.ownsRow.kept (World.ownsRow.kept hvs.2.1 hk4 (by cases u9.ownBlock <;> simp)) hg6 (by cases u9.ownBlock <;> simp))
      have hlen : (ps.take i).length = i := by rw [List.length_take]; omega
      rw [hlen] at hrow6
      have HR6 := Lib.hid hrow6
      have hinfo : (Tryd.prog.info? 37).map (·.size) = some cs.size := by rw [hcsz]; kernel_rfl
      have HI := Lib.hid hinfo
      have hws : w3.heap.size ≤ w4.heap.size := Nat.le_trans hg.size hk4.size
      have hgg6 : w3.grownBy (((w4.alloc (.cells (ackZ 0 0) 37)).setRow w4.heap.size cs).alloc (.cells cs 37)) none := only_trans (only_trans hg hk4) hg6
      have HCs := Lib.hid hcs
      clear hone hcsz hN hrow6 hinfo hbv hpv hcs
      go_wp2_with (first
        | (refine wpList_load_row (by rfl) 37 _ (by rfl) w4.heap.size (by rfl) 37 _ (0, 0) _ HB.out Tryd.underlying37 (by rfl) HI.out ?_)
        | (refine wpList_store_row (by rfl) 37 _ _ (by rfl) w4.heap.size cs (by rfl) (by rfl) 37 _ HA.out HI.out (by rw [HC.out]; rfl) HOne.out ?_)
        | (refine wpList_buildSliceTo (w4.heap.size + 1) hS5 (by rfl) 25 37 1 _ (by rfl) cs ip _ Tryd.underlying25 hip hq0 (by rw [hq1]; decide) (by rw [hq1]; decide) (by rw [hq1, Array.toList_map]; exact HF.out) ?_)
        | (at_builtin; refine wpList_append_lies _ (by rfl) (.tmp 56) (.tmp 58) 25 (by rfl) w3.heap.size 37 ip _ 26 328 Tryd.underlying25 hip hq0 hq1 hq2 (by rfl) (by decide) u9 i _ (by rfl) HR6.out ⟨w4.heap.size + 1, 0, none⟩ 1 1 cs.toList (by rfl) (by rw [Array.length_toList, HC.out]) HN.out HO.out (by omega) (by unfold maxLen; omega) (by omega) (Nat.le_trans (show w3.heap.size ≤ w4.heap.size + 2 by omega) (Nat.le_of_eq hS6.symm)) (w4.heap.size + 2) hS6 ?_; intro g1 cap w7 hown1 hg1 hat1 hlt1))
      have hj := hvs.join (w6 := ((w4.alloc (.cells (ackZ 0 0) 37)).setRow w4.heap.size cs).alloc (.cells cs 37)) (w7 := w7) (B' := wr.heap.size) (qs := [pv]) (us := [.slice A4 l4 c4]) (g1 := g1) (cap := cap) (n := w4.heap.size + 2) (only_trans hk4 hg6) rfl (fun k p sv hp hv => by
        cases k with
        | zero =>
          obtain rfl : pv = p := by simpa using hp
          obtain rfl : Value.slice A4 l4 c4 = sv := by simpa using hv
          exact ⟨⟨_, _, _, rfl⟩, hsub.grown hg6⟩
        | succ k => simp at hp) (Nat.le_refl _) hg.size (by rw [hlen, rowsOf_one, HCs.out]; exact hown1) hg1 hat1 (Nat.le_of_eq hS6)
      rw [hlen] at hj
      refine ⟨⟨i + 1, rfl, by omega, by go_num, fun h => by omega, ?_, ?_⟩, by simp [intOf]; omega⟩
      · rw [HTK.out]
        exact ⟨_, hj⟩
      · cases hob : u9.ownBlock with
        | none => rw [hob] at hg1; exact only_trans hgg6 hg1
        | some g => rw [hob] at hg1; exact grown_own hgg6 hg1 (hvs.own hob).1
    · obtain rfl : i = ps.length := by omega
      have i1 : ¬ (ps.length : Int) < (ps.length : Int) := by omega
      rw [List.take_length] at hpr
      have hgw : w.grownBy wr none := only_trans (only_trans (only_drew (only_refl w none)) hgs) hg
      have hr7 := HRr.out.grown hgw (by simp)
      have d1 := hr7.cell 1
      have e1 := hr7.frozen 1
      have d2 := hr7.cell 2
      have e2 := hr7.frozen 2
      have hgP := only_put (only_put (only_weak hgw rg) 1 (.string ⟨r.toArray⟩)) 2 (.int .u8 0)
      have hbP := (hr7.put 1 (.string ⟨r.toArray⟩)).put 2 (.int .u8 0)
      have hB3 : w.heap.size ≤ w3.heap.size := hgs.size
      have hpk : PRow ((wr.setCell ⟨rg, 1, none⟩ (.string ⟨r.toArray⟩)).setCell ⟨rg, 2, none⟩ (.int .u8 0)) w.heap.size u9 ps := (hpr.keep (only_put (only_put (only_refl wr (some rg)) 1 (.string ⟨r.toArray⟩)) 2 (.int .u8 0)) (by omega)).mono hB3
      have HgP := Lib.hid hgP
      have HbP := Lib.hid hbP
      have Hpk := Lib.hid hpk
      clear hgP hbP hpk hpr hr7
      go_wp2_with fail
      go_ret2
      exact ⟨u9, rfl, fun h => HNil.out (by rw [h]; rfl), Hpk.out, HbP.out, HgP.out⟩
end
end Go.Proofs.YtcepfhnlbnlnhaaDoor
