/- THE WALKS of what lay's three closures do; of may, done, Gen, Add and Sync. -/
import Derived.Test.YtklcpckjmncdkaaGreatDoorJr
import Derived.Deep.RegionHeld3
import Derived.Deep.QuietTactic
import Derived.BigQuiet
namespace Go.Proofs.YtklcpckjmncdkaaGreatDoor
set_option maxRecDepth 100000
open Go.RowKit

section
variable {w : World} {g jb pj po pb : Nat} {D : Dk} {J : Jr} {n : Int}
set_option maxHeartbeats 1600000 in
theorem lay1_any (h : DiskAt w g D) (hj : JrAt w jb g J) (cj : w.cell? ⟨pj, 0, none⟩ = some (.pointer (some ⟨jb, 0, none⟩))) (co : w.cell? ⟨po, 0, none⟩ = some (.int .i64 n)) (hp : pj ≠ g) (ho : po ≠ g) :
    Calls Tryz.prog 78 #[.pointer (some ⟨pj, 0, none⟩), .pointer (some ⟨po, 0, none⟩)] w fun e w' => e = .returned (.int .u8 ((D.doClear n).1 : Nat)) ∧ DiskAt w' g (D.doClear n).2 ∧ w.grownBy w' (some g) := by
  have H := Lib.hid (wipe_file_any (h.grown (only_drew (only_refl w none))) n)
  have hjg := hj.ne h
  obtain ⟨cd, _, _, _⟩ := hj.cells
  clear hj h
  generalize D.doClear n = r at *
  go_enter Tryz.func78, Tryz.ntmps78
  go_wp2_with fail
  go_region_held3 (fun w' => w'.cell? ⟨pj, 0, none⟩ = some (.pointer (some ⟨jb, 0, none⟩)) ∧ w'.cell? ⟨po, 0, none⟩ = some (.int .i64 n) ∧ w'.cell? ⟨jb, 0, none⟩ = some (.pointer (some ⟨g, 0, none⟩))) (first | go_keep | assumption | exact ⟨by assumption, by assumption, by assumption⟩)
    (first
      | (go_at_call 59; refine H.out.mono ?_; rintro e w1 ⟨rfl, hd1, ho1⟩; have k1 := ho1.cell cj (by simpa using hp); have k2 := ho1.cell co (by simpa using ho); have k3 := ho1.cell cd (by simpa using hjg)))
  go_wp2_with fail
  go_ret
  exact ⟨rfl, hd1, only_trans (only_drew (only_refl w _)) ho1⟩
set_option maxHeartbeats 1600000 in
theorem lay3_any (h : DiskAt w g D) (hj : JrAt w jb g J) (cj : w.cell? ⟨pj, 0, none⟩ = some (.pointer (some ⟨jb, 0, none⟩))) (co : w.cell? ⟨po, 0, none⟩ = some (.int .i64 n)) (hp : pj ≠ g) (ho : po ≠ g) :
    Calls Tryz.prog 81 #[.pointer (some ⟨pj, 0, none⟩), .pointer (some ⟨po, 0, none⟩)] w fun e w' => e = .returned (.int .u8 ((D.doSync n).1 : Nat)) ∧ DiskAt w' g (D.doSync n).2 ∧ w.grownBy w' (some g) := by
  have H := Lib.hid (sync_any (h.grown (only_drew (only_refl w none))) n)
  have hjg := hj.ne h
  obtain ⟨cd, _, _, _⟩ := hj.cells
  clear hj h
  generalize D.doSync n = r at *
  go_enter Tryz.func81, Tryz.ntmps81
  go_wp2_with fail
  go_region_held3 (fun w' => w'.cell? ⟨pj, 0, none⟩ = some (.pointer (some ⟨jb, 0, none⟩)) ∧ w'.cell? ⟨po, 0, none⟩ = some (.int .i64 n) ∧ w'.cell? ⟨jb, 0, none⟩ = some (.pointer (some ⟨g, 0, none⟩))) (first | go_keep | assumption | exact ⟨by assumption, by assumption, by assumption⟩)
    (first
      | (go_at_call 19; refine H.out.mono ?_; rintro e w1 ⟨rfl, hd1, ho1⟩; have k1 := ho1.cell cj (by simpa using hp); have k2 := ho1.cell co (by simpa using ho); have k3 := ho1.cell cd (by simpa using hjg)))
  go_wp2_with fail
  go_ret
  exact ⟨rfl, hd1, only_trans (only_drew (only_refl w _)) ho1⟩

set_option maxHeartbeats 3200000 in
theorem lay2_any {l : List UInt8} (h : DiskAt w g D) (hj : JrAt w jb g J) (cj : w.cell? ⟨pj, 0, none⟩ = some (.pointer (some ⟨jb, 0, none⟩))) (co : w.cell? ⟨po, 0, none⟩ = some (.int .i64 n)) (hp : pj ≠ g) (ho : po ≠ g)
    (hB : Lib.IsBuilderF 141 5 pb pb (Lib.byteCells l) w) (hl : l.length ≤ maxLen) (hpb : pj < pb) (hjb : jb < pb) (hgb : g < pb) (hob : ∃ cs, Blk w po 3 cs) :
    Calls Tryz.prog 79 #[.pointer (some ⟨pj, 0, none⟩), .pointer (some ⟨po, 0, none⟩), .pointer (some ⟨pb, 0, none⟩)] w fun e w' => e = .returned (.int .u8 ((D.append n ⟨l.toArray⟩).1 : Nat)) ∧ DiskAt w' g (D.append n ⟨l.toArray⟩).2 ∧ Lk (some g) pb w w' := by
  obtain ⟨bc, hbk⟩ := isB_blk hB
  obtain ⟨oc, hok⟩ := hob
  have hpo : po ≠ pb := Blk.ne_ hok hbk (by decide)
  have hjg := hj.ne h
  obtain ⟨cd, _, _, _⟩ := hj.cells
  have hS := Lib.hid (bstr_any pb pb l w.drew (isB_kept hB (fun _ _ _ => rfl)) (Nat.le_of_lt hbk.lt))
  have hA := fun (W : World) (hd : DiskAt W g D) => append_any hd n ⟨l.toArray⟩ (by show l.toArray.size ≤ maxLen; simpa using hl)
  have hpl := Array.getElem?_eq_getElem (xs := w.heap) (i := pj) (by have := hbk.lt; omega)
  have hD : DiskAt w.drew g D := h.grown (only_drew (only_refl w none))
  have hjB := hj.blk
  clear hj h
  generalize D.append n ⟨l.toArray⟩ = r at *
  have HA := Lib.hid hA
  clear hA
  go_enter Tryz.func79, Tryz.ntmps79
  go_wp2_with fail
  go_region_held3 (fun w' => w'.cell? ⟨pj, 0, none⟩ = some (.pointer (some ⟨jb, 0, none⟩)) ∧ w'.cell? ⟨po, 0, none⟩ = some (.int .i64 n) ∧ w'.cell? ⟨jb, 0, none⟩ = some (.pointer (some ⟨g, 0, none⟩))) (first | go_keep | assumption | exact ⟨by assumption, by assumption, by assumption⟩)
    (first
      | (go_at_call 80; refine hS.out.mono ?_; rintro e w1 ⟨rfl, hb1, hw1, hk1⟩; have k0 := Lk.of_builder hw1 hk1; have k1 := (k0.cell hpl (by simp) (by omega) (.inl hpb) 0).trans cj; have k2 := (k0.blk hok (by simp) hpo (by decide)).cell 0 |>.trans ((hok.cell 0).symm.trans co); have k3 : w1.cell? ⟨jb, 0, none⟩ = some (.pointer (some ⟨g, 0, none⟩)) := (k0.blk hjB (by simp) (by omega) (by decide)).cell 0)
      | (go_at_call 17; refine (HA.out w1 (hD.lk k0 hbk (by decide) (by omega))).mono ?_; rintro e w2 ⟨rfl, hd2, ho2⟩; have m1 := ho2.cell k1 (by simpa using hp); have m2 := ho2.cell k2 (by simpa using ho); have m3 := ho2.cell k3 (by simpa using hjg)))
  go_wp2_with fail
  go_ret
  exact ⟨rfl, hd2, (Lk.weak (Lk.of_grown (only_drew (only_refl w none)) pb) _).trans ((k0.weak _).trans (Lk.of_grown ho2 pb))⟩
end
end Go.Proofs.YtklcpckjmncdkaaGreatDoor
