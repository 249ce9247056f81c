/- THE WALKS of fault.Of, (*Fault).Is, errors.Is and fault.Has at a fault. -/
import Derived.Test.YtklcpckjmncdkaaGreatDoorFault
import Derived.BigQuiet
import Derived.LaidEql
namespace Go.Proofs.YtklcpckjmncdkaaGreatDoor
set_option maxRecDepth 100000
open Go.RowKit Go.Extern.Stop Go.Stop Go.Extern

theorem Is.typeOf (v : Value) (w : World) : (Extern.ReflectliteType.typeOf #[.iface 153 v]).run Tryz.prog w = .ok (.iface 181 (.agg #[.pointer (some ⟨3, 153, none⟩)])) w := by kernel_rfl
theorem Is.comparable (w : World) : ((Extern.ReflectliteType.method fun t => do Rtype.noPackHeld "Comparable" t; (fun a => Value.bool a.comparable) <$> typeInfo t) #[.agg #[.pointer (some ⟨3, 153, none⟩)]]).run Tryz.prog w = .ok (.bool true) w := by kernel_rfl
theorem Is.methodComparable (v : Value) (w : World) : (Go.method 258 181 v "Comparable").run Tryz.prog w = .ok (197, v) w := by kernel_rfl
theorem Is.methodIs (v : Value) (w : World) : (Go.method 258 153 v "Is").run Tryz.prog w = .ok (193, v) w := by kernel_rfl
theorem Is.hasIs (v : Value) (w : World) : (Instr.typeAssert (.iface 153 v) 34 183 true).run Tryz.prog w = .ok (.tuple #[.iface 153 v, .bool true]) w := run_typeAssert_hasB Tryz.underlying183 (by kernel_rfl) v 34 w
theorem Is.isFault (v : Value) (w : World) : (Instr.typeAssert (.iface 153 v) 34 153 true).run Tryz.prog w = .ok (.tuple #[v, .bool true]) w := by kernel_rfl
theorem Is.comp : (Tryz.prog.info? 153).map (·.comparable) = some true := by kernel_rfl
theorem Is.size : (Tryz.prog.info? 155).map (·.size) = some 3 := by kernel_rfl
section
variable {w : World}
theorem of_any (c : Nat) : Calls Tryz.prog 43 #[.int .u8 (c : Int)] w fun e w' => e = .returned (errV w.heap.size) ∧ Blk w' w.heap.size 155 #[.int .u8 (c : Int), .string ⟨#[]⟩, .nilIface] ∧ w.grownBy w' none := by
  go_enter Tryz.func43, Tryz.ntmps43
  go_wp2_with fail
  go_ret
  exact ⟨rfl, Blk.new _ _ _, only_alloc (only_refl _ _) _⟩
set_option maxHeartbeats 1600000 in
theorem fis_any {p q c : Nat} (hf : Faulty w p c) (hq : Blk w q 155 #[.int .u8 (c : Int), .string ⟨#[]⟩, .nilIface]) : Calls Tryz.prog 193 #[.pointer (some ⟨p, 0, none⟩), errV q] w fun e w' => e = .returned (.bool true) ∧ w.grownBy w' none := by
  obtain ⟨wh, ca, hp⟩ := hf
  have p0 := hp.cell 0
  have q0 := hq.cell 0
  have q1 := hq.cell 1
  have q2 := hq.cell 2
  have hI := Is.isFault
  unfold errV
  go_enter Tryz.func193, Tryz.ntmps193
  go_wp2_with fail
  go_quiet (fail)
  go_wp2_with fail
  go_ret
  exact ⟨rfl, only_drewN (only_refl _ _) _⟩
set_option maxHeartbeats 3200000 in
theorem errsIs {p q c : Nat} (hf : Faulty w p c) (hq : Blk w q 155 #[.int .u8 (c : Int), .string ⟨#[]⟩, .nilIface]) (hpq : p ≠ q) : Calls Tryz.prog 84 #[errV p, errV q, .bool true] w fun e w' => e = .returned (.bool true) ∧ w.grownBy w' none := by
  have HI := Lib.hid (fis_any hf hq)
  have hI := Is.hasIs
  have hM := Is.methodIs
  obtain ⟨i, hi, hcmp⟩ := Option.map_eq_some_iff.1 Is.comp
  obtain ⟨j, hj, hjs⟩ := Option.map_eq_some_iff.1 Is.size
  obtain ⟨wh, ca, hp⟩ := hf
  have heq := run_eql_iface_ptr_other (P := Tryz.prog) w Tryz.underlying34 Tryz.underlying153 hi hcmp hj (by rw [hjs]; decide) (show (⟨p, 0, none⟩ : Addr) ≠ ⟨q, 0, none⟩ from fun h => hpq (congrArg Addr.block h)) hp hq
  unfold errV at *
  go_enter Tryz.func84, Tryz.ntmps84
  go_wp2_with fail
  refine wp_loop_rounds 1 ?_
  rw [rounds_succ]
  go_wp2_with (go_at_call 193; refine HI.out.mono ?_; rintro e w' ⟨rfl, hk⟩)
  go_ret
  exact ⟨rfl, hk⟩
set_option maxHeartbeats 3200000 in
theorem errsIs_any {p q c : Nat} (hf : Faulty w p c) (hq : Blk w q 155 #[.int .u8 (c : Int), .string ⟨#[]⟩, .nilIface]) (hpq : p ≠ q) : Calls Tryz.prog 42 #[errV p, errV q] w fun e w' => e = .returned (.bool true) ∧ w.grownBy w' none := by
  have HI := Lib.hid (errsIs hf hq hpq)
  have h8 := @run_callFunc_extern Tryz.prog 83 _ ReflectliteType.typeOf Tryz.func83 (by kernel_rfl) (by kernel_rfl) (by kernel_rfl) (by kernel_rfl)
  have h32 := @run_callFunc_extern Tryz.prog 197 _ (Extern.ReflectliteType.method fun t => do Rtype.noPackHeld "Comparable" t; pure (.bool (← typeInfo t).comparable)) Tryz.func197 (by kernel_rfl) (by kernel_rfl) (by kernel_rfl) (by kernel_rfl)
  have tT := Is.typeOf
  have cT := Is.comparable
  have mR := Is.methodComparable
  unfold errV at *
  go_enter Tryz.func42, Tryz.ntmps42
  go_wp2_with (go_at_call 84; refine HI.out.mono ?_; rintro e w' ⟨rfl, hk⟩)
  go_ret
  exact ⟨rfl, hk⟩
theorem has_any {v : Value} {c : Nat} (hc : c ≠ 0) (h : IsErr w v c) : Calls Tryz.prog 15 #[v, .int .u8 (c : Int)] w fun e w' => e = .returned (.bool true) ∧ w.grownBy w' none := by
  rcases h with ⟨h, _⟩ | ⟨_, p, rfl, hf⟩
  · exact absurd h hc
  have hlt : p < w.heap.size := by obtain ⟨_, _, hp⟩ := hf; exact hp.lt
  go_enter Tryz.func15, Tryz.ntmps15
  go_wp2_with fail
  refine (of_any c).mono ?_
  rintro e w1 ⟨rfl, hb, hg⟩
  go_wp2_with fail
  refine (errsIs_any (hf.grown hg (by simp)) hb (by omega)).mono ?_
  rintro e w2 ⟨rfl, hk⟩
  go_wp2_with fail
  go_ret
  exact ⟨rfl, only_trans hg hk⟩
end
end Go.Proofs.YtklcpckjmncdkaaGreatDoor
