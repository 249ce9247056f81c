/- THE LAST STEP OF EACH STATEMENT: a call that answers true and leaves all memory that was there as it was meets the row's post. -/
import Derived.Test.YtcepfhnlbnlnhaaGreatDoorRows
import Derived.WalkKit
import Derived.ProofKit
import Derived.Carry
namespace Go.Proofs.YtcepfhnlbnlnhaaGreatDoor
set_option maxRecDepth 100000
open Go.ChangeShapes Go.WideShapes Go.ChangeAt Go.RowKit

theorem Tryz.laidOut : laidOutB Tryz.prog = true := by kernel_rfl

section
variable {H : Type} {enc : TypeId × Value → H}

/-- All arguments read behind the call as before it. -/
theorem args_below {W W' : World} (hb : Below W.heap.size W W') : ∀ (ts : List TypeId) (vs : List Value) (ds : List (DataW H)) (ps : List MemPlace),
    (∀ t ∈ ts, Tryz.prog.readableRec t = true ∧ t < Tryz.prog.types.size) → (∀ x ∈ ps, x.block < W.heap.size) →
    DataW.TrodAll enc Tryz.prog W 0 (fun _ => true) true ts vs ds ps → DataW.TrodAll enc Tryz.prog W' 0 (fun b => decide (b < W.heap.size)) true ts vs ds ps
  | [], [], [], _, _, _, h => h
  | t :: ts, v :: vs, d :: ds, ps, hr, hlt, h => by
    obtain ⟨p, q, hp, hq, rfl⟩ := h
    exact ⟨p, q, Below.trod Tryz.laidOut (hr t (by simp)).1 (hr t (by simp)).2 hp hb (fun x hx => hlt x (by simp [hx])),
      args_below hb ts vs ds q (fun t' ht' => hr t' (by simp [ht'])) (fun x hx => hlt x (by simp [hx])) hq, rfl⟩
  | [], _ :: _, _, _, _, _, h => h.elim
  | [], [], _ :: _, _, _, _, h => h.elim
  | _ :: _, [], _, _, _, _, h => h.elim
  | _ :: _, _ :: _, [], _, _, _, h => h.elim

theorem law_post {f : Func} {s : ChangeSpec} {W W' : World} {args : Array Value} {ds gs : List (DataW H)} {before : List MemPlace} (hvars : s.vars = [])
    (hW : DataW.Whole enc Tryz.prog f.params.toList s.vars false W args.toList ds gs before) (hres : (s.fn H (ds ++ gs)).results = [.lit (.bool true)]) (hargs : (s.fn H (ds ++ gs)).args = ds)
    (hvs : (s.fn H (ds ++ gs)).vars = []) {t : TypeId} (hrt : f.resultTypes = #[t]) (ht : Tryz.prog.underlying t = some .bool)
    (hr : ∀ t ∈ f.params.toList, Tryz.prog.readableRec t = true ∧ t < Tryz.prog.types.size) (hb : Below W.heap.size W W') :
    s.post enc Tryz.prog f false true false false W args (.bool true) W' := by
  have hlt := hW.lt
  obtain ⟨p, q, hA, hV, rfl, hz⟩ := id hW
  have hV' := hV
  rw [hvars] at hV'
  obtain ⟨rfl, rfl⟩ := trodVars_none hV'
  refine ⟨ds, [], p ++ [], [], p, [], hW, ?_, ?_, ?_, ?_, fun h => by cases h⟩
  · rw [hres, hrt]
    exact ⟨[], [], shut_bool ht true, rfl, rfl⟩
  · rw [hargs]
    exact args_below hb _ _ _ _ hr (fun x hx => hlt x (by simp [hx])) hA
  · rw [hvs, hvars]; rfl
  · exact hb.frame _
end
end Go.Proofs.YtcepfhnlbnlnhaaGreatDoor
