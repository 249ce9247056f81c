/- THE WALKS of may, done, Gen, Add, Sync and Compact. -/
import Derived.Test.YtklcpckjmncdkaaGreatDoorLayM
namespace Go.Proofs.YtklcpckjmncdkaaGreatDoor
set_option maxRecDepth 100000
open Go.RowKit

def jadd (D : Dk) (J : Jr) (b : ByteArray) : Nat × Dk × Jr :=
  if J.broken = true then (242, D, J)
  else if (frameR (markR ++ b)).2 ≠ 0 then ((frameR (markR ++ b)).2, D, J)
  else ((D.append J.file (frameR (markR ++ b)).1).1, (D.append J.file (frameR (markR ++ b)).1).2, { J with broken := J.broken || decide ((D.append J.file (frameR (markR ++ b)).1).1 ≠ 0) })
def jsync (D : Dk) (J : Jr) : Nat × Dk × Jr :=
  if J.broken = true then (242, D, J) else ((D.doSync J.file).1, (D.doSync J.file).2, { J with broken := J.broken || decide ((D.doSync J.file).1 ≠ 0) })
def jcompact (D : Dk) (J : Jr) (s : ByteArray) : Nat × Dk × Jr := if J.broken = true then (242, D, J) else jlay D J s []

section
variable {w : World} {g jb : Nat} {D : Dk} {J : Jr}
theorem lay_any (hH : Hand w) (hg0 : 0 < g) (hj0 : 0 < jb) (h : DiskAt w g D) (hj : JrAt w jb g J) (s : ByteArray) (hs : s.size ≤ 100000000000) (v : Value) (recs : List ByteArray) (hv : StrsAt w 0 v recs) (hn : recs.length ≤ 16777216)
    (hr : ∀ r ∈ recs, r.size ≤ 100000000000) :
    Calls Tryz.prog 38 #[.pointer (some ⟨jb, 0, none⟩), .string s, v] w (IsLay (jlay D J s recs) g jb w) := by
  by_cases hg : 2147483647 ≤ J.gen
  · exact lay_full hH h hj s v recs hg
  · exact lay_main hH hg0 hj0 h hj s hs v recs hv hn hr (by omega)
set_option maxHeartbeats 800000 in
theorem may_nil (hH : Hand w) : Calls Tryz.prog 39 #[.pointer none] w fun e w' => ∃ v, e = .returned v ∧ IsErr w' v 128 ∧ w.grownBy w' none := by
  have hF : ∀ W, Hand W → Calls Tryz.prog 35 #[.string ⟨#[110, 105, 108]⟩, .int .u8 128] W fun e w' => ∃ v, e = .returned v ∧ IsErr w' v 128 ∧ W.grownBy w' none := fun W hW => failed_any (c := 128) ⟨#[110, 105, 108]⟩ hW
  have HF := Lib.hid hF
  clear hF
  go_enter Tryz.func39, Tryz.ntmps39
  go_wp2_with fail
  refine (HF.out _ hH).mono ?_
  rintro e w1 ⟨v1, rfl, he, hg1⟩
  go_wp2_with fail
  go_ret
  exact ⟨v1, rfl, he, hg1⟩
set_option maxHeartbeats 800000 in
theorem may_any (hH : Hand w) (hj : JrAt w jb g J) : Calls Tryz.prog 39 #[.pointer (some ⟨jb, 0, none⟩)] w fun e w' => ∃ v, e = .returned v ∧ IsErr w' v (if J.broken = true then 242 else 0) ∧ w.grownBy w' none := by
  obtain ⟨c0, c1, c2, c3⟩ := hj.cells
  cases hb : J.broken with
  | true =>
    rw [hb] at c3
    have hF : ∀ W, Hand W → Calls Tryz.prog 35 #[.string ⟨#[98, 114, 111, 107, 101, 110]⟩, .int .u8 242] W fun e w' => ∃ v, e = .returned v ∧ IsErr w' v 242 ∧ W.grownBy w' none := fun W hW => failed_any (c := 242) ⟨#[98, 114, 111, 107, 101, 110]⟩ hW
    have HF := Lib.hid hF
    clear hF
    go_enter Tryz.func39, Tryz.ntmps39
    go_wp2_with fail
    refine (HF.out _ hH).mono ?_
    rintro e w1 ⟨v1, rfl, he, hg1⟩
    go_wp2_with fail
    go_ret
    exact ⟨v1, rfl, he, hg1⟩
  | false =>
    rw [hb] at c3
    go_enter Tryz.func39, Tryz.ntmps39
    go_wp2_with fail
    go_ret
    exact ⟨.nilIface, rfl, .inl ⟨by simp, rfl⟩, only_refl _ _⟩
set_option maxHeartbeats 1600000 in
theorem done_any (hH : Hand w) (hj0 : 0 < jb) (hj : JrAt w jb g J) (c : Nat) : Calls Tryz.prog 41 #[.pointer (some ⟨jb, 0, none⟩), .int .u8 (c : Int)] w fun e w' =>
    ∃ v, e = .returned v ∧ IsErr w' v c ∧ JrAt w' jb g { J with broken := J.broken || decide (c ≠ 0) } ∧ w.grownBy w' (some jb) := by
  obtain ⟨c0, c1, c2, c3⟩ := hj.cells
  have cf := fun i => hj.blk.frozen i
  have hjl := hj.blk.lt
  have hz : ∀ b : Bool, JrAt (w.setCell ⟨jb, 3, none⟩ (.bool b)) jb g { J with broken := b } := fun b => ⟨hj.blk.put 3 _, hj.file, hj.gen⟩
  have hHz : ∀ b : Bool, Hand (w.setCell ⟨jb, 3, none⟩ (.bool b)) := fun b => hH.grown (only_put (only_refl _ _) _ _) (by simp; omega)
  have hgz : ∀ b : Bool, w.grownBy (w.setCell ⟨jb, 3, none⟩ (.bool b)) (some jb) := fun b => only_put (only_refl _ _) _ _
  have hF := Lib.hid (fun (W : World) (hW : Hand W) => failed_any (c := c) ⟨#[100, 105, 115, 107]⟩ hW)
  have fin : ∀ (b : Bool) (w2 : World) (v : Value), b = (J.broken || decide (c ≠ 0)) → IsErr w2 v c → (w.setCell ⟨jb, 3, none⟩ (.bool b)).grownBy w2 none → ∃ u, Ending.returned v = .returned u ∧ IsErr w2 u c ∧ JrAt w2 jb g { J with broken := J.broken || decide (c ≠ 0) } ∧ w.grownBy w2 (some jb) := by
    rintro b w2 v rfl he hg2
    exact ⟨v, rfl, he, (hz _).grown hg2 (by simp), only_own (hgz _) hg2 (fun k e => by cases e)⟩
  clear hj hH
  cases hb : J.broken with
  | true =>
    rw [hb] at c3 fin
    have HZ := hHz true
    have Hfin := Lib.hid (fin true)
    clear hHz hz hgz fin
    go_enter Tryz.func41, Tryz.ntmps41
    go_wp2_with fail
    refine (hF.out _ HZ).mono ?_
    rintro e w2 ⟨v2, rfl, he, hg2⟩
    go_wp2_with fail
    go_ret
    exact Hfin.out w2 v2 (by simp) he hg2
  | false =>
    rw [hb] at c3 fin
    by_cases hc : c = 0
    · subst hc
      have HZ := hHz false
      have Hfin := Lib.hid (fin false)
      clear hHz hz hgz fin
      go_enter Tryz.func41, Tryz.ntmps41
      go_wp2_with fail
      refine (hF.out _ HZ).mono ?_
      rintro e w2 ⟨v2, rfl, he, hg2⟩
      go_wp2_with fail
      go_ret
      exact Hfin.out w2 v2 (by simp) he hg2
    · have hcb : ((c : Int) != 0) = true := by simp [hc]
      have HZ := hHz true
      have Hfin := Lib.hid (fin true)
      clear hHz hz hgz fin
      go_enter Tryz.func41, Tryz.ntmps41
      go_wp2_with fail
      refine (hF.out _ HZ).mono ?_
      rintro e w2 ⟨v2, rfl, he, hg2⟩
      go_wp2_with fail
      go_ret
      exact Hfin.out w2 v2 (by simp [hc]) he hg2
theorem gen_nil : Calls Tryz.prog 30 #[.pointer none] w fun e w' => e = .returned (.int .i64 0) ∧ w = w' := by
  go_enter Tryz.func30, Tryz.ntmps30
  go_wp2_with fail
  go_ret
  exact ⟨rfl, rfl⟩
theorem gen_any (hj : JrAt w jb g J) : Calls Tryz.prog 30 #[.pointer (some ⟨jb, 0, none⟩)] w fun e w' => e = .returned (.int .i64 (J.gen : Int)) ∧ w = w' := by
  obtain ⟨c0, c1, c2, c3⟩ := hj.cells
  go_enter Tryz.func30, Tryz.ntmps30
  go_wp2_with fail
  go_ret
  exact ⟨rfl, rfl⟩
end
end Go.Proofs.YtklcpckjmncdkaaGreatDoor
