/- A map[string]int that counts, its keys of one byte. -/
import Derived.Test.YtcepfhnlbnlnhaaGreatDoorFlows
import Derived.Test.YtcepfhnlbnlnhaaGreatDoorDelLaw
import Derived.StringKeys
namespace Go.Proofs.YtcepfhnlbnlnhaaGreatDoor
set_option maxRecDepth 100000
open Go.RowKit Go.Maps

def keyB (i : Nat) : ByteArray := ⟨#[UInt8.ofNat i]⟩
def keyL (i : Nat) : Lit := .string [UInt8.ofNat i]
theorem keyL_ne {i j : Nat} (hi : i < 256) (hj : j < 256) (h : i ≠ j) : keyL i ≠ keyL j := by
  intro e
  unfold keyL at e
  injection e with e
  have e2 : UInt8.ofNat i = UInt8.ofNat j := by simpa using e
  have := congrArg UInt8.toNat e2
  rw [UInt8.toNat_ofNat', UInt8.toNat_ofNat'] at this
  omega
theorem keyStr : Keyed Tryz.prog 9 := string_keyed Tryz.underlying9
theorem keyOfB (i : Nat) : keyOf Tryz.prog 9 (.string (keyB i)) = some (keyL i) := Go.WideMaps.keyOf_string_mk Tryz.underlying9 (by unfold keyB maxLen; simp [ByteArray.size])
theorem zeroInt (w : World) : (zeroValue 3).run Tryz.prog w = .ok (.int .i64 0) w := by kernel_rfl
def GotAt (w : World) (b : Nat) (K : List Nat) (g : Nat → Nat) : Prop :=
  ∃ D : DataW Unit, w.ownsMap Tryz.prog 9 (plainElem Tryz.prog 3) b (Maps.size D) D ∧ (∀ i, i < 256 → Maps.has D (keyL i) = decide (i ∈ K)) ∧
    (∀ i, i < 256 → D.atKey (keyL i) (.lit (.int .i64 0)) = .lit (.int .i64 (g i : Int))) ∧ Maps.size D = K.length ∧ K.Nodup
section
variable {w : World} {b : Nat} {K : List Nat} {g : Nat → Nat}
theorem GotAt.made (w : World) : GotAt (w.alloc (.map #[] 0)) w.heap.size [] fun _ => 0 :=
  ⟨.map [], World.ownsMap_made _ _ _ _, fun m _ => by simp [Maps.has], fun m _ => by rfl, rfl, List.Pairwise.nil⟩
theorem GotAt.lt (h : GotAt w b K g) : b < w.heap.size := by obtain ⟨D, h, _⟩ := h; exact h.lt
theorem GotAt.chg {w' : World} {S : List Nat} (h : GotAt w b K g) (hc : Chg w w' S) (hb : b ∉ S) : GotAt w' b K g := by
  have hk := hc.block b h.lt hb
  obtain ⟨D, ⟨es, clock, h1, h2⟩, h3⟩ := h
  exact ⟨D, ⟨es, clock, hk.trans h1, h2⟩, h3⟩
theorem GotAt.nodup (h : GotAt w b K g) : K.Nodup := by obtain ⟨D, _, _, _, _, h⟩ := h; exact h
theorem GotAt.look (h : GotAt w b K g) {i : Nat} (hi : i < 256) : (Instr.lookup 29 (.map (some b)) (.string (keyB i)) false).run Tryz.prog w = .ok (.int .i64 (g i : Int)) w := by
  obtain ⟨D, h2, hh, h3, _⟩ := h
  obtain ⟨c, hrun, hat, -⟩ := h2.lookup_int keyStr Tryz.underlying29 Tryz.underlying3 (zeroInt w) (keyOfB i)
  rw [h3 i hi] at hat
  have : (g i : Int) = c := by injection hat with e; injection e
  rw [hrun, this]
theorem GotAt.put (h : GotAt w b K g) {i : Nat} (hi : i < 256) (hl : K.length < 1000000) (hg : g i < 1000000) : ∃ w', (Instr.mapUpdate 29 (.map (some b)) (.string (keyB i)) (.int .i64 ((g i : Int) + 1))).run Tryz.prog w = .ok () w' ∧
    GotAt w' b (if i ∈ K then K else K ++ [i]) (upd g i (g i + 1)) ∧ Chg w w' [b] := by
  obtain ⟨D, h2, hh, h3, h4, h5⟩ := h
  have hk : WideAt.IsKeyLit (keyL i) := trivial
  have ht := World.ownsMap.tidy h2 keyStr
  obtain ⟨w', hr, ho, hgr⟩ := h2.update keyStr Tryz.underlying29 (by rw [h4]; unfold maxLen; omega) (keyOfB i) (plainElem_int Tryz.underlying3 (wf_of (v := (g i : Int) + 1) ⟨by omega, by omega⟩))
  refine ⟨w', hr, ⟨_, ownsMap_tight ho, fun x hx => ?_, fun x hx => ?_, ?_, ?_⟩, Chg.of_grown hgr⟩
  · by_cases he : x = i
    · subst he
      rw [has_put_same ht.isMap hk]
      refine (decide_eq_true ?_).symm
      split
      · assumption
      · simp
    · rw [has_put_other (keyL_ne hx hi he), hh x hx]
      refine decide_eq_decide.2 ?_
      split
      · exact Iff.rfl
      · simp [he]
  · by_cases he : x = i
    · subst he
      rw [atKey_put_same ht.isMap hk, upd_same]
      push_cast
      rfl
    · rw [atKey_put_other (keyL_ne hx hi he), upd_other _ _ he]
      exact h3 x hx
  · rw [size_put ht, hh i hi, h4]
    by_cases hm : i ∈ K
    · simp [hm]
    · simp [hm]
  · split
    · exact h5
    · next hm =>
      rw [List.nodup_append]
      exact ⟨h5, by simp, fun x hx y hy => by
        obtain rfl : y = i := by simpa using hy
        exact fun e => hm (e ▸ hx)⟩
theorem GotAt.len (h : GotAt w b K g) (ty : TypeId) : (Builtin.len_ #[29] ty #[.map (some b)]).run Tryz.prog w = .ok (.int .i64 (K.length : Int)) w := by
  obtain ⟨D, h2, _, _, h4, _⟩ := h
  have := h2.len Tryz.underlying29 ty
  rwa [h4] at this
end
end Go.Proofs.YtcepfhnlbnlnhaaGreatDoor
