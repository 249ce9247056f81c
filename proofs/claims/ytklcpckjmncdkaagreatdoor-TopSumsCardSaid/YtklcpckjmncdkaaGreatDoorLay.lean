/- THE WALK of the journal's lay: a new file. -/
import Derived.Test.YtklcpckjmncdkaaGreatDoorLayC
import Derived.Laws.AppendOwnNone
namespace Go.Proofs.YtklcpckjmncdkaaGreatDoor
set_option maxRecDepth 100000
open Go.RowKit

theorem StrsAt.kept {w w' : World} {B : Nat} {v : Value} {l : List ByteArray} (h : StrsAt w B v l) (hk : ∀ b cs, B ≤ b → Blk w b 9 cs → Blk w' b 9 cs) : StrsAt w' B v l := by
  obtain ⟨A, c, rfl, h1, h2, h3⟩ := h
  refine ⟨A, c, rfl, h1, h2, fun hc => ?_⟩
  obtain ⟨b, off, cs, hA, hb, hh, ho, hcell⟩ := h3 hc
  exact ⟨b, off, cs, hA, hb, hk b cs hb hh, ho, hcell⟩
theorem StrsAt.grown {w w' : World} {B : Nat} {v : Value} {l : List ByteArray} (h : StrsAt w B v l) (hg : w.grownBy w' none) : StrsAt w' B v l :=
  h.kept fun _ _ _ hb => hb.grown hg (by simp)
theorem grown_below {w w' : World} {B : Nat} (h : Below B w w') (hB : w.heap.size ≤ B) : w.grownBy w' none := ⟨h.os, h.tape, h.output, h.size, fun i hi _ => h.block i (by omega)⟩

/-- append(own, texts...). -/
theorem wpList_append_strs {w : World} {ops : Array Oper} {rest : List Oper} {o : Oper} {a : Act} {Q : Exit → Act → World → Prop} (hgd : o.guard = none) (s x : Operand)
    (ho : o.op = .call { callee := .builtin .append, args := #[s, x], argTypes := #[32, 32] })
    (base : Nat) (v : Value) (n : Nat) (xs : List Value) (hs : a.eval s = v) (hown : w.ownsRow base 9 1 v n xs) (hn : 0 < n) {B : Nat} {vx : Value} {recs : List ByteArray} (hx : a.eval x = vx) (hv : StrsAt w B vx recs)
    (hlen : n + recs.length ≤ 100000000) (hbase : base ≤ w.heap.size)
    (h : ∀ g cap w', w'.ownsRow base 9 1 (.slice (some ⟨g, 0, none⟩) (n + recs.length) cap) (n + recs.length) (xs ++ recs.map Value.string) → w.grownBy w' v.ownBlock → wpList Tryz.prog ops Q rest (a.put o.dst (.slice (some ⟨g, 0, none⟩) (n + recs.length) cap)) w') :
    wpList Tryz.prog ops Q (o :: rest) a w := by
  obtain ⟨i0, hi0, hz0, hz1, hz2⟩ := info_parts Tryz.infoStr
  obtain ⟨A, c, rfl, hle, hcm, hat⟩ := hv
  have hm : maxLen = 9223372036854775807 := rfl
  cases A with
  | none =>
    have hc : c = 0 := by
      rcases Nat.eq_zero_or_pos c with h0 | h0
      · exact h0
      · obtain ⟨b, off, cs, hA, _⟩ := hat h0; cases hA
    subst hc
    have hr : recs = [] := List.eq_nil_of_length_eq_zero (by omega)
    subst hr
    obtain ⟨g, cap, hv, _, _⟩ := hown.form hn
    subst hv
    refine wpList_append_own_none hgd s x 32 ho base 9 i0 1 Tryz.underlying32 hi0 _ n xs hs hown hx ?_
    have := h g cap w (by simpa using hown) (World.grownBy.refl _ _)
    simpa using this
  | some ad =>
    refine wpList_append_own _ hgd s x 32 ho base 9 i0 _ 1 16 Tryz.underlying32 hi0 hz0 hz1 hz2 rfl (by decide) v n xs hs hown ad recs.length c (recs.map Value.string) hx (by simp) ?_ (by intro u hu; simp at hu; obtain ⟨b, _, rfl⟩ := hu; rfl) (by omega) (by omega) hbase ?_
    · intro j u hj
      rw [List.getElem?_map] at hj
      have hjl : j < recs.length := by
        rcases Nat.lt_or_ge j recs.length with h0 | h0
        · exact h0
        · rw [List.getElem?_eq_none h0] at hj; cases hj
      rw [List.getElem?_eq_getElem hjl] at hj
      obtain ⟨b, off, cs, hA, _, hh, _, hcell⟩ := hat (by omega)
      injection hA with hA
      subst hA
      rw [add_off, cell_of_row w b (off + j) cs _ (0, 0) hh, hcell j hjl]
      simpa using hj
    · intro v' w' ho' hg' _
      obtain ⟨g, cap, hv, _, _⟩ := ho'.form (by omega)
      subst hv
      exact h g cap w' ho' hg'

theorem frameR_size {s : ByteArray} (h : (frameR s).2 = 0) : (frameR s).1.size ≤ 131078 := by
  unfold frameR at *
  split at h
  · cases h
  split at h
  · cases h
  rename_i h1 h2
  rw [if_neg h1, if_neg h2]
  show (frame s.data.toList).toArray.size ≤ _
  simp [frame, be_length]
  omega
theorem Duo.of_lk {w W w' : World} {g jb pb : Nat} {row : Option Nat} (hw : w.grownBy W none) (hk : Lk row pb W w') (hp : w.heap.size ≤ pb) (hr : ∀ i, some i = row → i = g ∨ i = jb) : Duo w w' g jb :=
  ⟨hk.os.trans hw.os, hk.tape.trans hw.tape, hk.output.trans hw.output, Nat.le_trans hw.size hk.size, fun i hi h1 h2 => by
    have ho := (hw.block i hi (by simp)).trans (Array.getElem?_eq_getElem hi)
    rw [hk.block i _ ho (fun e => by rcases hr i e with rfl | rfl <;> contradiction) (by omega) (.inl (by omega))]
    exact (Array.getElem?_eq_getElem hi).symm⟩

/-- What lay comes to. -/
def IsLay (r : Nat × Dk × Jr) (g jb : Nat) (w : World) (e : Ending) (w' : World) : Prop :=
  ∃ v, e = .returned v ∧ IsErr w' v r.1 ∧ DiskAt w' g r.2.1 ∧ JrAt w' jb g r.2.2 ∧ Duo w w' g jb

section
variable {w : World} {g jb : Nat} {D : Dk} {J : Jr}
set_option maxHeartbeats 1600000 in
theorem lay_full (hH : Hand w) (h : DiskAt w g D) (hj : JrAt w jb g J) (s : ByteArray) (v : Value) (recs : List ByteArray) (hg : 2147483647 ≤ J.gen) :
    Calls Tryz.prog 38 #[.pointer (some ⟨jb, 0, none⟩), .string s, v] w (IsLay (jlay D J s recs) g jb w) := by
  have hR : jlay D J s recs = (241, D, J) := by unfold jlay; rw [if_pos hg]
  rw [hR]
  obtain ⟨c0, c1, c2, c3⟩ := hj.cells
  have hjl := hj.blk.lt
  have hgi : (2147483647 : Int) ≤ (J.gen : Int) := by omega
  have hF := Lib.hid (fun (W : World) (hW : Hand W) => (failed_any (c := 241) ⟨#[103, 101, 110, 101, 114, 97, 116, 105, 111, 110]⟩ hW : Calls Tryz.prog 35 #[.string ⟨#[103, 101, 110, 101, 114, 97, 116, 105, 111, 110]⟩, .int .u8 241] W _))
  go_enter Tryz.func38, Tryz.ntmps38
  go_wp2_with fail
  refine (hF.out _ (hH.alloc _)).mono ?_
  rintro e w1 ⟨v1, rfl, he, hg1⟩
  go_wp2_with fail
  go_ret
  have hg2 := only_trans (only_alloc (only_refl w none) _) hg1
  exact ⟨v1, rfl, he, h.grown hg2, hj.grown hg2 (by simp), Duo.of_none hg2⟩
end
end Go.Proofs.YtklcpckjmncdkaaGreatDoor
