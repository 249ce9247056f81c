/- ROWS OF PACKETS that are only read; one row behind another. -/
import Derived.Test.YtcepfhnlbnlnhaaDoorWireL
import Derived.Deep.MidRow
import Derived.Laws.AppendOwnNone
namespace Go.Proofs.YtcepfhnlbnlnhaaDoor
set_option maxRecDepth 100000
open Go.RowKit

theorem only_own {a b c : World} {g : Nat} {row : Option Nat} (h : a.grownBy b (some g)) (k : b.grownBy c row) (hr : ∀ k, row = some k → k = g ∨ a.heap.size ≤ k) : a.grownBy c (some g) :=
  ⟨k.os.trans h.os, k.tape.trans h.tape, k.output.trans h.output, Nat.le_trans h.size k.size, fun i hi hne => (k.block i (Nat.lt_of_lt_of_le hi h.size) (fun e => by
    rcases hr i e.symm with rfl | hh
    · exact hne rfl
    · omega)).trans (h.block i hi hne)⟩
theorem rangeAt_kept {w w' : World} {g o : Nat} {cs : List Value} (h : w.rangeAt g o cs) (hb : w'.heap[g]? = w.heap[g]?) : w'.rangeAt g o cs := fun j v hv => by
  rw [World.cell?_of_block (a := ⟨g, o + j, none⟩) hb]
  exact h j v hv
/-- A packet's subscriptions, to be read: below N. -/
def SubC (w : World) (N : Nat) (v : Value) : Option (ByteArray × Nat) → Prop
  | none => v = .slice none 0 0
  | some (t, q) => ∃ g c, v = .slice (some ⟨g, 0, none⟩) 1 c ∧ g < N ∧ w.rangeAt g 0 (subZ t q).toList
/-- A row of packets, to be read: below N. -/
def PCells (w : World) (N : Nat) (v : Value) (ps : List Pk) : Prop :=
  ∃ A c, v = .slice A ps.length c ∧ ∀ (k : Nat) (p : Pk), ps[k]? = some p → ∃ g sv, A = some ⟨g, 0, none⟩ ∧ g < N ∧ w.rangeAt g (k * 26) (p.cells sv).toList ∧ SubC w N sv p.subs
theorem SubC.kept {w w' : World} {N : Nat} {v : Value} {o : Option (ByteArray × Nat)} (h : SubC w N v o) {row : Option Nat} (hg : w.grownBy w' row) (hN : N ≤ w.heap.size) (hr : ∀ g, row = some g → N ≤ g) : SubC w' N v o := by
  cases o with
  | none => exact h
  | some x =>
    obtain ⟨g, c, hv, hlt, hx⟩ := h
    exact ⟨g, c, hv, hlt, rangeAt_kept hx (hg.block g (by omega) (fun e => by have := hr g e.symm; omega))⟩
theorem PCells.kept {w w' : World} {N : Nat} {v : Value} {ps : List Pk} (h : PCells w N v ps) {row : Option Nat} (hg : w.grownBy w' row) (hN : N ≤ w.heap.size) (hr : ∀ g, row = some g → N ≤ g) : PCells w' N v ps := by
  obtain ⟨A, c, hv, h⟩ := h
  refine ⟨A, c, hv, fun k p hp => ?_⟩
  obtain ⟨g, sv, hA, hlt, hx, hs⟩ := h k p hp
  exact ⟨g, sv, hA, hlt, rangeAt_kept hx (hg.block g (by omega) (fun e => by have := hr g e.symm; omega)), hs.kept hg hN hr⟩
theorem SubC.both {w : World} {N1 N2 : Nat} {v1 v2 : Value} {o : Option (ByteArray × Nat)} (h1 : SubC w N1 v1 o) (h2 : SubC w N2 v2 o) : ∃ ln S1 d1 S2 d2, v1 = .slice S1 ln d1 ∧ v2 = .slice S2 ln d2 ∧ ln ≤ 1 ∧
    (0 < ln → ∃ g1 g2 t q, S1 = some ⟨g1, 0, none⟩ ∧ S2 = some ⟨g2, 0, none⟩ ∧ g1 < N1 ∧ g2 < N2 ∧ w.rangeAt g1 0 (subZ t q).toList ∧ w.rangeAt g2 0 (subZ t q).toList) := by
  cases o with
  | none => exact ⟨0, none, 0, none, 0, h1, h2, by omega, fun h => by omega⟩
  | some x =>
    obtain ⟨g1, c1, hv1, hl1, hx1⟩ := h1
    obtain ⟨g2, c2, hv2, hl2, hx2⟩ := h2
    exact ⟨1, _, c1, _, c2, hv1, hv2, by omega, fun _ => ⟨g1, g2, _, _, rfl, rfl, hl1, hl2, hx1, hx2⟩⟩
theorem pk_cells {w : World} {g : Nat} {t : TypeId} {C : Array Value} (h : Blk w g t C) {K Q I : Int} {T P : ByteArray} {sv : Value} (hC : C = pkZ K Q I T P sv) :
    w.cell? ⟨g, 0, none⟩ = some (.int .i64 K) ∧ w.cell? ⟨g, 3, none⟩ = some (.int .i64 Q) ∧ w.cell? ⟨g, 4, none⟩ = some (.int .i64 I) ∧ w.cell? ⟨g, 5, none⟩ = some (.string T) ∧ w.cell? ⟨g, 6, none⟩ = some (.string P) ∧ w.cell? ⟨g, 24, none⟩ = some sv := by
  subst hC
  exact ⟨h.cell 0, h.cell 3, h.cell 4, h.cell 5, h.cell 6, h.cell 24⟩
theorem SubsAt.cells {w : World} {B : Nat} {v : Value} {o : Option (ByteArray × Nat)} (h : SubsAt w B v o) : SubC w w.heap.size v o := by
  cases o with
  | none => exact h
  | some x =>
    have h0 : OneSub w B v x.1 x.2 := h
    obtain ⟨g, c, rfl, _, hlt⟩ := World.ownsRow.form h0 (by omega)
    refine ⟨g, c, rfl, hlt, fun j u hu => ?_⟩
    have := World.ownsRow.cells h0 (g := g) rfl j u hu
    rwa [Addr.add_mid] at this
theorem PRow.cells {w : World} {B : Nat} {v : Value} {ps : List Pk} (h : PRow w B v ps) : PCells w w.heap.size v ps := by
  obtain ⟨vs, hvl, hrow, hsub⟩ := h
  cases hps : ps with
  | nil =>
    subst hps
    rcases hrow.2 with ⟨rfl, _⟩ | ⟨g, cap, cur, rfl, _⟩
    · exact ⟨none, 0, rfl, fun k p hp => by simp at hp⟩
    · exact ⟨_, _, rfl, fun k p hp => by simp at hp⟩
  | cons a b =>
    rw [← hps]
    obtain ⟨g, c, rfl, _, hlt⟩ := World.ownsRow.form hrow (by rw [hps]; simp)
    refine ⟨_, c, rfl, fun k p hp => ?_⟩
    have hk : k < ps.length := (List.getElem?_eq_some_iff.1 hp).1
    have hsv : vs[k]? = some vs[k] := List.getElem?_eq_getElem (by omega)
    obtain ⟨_, h2, _⟩ := hsub k p _ hp hsv
    refine ⟨g, vs[k], rfl, hlt, fun j u hu => ?_, h2.cells⟩
    have hj : j < 26 := by
      have := (List.getElem?_eq_some_iff.1 hu).1
      rwa [cells_len] at this
    have hat := rowsOf_at ps vs k p vs[k] j hvl hp hsv hj
    have := World.ownsRow.cells hrow (g := g) rfl (k * 26 + j) u (by rw [hat]; exact hu)
    rw [Addr.add_mid, Nat.zero_add] at this
    exact this
theorem PRow.slice {w : World} {B : Nat} {v : Value} {ps : List Pk} (h : PRow w B v ps) : ∃ A c, v = .slice A ps.length c := by
  obtain ⟨A, c, hv, _⟩ := h.cells
  exact ⟨A, c, hv⟩
theorem PRowV.join2 {w w6 w7 : World} {B B' : Nat} {v : Value} {ps qs : List Pk} {vs us : List Value} (h : PRowV w B v ps vs) (h6 : PRowV w6 B v ps vs) (hl : us.length = qs.length)
    (hq : ∀ (k : Nat) (p : Pk) (sv : Value), qs[k]? = some p → us[k]? = some sv → (∃ A l c, sv = .slice A l c) ∧ SubsAt w6 B' sv p.subs) (hB' : w.heap.size ≤ B') (hB : B ≤ w.heap.size) {g1 cap n : Nat}
    (hown : w7.ownsRow B 37 26 (.slice (some ⟨g1, 0, none⟩) (ps.length + qs.length) cap) (ps.length + qs.length) (rowsOf ps vs ++ rowsOf qs us)) (hk : w6.grownBy w7 v.ownBlock) (hat : v.ownBlock = some g1 ∨ g1 = n) (hn : w6.heap.size ≤ n) :
    PRowV w7 B (.slice (some ⟨g1, 0, none⟩) (ps.length + qs.length) cap) (ps ++ qs) (vs ++ us) := by
  refine ⟨by simp [h.1, hl], ?_, fun k p sv hp hv => ?_⟩
  · rw [rowsOf_append h.1, List.length_append]; exact hown
  · by_cases hkl : k < ps.length
    · rw [List.getElem?_append_left hkl] at hp
      rw [List.getElem?_append_left (by rw [h.1]; exact hkl)] at hv
      obtain ⟨h1, h2, h3⟩ := h6.2.2 k p sv hp hv
      have hne : sv.ownBlock = none ∨ sv.ownBlock ≠ v.ownBlock := by
        by_cases h0 : sv.ownBlock = none
        · exact .inl h0
        · obtain ⟨g, hgv⟩ := Option.ne_none_iff_exists'.1 h0
          exact .inr fun e => h3 g hgv (by rw [← e, hgv])
      refine ⟨h1, h2.keep hk hne, fun g hgv e => ?_⟩
      have eg : g1 = g := by simpa [Value.ownBlock] using e
      subst eg
      rcases hat with hat | hat
      · exact h3 g1 hgv hat
      · have := (h2.own hgv).2
        omega
    · rw [List.getElem?_append_right (by omega)] at hp
      rw [List.getElem?_append_right (by rw [h.1]; omega), h.1] at hv
      obtain ⟨h1, h2⟩ := hq _ p sv hp hv
      have hne : ∀ g, sv.ownBlock = some g → v.ownBlock ≠ some g := fun g hgv e => by
        have := (h2.own hgv).1
        have := (h.own e).2
        omega
      have hne2 : sv.ownBlock = none ∨ sv.ownBlock ≠ v.ownBlock := by
        by_cases h0 : sv.ownBlock = none
        · exact .inl h0
        · obtain ⟨g, hgv⟩ := Option.ne_none_iff_exists'.1 h0
          exact .inr fun e => hne g hgv (by rw [← e, hgv])
      refine ⟨h1, (h2.keep hk hne2).mono (by omega), fun g hgv e => ?_⟩
      have eg : g1 = g := by simpa [Value.ownBlock] using e
      subst eg
      rcases hat with hat | hat
      · exact hne g1 hgv hat
      · have := (h2.own hgv).2
        omega
theorem Pk.form (p : Pk) : ∃ (K Q I : Int) (T P : ByteArray), ∀ sv, p.cells sv = pkZ K Q I T P sv := by
  cases p with
  | pub q id t b => exact ⟨_, _, _, _, _, fun _ => rfl⟩
  | sub id q t => exact ⟨_, _, _, _, _, fun _ => rfl⟩
  | ack id => exact ⟨_, _, _, _, _, fun _ => rfl⟩
  | ping => exact ⟨_, _, _, _, _, fun _ => rfl⟩
section
variable {w : World}
theorem Tryd.infoInt : (Tryd.prog.info? 3).map (fun i => (i.zero, i.size, i.bytes)) = some (some (.int .i64 0), 1, 8) := by kernel_rfl
theorem left_any {rg : Nat} (m : Int) (L : ByteArray) (hR : Blk w rg 65 #[.int .i64 m, .string L, .int .u8 0]) :
    Calls Tryd.prog 9 #[.pointer (some ⟨rg, 0, none⟩)] w fun e w' => w = w' ∧ e = .returned (.string L) := by
  have r1 := hR.cell 1
  go_enter Tryd.func9, Tryd.ntmps9
  go_wp2_with fail
  go_ret
  exact ⟨rfl, rfl⟩
theorem feed_flow {rg : Nat} {ps : List Pk} {j : Nat} {L Y : ByteArray} (hfl : Flow ps j L Y) (hok : ∀ p ∈ ps, p.Ok) (hlen : ps.length ≤ 30) (K : Nat) (hK : K ≤ Y.size)
    (hR : Blk w rg 65 #[.int .i64 65536, .string L, .int .u8 0]) (hT : U8 w) :
    ∃ (m : Nat) (L2 : ByteArray), j + m ≤ ps.length ∧ Flow ps (j + m) L2 (Y.extract K Y.size) ∧ (K = Y.size → j + m = ps.length ∧ L2.size = 0) ∧
      Calls Tryd.prog 8 #[.pointer (some ⟨rg, 0, none⟩), .string (Y.extract 0 K)] w fun e w' => ∃ v, e = .returned (.tuple #[v, .int .u8 0]) ∧ (((ps.drop j).take m) = [] → v = .slice none 0 0) ∧ PRow w' w.heap.size v ((ps.drop j).take m) ∧ Blk w' rg 65 #[.int .i64 65536, .string L2, .int .u8 0] ∧ w.grownBy w' (some rg) := by
  obtain ⟨m, r, hm, hX, hrr, hf, hend⟩ := flow_step hfl hok K hK
  have hsm := flow_small hfl hok
  have hb : 340 * ps.length ≤ 340 * 30 := Nat.mul_le_mul_left 340 hlen
  refine ⟨m, ⟨r.toArray⟩, hm, hf, fun h => ⟨(hend h).1, by rw [(hend h).2]; rfl⟩, ?_⟩
  exact feed_any L (Y.extract 0 K) r ((ps.drop j).take m) 65536 (by omega) (by omega) hR hT hX hrr (fun p hp => hok p (List.mem_of_mem_drop (List.mem_of_mem_take hp))) (by rw [List.length_take, List.length_drop]; omega)
    (by rw [ByteArray.size_extract]; omega)
end
theorem wpList_append_pk {wr w6 : World} {B rg : Nat} {v u : Value} {ps qs : List Pk} {ops : Array Oper} {rest : List Oper} {o : Oper} {a : Act} {Q : Exit → Act → World → Prop} (hgd : o.guard = none) (s x : Operand)
    (ho : o.op = .call { callee := .builtin .append, args := #[s, x], argTypes := #[25, 25] }) (hB : B ≤ wr.heap.size) (h : PRow wr B v ps) (hg : wr.grownBy w6 (some rg)) (hrg : rg < B)
    (hnil : qs = [] → u = .slice none 0 0) (hq : PRow w6 wr.heap.size u qs) (hlen : ps.length + qs.length ≤ 1000) (hs : a.eval s = v) (hx : a.eval x = u)
    (hK : ∀ v' w7, PRow w7 B v' (ps ++ qs) → w6.grownBy w7 v.ownBlock → (∀ g, v.ownBlock = some g → B ≤ g) → wpList Tryd.prog ops Q rest (a.put o.dst v') w7) : wpList Tryd.prog ops Q (o :: rest) a w6 := by
  obtain ⟨ip, hip, hq0, hq1, hq2⟩ := info_parts Tryd.infoPack
  obtain ⟨vs, hvs⟩ := h
  obtain ⟨us, hus⟩ := hq
  have h6 := hvs.keep hg (by intro g e; simp at e; omega)
  by_cases hqs : qs = []
  · have hv := hnil hqs
    subst hqs
    rw [hv] at hx
    refine wpList_append_own_none hgd s x 25 ho B 37 ip 26 Tryd.underlying25 hip v ps.length _ hs h6.2.1 hx (hK v w6 ?_ (only_refl _ _) fun g e => (h6.own e).1)
    rw [List.append_nil]
    exact ⟨vs, h6⟩
  · have hqp : 0 < qs.length := List.length_pos_iff.2 hqs
    obtain ⟨g6, c6, rfl, hg6, hg6b⟩ := World.ownsRow.form hus.2.1 hqp
    refine wpList_append_lies _ hgd s x 25 ho B 37 ip _ 26 328 Tryd.underlying25 hip hq0 hq1 hq2 (by rfl) (by decide) v ps.length _ hs h6.2.1 ⟨g6, 0, none⟩ qs.length c6 (rowsOf qs us) hx (rowsOf_len _ _ hus.1)
      (World.ownsRow.cells hus.2.1 rfl) (rowsOf_one_cell qs us fun sv hsv => ?_) hqp (by unfold maxLen; omega) (by omega) (Nat.le_trans hB hg.size) w6.heap.size rfl ?_
    · obtain ⟨k, hk⟩ := List.mem_iff_getElem?.1 hsv
      have hkl : k < qs.length := by have := (List.getElem?_eq_some_iff.1 hk).1; have := hus.1; omega
      exact (hus.2.2 k _ sv (List.getElem?_eq_getElem hkl) hk).1
    · intro g1 cap w7 hown1 hg1 hat1 hlt1
      refine hK _ w7 ⟨vs ++ us, ?_⟩ hg1 fun g e => (h6.own e).1
      exact hvs.join2 h6 hus.1 (fun k p sv hp hv => ⟨(hus.2.2 k p sv hp hv).1, (hus.2.2 k p sv hp hv).2.1⟩) (Nat.le_refl _) hB hown1 hg1 hat1 (Nat.le_refl _)
end Go.Proofs.YtcepfhnlbnlnhaaDoor
