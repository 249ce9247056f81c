/- THE WALK of the sender's over. -/
import Derived.Test.YtcepfhnlbnlnhaaGreatDoorOut7
namespace Go.Proofs.YtcepfhnlbnlnhaaGreatDoor
set_option maxRecDepth 100000
open Go.RowKit

theorem erase_ids {l : List Fl} {i : Nat} (h : i < l.length) : ((l.map Fl.id).erase l[i].id).Perm ((l.eraseIdx i).map Fl.id) := by
  have hp : (l.map Fl.id).Perm (l[i].id :: (l.eraseIdx i).map Fl.id) := by
    have e : l = l.take i ++ l[i] :: l.drop (i + 1) := by
      conv => lhs; rw [← List.take_append_drop i l, List.drop_eq_getElem_cons h]
    have e2 : l.map Fl.id = (l.take i).map Fl.id ++ l[i].id :: (l.drop (i + 1)).map Fl.id := by
      conv => lhs; rw [e]
      rw [List.map_append, List.map_cons]
    rw [e2, List.eraseIdx_eq_take_drop_succ, List.map_append]
    exact List.perm_middle
  have := hp.erase l[i].id
  rwa [List.erase_cons_head] at this
section
variable {w : World}
theorem PoolAt.perm {pb mb most taken : Nat} {U U' : List Int} (h : PoolAt w pb mb most taken U) (hp : U.Perm U') : PoolAt w pb mb most taken U' := ⟨h.blk, h.set.perm hp⟩
set_option maxHeartbeats 3200000 in
theorem over_any {fb pb mb : Nat} {fv wv : Value} {s : OutS} (h : OutAt w fb pb mb fv wv s) (i : Nat) (hi : i < s.fl.length) (hl : s.fl.length ≤ 64) (h64 : I64 s.fl[i].id) :
    Calls Tryz.prog 36 #[.pointer (some ⟨fb, 0, none⟩), .int .i64 (i : Int)] w fun e w' => e = .returned (.tuple #[]) ∧ OutA w' fb (foot fb pb mb fv wv) { s with fl := s.fl.eraseIdx i } ∧ Chg w w' (foot fb pb mb fv wv) := by
  obtain ⟨n, hn⟩ : ∃ n, s.fl.length = n + 1 := ⟨s.fl.length - 1, by omega⟩
  obtain ⟨g, off, cap, hfv, h1, h2, hgl, hra, _⟩ := h.fls.at_ Fl.size hi
  subst hfv
  obtain ⟨a0, -⟩ := fl_at hra
  obtain ⟨n1', n2', n3', n4', n5', n6'⟩ := h.fresh
  have hg := n3' g rfl
  have c0 : w.cell? ⟨fb, 0, none⟩ = some (.pointer (some ⟨pb, 0, none⟩)) := h.blk.cell 0
  have c3 : w.cell? ⟨fb, 3, none⟩ = some (.slice (some ⟨g, off, none⟩) (n + 1) cap) := by have := h.blk.cell 3; rw [hn] at this; exact this
  have i1 : (i : Int) < (n : Int) + 1 := by omega
  have hib : i < n + 1 := by omega
  have HH := Lib.hid h
  have HN := Lib.hid hn
  have HFree := Lib.hid (pool_free (h.pool.chg (Chg.refl w []).drew (by simp) (by simp)) h64)
  have hlt := h.blk.lt
  generalize hid : s.fl[i].id = id at *
  have HId := Lib.hid hid
  clear h hn hra hid
  go_enter Tryz.func36, Tryz.ntmps36
  go_wp2_with fail
  go_region_held3 (fun w' => w'.cell? ⟨fb, 0, none⟩ = some (.pointer (some ⟨pb, 0, none⟩)) ∧ w'.cell? ⟨fb, 3, none⟩ = some (.slice (some ⟨g, off, none⟩) (n + 1) cap) ∧ w'.cell? ⟨g, off + i * 7, none⟩ = some (.int .i64 id)) (first | go_keep | assumption | exact ⟨by assumption, by assumption, by assumption⟩)
    (first
      | (go_at_call 30; refine HFree.out.mono ?_; rintro e w3 ⟨rfl, hp3, hc3⟩; have k0 : w3.cell? ⟨fb, 0, none⟩ = some (.pointer (some ⟨pb, 0, none⟩)) := hc3.cell c0 (by simp; exact ⟨fun e => n1' e.symm, fun e => n2' e.symm⟩); have k1 : w3.cell? ⟨fb, 3, none⟩ = some (.slice (some ⟨g, off, none⟩) (n + 1) cap) := hc3.cell c3 (by simp; exact ⟨fun e => n1' e.symm, fun e => n2' e.symm⟩); have k2 : w3.cell? ⟨g, off + i * 7, none⟩ = some (.int .i64 id) := hc3.cell a0 (by simp; exact ⟨hg.2.1, hg.2.2⟩)))
  have hfls3 : RowOf Fl.enc 7 w3 (.slice (some ⟨g, off, none⟩) (n + 1) cap) s.fl := by
    have := (HH.out.fls.chg (Chg.refl w []).drew (by simp)).chg hc3 fun k hk => by
      have e : k = g := by simpa [Value.ownBlock] using hk.symm
      subst e; simp; exact ⟨hg.2.1, hg.2.2⟩
    rwa [HN.out] at this
  have hb3 := (HH.out.blk.drew).chg hc3 (by simp; exact ⟨fun e => n1' e.symm, fun e => n2' e.symm⟩)
  have HD := Lib.hid (delete_fl hfls3 HN.out i hib (by have := HN.out; omega))
  have HB3 := Lib.hid hb3
  have HC3 := Lib.hid hc3
  have HP3 := Lib.hid hp3
  clear hfls3 hb3 hc3 hp3 k0 k2 c0 c3 a0
  go_wp2_with fail
  refine HD.out.mono ?_
  rintro e w4 ⟨rfl, hr4, hc4⟩
  have hfg : fb ∉ [g] := by simp; exact fun e => hg.1 e.symm
  have hb4 := HB3.out.chg hc4 hfg
  have q3 : w4.cell? ⟨fb, 3, none⟩ = some (.slice (some ⟨g, off, none⟩) (n + 1) cap) := by
    have := hb4.cell 3
    rw [HN.out] at this
    exact this
  have q3f := hb4.frozen 3
  have HB4 := Lib.hid hb4
  have HR4 := Lib.hid hr4
  have HC4 := Lib.hid hc4
  clear hb4 hr4 hc4
  go_wp2_with fail
  go_end0
  have hlen : (s.fl.eraseIdx i).length = n := by rw [List.length_eraseIdx_of_lt hi, HN.out]; omega
  have hput : Chg w4 (w4.setCell ⟨fb, 3, none⟩ (.slice (some ⟨g, off, none⟩) n cap)) [fb] := (Chg.refl w4 _).put _ (.inl (by simp)) _
  have h35 : Chg w (w4.setCell ⟨fb, 3, none⟩ (.slice (some ⟨g, off, none⟩) n cap)) [fb, pb, mb, g] :=
    ((((Chg.refl w [fb, pb, mb, g]).drew).trans HC3.out fun b hb => .inl (by simp at hb; rcases hb with h | h <;> simp [h])).trans HC4.out fun b hb => .inl (by simp at hb; simp [hb])).trans hput fun b hb => .inl (by simp at hb; simp [hb])
  refine ⟨rfl, ⟨pb, mb, .slice (some ⟨g, off, none⟩) n cap, wv, ⟨?_, ?_, ?_, ?_, ?_⟩, ?_⟩, ?_⟩
  · exact HB4.out.put 3 (.slice (some ⟨g, off, none⟩) n cap)
  · have := (HP3.out.chg HC4.out (by simp; exact fun e => hg.2.1 e.symm) (by simp; exact fun e => hg.2.2 e.symm)).chg hput (by simpa using n1') (by simpa using n2')
    refine this.perm ?_
    rw [← HId.out]
    exact erase_ids hi
  · have := HR4.out.chg hput fun k hk => by
      have e : k = g := by simpa [Value.ownBlock] using hk.symm
      subst e; simpa using hg.1
    show QRow _ 7 _ (s.fl.eraseIdx i).length _
    rw [hlen]
    have h2 := this
    unfold RowOf at h2
    rw [hlen] at h2
    exact h2
  · exact HH.out.wts.chg h35 fun k hk => by
      simp only [List.mem_cons, List.not_mem_nil, or_false, not_or]
      obtain ⟨a, b, c⟩ := n4' k hk
      exact ⟨a, b, c, fun e => n5' g rfl (by rw [hk, e])⟩
  · exact HH.out.apart
  · rfl
  · refine h35.mono fun b hb => .inl ?_
    simp only [List.mem_cons, List.not_mem_nil, or_false] at hb
    rcases hb with h | h | h | h <;> simp [foot, h, Value.ownBlock]
end
end Go.Proofs.YtcepfhnlbnlnhaaGreatDoor
