/- AN ANSWER TAKEN, A MESSAGE SENT: steps of the plain state. -/
import Derived.Test.YtcepfhnlbnlnhaaGreatDoorJoin2
namespace Go.Proofs.YtcepfhnlbnlnhaaGreatDoor
set_option maxRecDepth 100000
open Go.RowKit

def St.answer (s : St) (most : Nat) : St :=
  match s.back with
  | [] => s
  | i :: t => s.answered most i t
theorem Sim.goOn {q : Nat → Nat} {n most : Nat} {s : St} {p : PairS} (h : Sim q most s p) (hI : Inv q n most s) : Sim q most (s.goOn most) { p with o := (outOf q most s).gone (s.room most), T := p.T ++ newPub s.a ((outOf q most s).wait.take (s.room most)) } :=
  h.opened hI (by unfold St.room; omega)
theorem news_len (q : Nat → Nat) (most : Nat) (s : St) : (newPub s.a ((outOf q most s).wait.take (s.room most))).length ≤ most := by
  rw [newPub_len, List.length_take]
  unfold St.room
  omega
theorem out_at {q : Nat → Nat} {most k : Nat} {s : St} (hk : k < s.fl.length) (hk' : k < (outOf q most s).fl.length) : (outOf q most s).fl[k] = flOf q s s.fl[k] := List.getElem_map (l := s.fl) (flOf q s) (h := hk')
section
variable {w : World}
theorem answer_sim {q : Nat → Nat} {n most pr : Nat} {s : St} {p : PairS} {P : List Nat} (hP : PairA w pr P p) (hs : Sim q most s p) (hI : Inv q n most s) (hq : ∀ i, q i = 1 ∨ q i = 2) (hn : n ≤ 40) (hm : most ≤ 64) :
    Calls Tryz.prog 13 #[.pointer (some ⟨pr, 0, none⟩)] w fun e w' => e = .returned (.bool true) ∧ ∃ p', Stepped w pr P p' w' ∧ Sim q most (s.answer most) p' := by
  obtain ⟨l1, l2, l3, l4⟩ := hP.lens hs hI
  obtain ⟨cd, hd⟩ := hs.B
  unfold St.answer
  cases ht : s.back with
  | nil =>
    rw [ht] at hd
    exact (ans_none hP hd).mono fun e w' h => ⟨h.1, p, h.2, hs⟩
  | cons i t =>
    dsimp only
    rw [ht, List.map_cons] at hd
    have hmem : i ∈ s.fl := hI.perm.mem_iff.1 (by rw [ht]; simp)
    have hbk := hI.back i (by rw [ht]; simp)
    have hok := hI.ok i
    obtain ⟨k, hk, hki, -⟩ := erase_at hmem
    have hS := side_of hI hq hn hm
    have hk' : k < (outOf q most s).fl.length := by simpa [outOf] using hk
    have hfk : (outOf q most s).fl[k] = flOf q s i := (out_at hk hk').trans (congrArg (flOf q s) hki)
    have hwl := hS.wl
    have htk := hS.tk
    by_cases hr : (s.ph i).isR = true
    · have hrel := hs.released hI ht hr hk hki cd (B := t.map (tokB s cd)) rfl
      have hIr := hI.released ht hr
      have hgo := hrel.goOn hIr
      have ho : { outOf q most s with fl := (outOf q most s).fl.set k ⟨(i : Int) + 1, msgOf q i, true⟩ } = outOf q most (s.released i t) := hrel.o
      have hph : s.ph i = .r := by
        revert hr
        cases s.ph i <;> simp [Ph.isR]
      have hq2 : q i = 2 := by
        rw [hph] at hok
        exact hok.1
      have htokr : tokB s cd i = ⟨5, false, 0, (i : Int) + 1, ⟨#[]⟩, ⟨#[]⟩, 0⟩ := by
        unfold tokB
        rw [hph]
      rw [htokr] at hd
      have hnl := news_len q most (s.released i t)
      have hres : s.answered most i t = (s.released i t).goOn most := by
        unfold St.answered
        rw [if_pos hr]
      rw [hres]
      refine (ans_step hP _ (t.map (tokB s cd)) hd (by omega) ((outOf q most (s.released i t)).gone ((s.released i t).room most)) ([relOf ((i : Int) + 1)] ++ newPub (s.released i t).a ((outOf q most (s.released i t)).wait.take ((s.released i t).room most)))
        (by rw [List.length_append, List.length_singleton]; omega) fun W fb F hO => ?_).mono fun e w' h => ⟨h.1, _, h.2, ?_⟩
      · rw [hs.o] at hO
        have ha := ans_rec hO rfl hS.q hS.most hS.fl (by omega) hS.ids hS.id0 (by omega) k hk' (by rw [hfk]; show (q i : Int) = 2; omega) (outOf q most (s.released i t)) (by rw [hfk]; exact ho.symm)
        rw [hfk, room_of] at ha
        exact ha
      · rw [← List.append_assoc]
        exact hgo
    · have hr0 : (s.ph i).isR = false := by simpa using hr
      have hdone := hs.done hI ht hr0 hk hki cd (B := t.map (tokB s cd)) rfl
      have hId := hI.done ht hr0
      have hgo := hdone.goOn hId
      have ho : { outOf q most s with fl := (outOf q most s).fl.eraseIdx k } = outOf q most (s.done i t) := hdone.o
      have hnl := news_len q most (s.done i t)
      have hres : s.answered most i t = (s.done i t).goOn most := by
        unfold St.answered
        rw [if_neg hr]
      rw [hres]
      refine (ans_step hP _ (t.map (tokB s cd)) hd (by omega) ((outOf q most (s.done i t)).gone ((s.done i t).room most)) (newPub (s.done i t).a ((outOf q most (s.done i t)).wait.take ((s.done i t).room most))) (by omega) fun W fb F hO => ?_).mono fun e w' h => ⟨h.1, _, h.2, hgo⟩
      rw [hs.o] at hO
      by_cases ha : s.ph i = .a
      · have hq1 : q i = 1 := by
          rw [ha] at hok
          exact hok.1
        have htok : tokB s cd i = ⟨4, false, 0, (i : Int) + 1, ⟨#[]⟩, ⟨#[]⟩, cd i⟩ := by
          unfold tokB
          rw [ha]
        rw [htok]
        have hc := ans_ack hO rfl hS.q hS.most hS.fl (by omega) hS.ids hS.id0 (by omega) k hk' (by rw [hfk]; show (q i : Int) = 1; omega) (cd i) (outOf q most (s.done i t)) ho.symm
        rw [hfk, room_of] at hc
        exact hc
      · have hph : s.ph i = .c := by
          revert hbk hr0 ha
          cases s.ph i <;> simp [Ph.isR, Ph.back]
        have htok : tokB s cd i = ⟨7, false, 0, (i : Int) + 1, ⟨#[]⟩, ⟨#[]⟩, cd i⟩ := by
          unfold tokB
          rw [hph]
        rw [htok]
        have hc := ans_comp hO rfl hS.q hS.most hS.fl (by omega) hS.ids hS.id0 (by omega) k hk' (by rw [hfk]; show (s.ph i).rel = true; rw [hph]; rfl) (cd i) (outOf q most (s.done i t)) ho.symm
        rw [hfk, room_of] at hc
        exact hc
theorem more_out {q : Nat → Nat} {most : Nat} {s : St} (h : s.a ≤ s.next) : (outOf q most s).more (msgOf q s.next) = outOf q most { s with next := s.next + 1 } := by
  unfold OutS.more outOf
  have e : s.next + 1 - s.a = (s.next - s.a) + 1 := by omega
  have e2 : s.a + 1 * (s.next - s.a) = s.next := by omega
  simp only [e]
  rw [List.range'_concat, e2, List.map_append]
  rfl
theorem send_sim {q : Nat → Nat} {n most pr nv qv pv qg qo cq : Nat} {z : Int} {s : St} {p : PairS} {P : List Nat} (hP : PairA w pr P p) (hs : Sim q most s p) (hI : Inv q n most s) (hq : ∀ i, q i = 1 ∨ q i = 2) (hn : n ≤ 40) (hm : most ≤ 64)
    (hnB : Blk w nv 3 #[.int .i64 (s.next : Int)]) (hqv : w.cell? ⟨qv, 0, none⟩ = some (.slice (some ⟨qg, qo, none⟩) n cq)) (hqi : w.cell? ⟨qg, qo + s.next, none⟩ = some (.int .i64 z)) (hpv : w.cell? ⟨pv, 0, none⟩ = some (.pointer (some ⟨pr, 0, none⟩)))
    (hlt : s.next < n) (hz : (q s.next : Int) = 1 + max 0 z % 2) (h1 : nv ∉ P) (h2 : qv ∉ P) (h3 : pv ∉ P) (h4 : qg ∉ P) :
    Calls Tryz.prog 7 #[.pointer (some ⟨nv, 0, none⟩), .pointer (some ⟨qv, 0, none⟩), .pointer (some ⟨pv, 0, none⟩)] w fun e w' => e = .returned (.bool true) ∧
      ∃ w7 p', Stepped w pr P p' w7 ∧ Sim q most (s.send most) p' ∧ w' = w7.setCell ⟨nv, 0, none⟩ (.int .i64 ((s.next : Int) + 1)) := by
  obtain ⟨l1, l2, l3, l4⟩ := hP.lens hs hI
  have hS := side_of hI hq hn hm
  have hwl := hS.wl
  have htk := hS.tk
  have han := hI.an
  have hmore := more_out (q := q) (most := most) han
  have hI1 : Inv q n most { s with next := s.next + 1 } := { hI with an := Nat.le_trans hI.an (Nat.le_succ _), nn := hlt }
  have hs1 : Sim q most { s with next := s.next + 1 } { p with o := outOf q most { s with next := s.next + 1 } } := ⟨rfl, hs.U, hs.T, hs.B, hs.K, hs.g⟩
  have hgo := hs1.goOn hI1
  have hnl := news_len q most { s with next := s.next + 1 }
  refine (send_step hP hnB hqv hqi hpv hlt (by omega) hz h1 h2 h3 h4 ((outOf q most { s with next := s.next + 1 }).gone (St.room { s with next := s.next + 1 } most)) (newPub s.a ((outOf q most { s with next := s.next + 1 }).wait.take (St.room { s with next := s.next + 1 } most)))
    (by have : (newPub s.a ((outOf q most { s with next := s.next + 1 }).wait.take (St.room { s with next := s.next + 1 } most))).length ≤ most := hnl
        omega) fun W fb F hO => ?_).mono fun e w' h => ⟨h.1, ?_⟩
  · rw [hs.o] at hO
    have hqq := hq s.next
    have hc := send_any hO (msgOf q s.next) rfl (by show (0 : Int) < (q s.next : Int); omega) (by show (q s.next : Int) ≤ 2; omega) hS.q hS.most hS.fl (by omega) hS.ids (by omega)
    rw [hmore, room_of] at hc
    exact hc
  · obtain ⟨w7, hst, hw⟩ := h.2
    exact ⟨w7, _, hst, hgo, hw⟩
end
end Go.Proofs.YtcepfhnlbnlnhaaGreatDoor
