/- PLAIN LAW: a journal that one byte is kept in. -/
import Derived.Test.YtklcpckjmncdkaaGreatDoorSumLaw
namespace Go.Proofs.YtklcpckjmncdkaaGreatDoor
set_option maxRecDepth 100000
open Go.RowKit

def str5 : ByteArray := ⟨#[5]⟩
theorem keeps_plain : ∃ D1 J1 D2 J2 D3 J3 D6 J6 I6, jopen (Dk.new 1000) = (0, D1, J1, Img.none_) ∧ jadd D1 J1 str5 = (0, D2, J2) ∧ jsync D2 J2 = (0, D3, J3) ∧ jopen (D3.crash []) = (0, D6, J6, I6) ∧ I6.state = ⟨#[]⟩ ∧ I6.recs = [str5] := by
  have hnew : Dk.new 1000 = ⟨⟨#[]⟩, ⟨#[]⟩, 0, 0, 1000, false, 0, [], 0, false⟩ := rfl
  have q0 : Quiet (Dk.new 1000) := ⟨rfl, rfl, rfl, rfl⟩
  have hsE : OkB (markS ++ ⟨#[]⟩) := by unfold OkB; decide
  have hA : OkB (recB str5) := by unfold OkB; decide
  have je : jread ⟨#[]⟩ = Img.none_ := jread_empty rfl
  have hf0 : jfound (Dk.new 1000) = (Img.none_, ⟨1, 0, false⟩) := by
    unfold jfound jstep jfirst
    simp only [hnew, Dk.bytes]
    simp only [je, if_pos]
    rfl
  have hFs : (fileB 1 ⟨#[]⟩ []).size = 29 := by rw [size_list, fileB_list]; rfl
  have l1 := lay_quiet (D := Dk.new 1000) (J := ⟨1, 0, false⟩) (s := ⟨#[]⟩) (recs := []) q0 (.inr rfl) (by decide) hsE (by simp) (by rw [show (0 : Nat) + 1 = 1 from rfl, hFs]; decide)
  have o1 : jopen (Dk.new 1000) = (0, laid 0 (fileB 1 ⟨#[]⟩ []) (Dk.new 1000), ⟨0, 1, false⟩, Img.none_) := by
    unfold jopen
    rw [if_neg (by decide), hf0]
    simp only [Img.none_]
    rw [l1]
    rfl
  have d1 : laid 0 (fileB 1 ⟨#[]⟩ []) (Dk.new 1000) = ⟨fileB 1 ⟨#[]⟩ [], ⟨#[]⟩, 29, 0, 1000, false, 0, [], 0, false⟩ := by
    rw [hnew]
    simp only [laid, Dk.wipe, Dk.put, Dk.sync, if_pos, empty_append', hFs]
  rw [d1] at o1
  have q1 : Quiet ⟨fileB 1 ⟨#[]⟩ [], ⟨#[]⟩, 29, 0, 1000, false, 0, [], 0, false⟩ := ⟨rfl, rfl, rfl, rfl⟩
  have a1 := add_quiet (J := ⟨0, 1, false⟩) (b := str5) q1 (.inl rfl) rfl hA (by simp only [hFs]; decide)
  have q2 := q1.put ⟨(frame (recB str5).data.toList).toArray⟩ 0
  have s2 := jsync_quiet (J := ⟨0, 1, false⟩) q2 (.inl rfl) rfl
  have q3 := q2.sync 0
  generalize hFA : (⟨(frame (recB str5).data.toList).toArray⟩ : ByteArray) = FA at *
  have hFAs : FA.size = 8 := by rw [← hFA]; rfl
  have hz : (fileB 1 ⟨#[]⟩ [] ++ FA).size = 37 := by rw [ByteArray.size_append, hFs, hFAs]
  have hD4 : Dk.sync (Jr.file ⟨0, 1, false⟩) (Dk.put FA (Jr.file ⟨0, 1, false⟩) ⟨fileB 1 ⟨#[]⟩ [], ⟨#[]⟩, 29, 0, 1000, false, 0, [], 0, false⟩) = ⟨fileB 1 ⟨#[]⟩ [] ++ FA, ⟨#[]⟩, 37, 0, 1000, false, 0, [], 0, false⟩ := by
    simp only [Dk.put, Dk.sync, if_pos, hz]
  have hcut : cutTo (fileB 1 ⟨#[]⟩ [] ++ FA) 37 0 = fileB 1 ⟨#[]⟩ [] ++ FA := by
    have := cutTo_all (b := fileB 1 ⟨#[]⟩ [] ++ FA) 0
    rwa [hz] at this
  have hcr : Dk.crash ⟨fileB 1 ⟨#[]⟩ [] ++ FA, ⟨#[]⟩, 37, 0, 1000, false, 0, [], 0, false⟩ [] = ⟨fileB 1 ⟨#[]⟩ [] ++ FA, ⟨#[]⟩, 37, 0, 1000, false, 0, [], 0, false⟩ := by
    unfold Dk.crash
    rw [if_neg (show ¬ (false = true) by decide)]
    unfold Dk.lose Dk.on Dk.cleared
    simp only [List.getD_nil, hcut, hz]
    rfl
  have hj5 : jread (fileB 1 ⟨#[]⟩ [] ++ FA) = ⟨1, ⟨#[]⟩, [str5]⟩ := by
    have hl : (fileB 1 ⟨#[]⟩ [] ++ FA).data.toList = frs (bodies 1 1 ⟨#[]⟩ [str5]) ++ [] := by
      rw [ByteArray.data_append, Array.toList_append, fileB_list, ← hFA]
      simp [bodies, frs]
    rw [jread_bodies hl (by decide) (by decide) hsE (by intro r hr; simp only [List.mem_singleton] at hr; subst hr; exact hA) ?_]
    · rfl
    · rw [un_end (by rw [size_list, hl, List.append_nil])]
      decide
  have hf5 : jfound ⟨fileB 1 ⟨#[]⟩ [] ++ FA, ⟨#[]⟩, 37, 0, 1000, false, 0, [], 0, false⟩ = (⟨1, ⟨#[]⟩, [str5]⟩, ⟨0, 1, false⟩) := by
    unfold jfound jstep jfirst
    simp only [Dk.bytes, if_pos]
    rw [hj5, if_neg (show ¬ (1 : Int) = 0 by decide), je]
    rfl
  have hs6 : (fileB 2 ⟨#[]⟩ [str5]).size = 37 := by rw [size_list, fileB_list]; rfl
  have q5 : Quiet ⟨fileB 1 ⟨#[]⟩ [] ++ FA, ⟨#[]⟩, 37, 0, 1000, false, 0, [], 0, false⟩ := ⟨rfl, rfl, rfl, rfl⟩
  have l6 := lay_quiet (J := ⟨0, 1, false⟩) (s := ⟨#[]⟩) (recs := [str5]) q5 (.inl rfl) (by decide) hsE (by intro r hr; simp only [List.mem_singleton] at hr; subst hr; exact hA) (by
    rw [show (1 : Nat) + 1 = 2 from rfl, hs6]
    have e : Dk.wipe (1 - (0 : Int)) ⟨fileB 1 ⟨#[]⟩ [] ++ FA, ⟨#[]⟩, 37, 0, 1000, false, 0, [], 0, false⟩ = ⟨fileB 1 ⟨#[]⟩ [] ++ FA, ⟨#[]⟩, 37, 0, 1000, false, 0, [], 0, false⟩ := rfl
    rw [e]
    simp only [hz]
    decide)
  have o6 : ∃ D6 J6, jopen ⟨fileB 1 ⟨#[]⟩ [] ++ FA, ⟨#[]⟩, 37, 0, 1000, false, 0, [], 0, false⟩ = (0, D6, J6, ⟨1, ⟨#[]⟩, [str5]⟩) := by
    unfold jopen
    rw [if_neg (show ¬ (false = true) by decide), hf5]
    simp only
    rw [l6]
    exact ⟨_, _, rfl⟩
  obtain ⟨D6, J6, o6⟩ := o6
  exact ⟨_, _, _, _, _, _, D6, J6, ⟨1, ⟨#[]⟩, [str5]⟩, o1, a1, s2, by rw [hD4, hcr]; exact o6, rfl, rfl⟩
end Go.Proofs.YtklcpckjmncdkaaGreatDoor
