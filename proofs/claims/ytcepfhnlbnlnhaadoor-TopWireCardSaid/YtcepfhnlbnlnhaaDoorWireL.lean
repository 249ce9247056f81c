/- PLAIN LAW: what is kept of texts, and bytes that are cut anywhere. -/
import Derived.Test.YtcepfhnlbnlnhaaDoorWireS
namespace Go.Proofs.YtcepfhnlbnlnhaaDoor
set_option maxRecDepth 100000
open Go.RowKit

def keptP (l : List TextW) : List Pk := (l.map TextW.pk).filter fun p => !p.bad
theorem keptP_snoc (l : List TextW) (i : Nat) (h : i < l.length) : keptP (l.take (i + 1)) = keptP (l.take i) ++ (if l[i].pk.bad then [] else [l[i].pk]) := by
  unfold keptP
  rw [List.take_succ_eq_append_getElem h, List.map_append, List.filter_append]
  congr 1
  simp only [List.map_cons, List.map_nil, List.filter_cons, List.filter_nil]
  cases l[i].pk.bad <;> rfl
theorem keptP_len (l : List TextW) : (keptP l).length ≤ l.length := by
  unfold keptP
  have := List.length_filter_le (fun p : Pk => !p.bad) (l.map TextW.pk)
  rwa [List.length_map] at this
theorem TextW.pre (x : TextW) : x.pk.Pre := mk_pre _ _ _ _ _
theorem keptP_ok (l : List TextW) : ∀ p ∈ keptP l, p.Ok := by
  intro p hp
  unfold keptP at hp
  rw [List.mem_filter, List.mem_map] at hp
  obtain ⟨⟨x, _, rfl⟩, hb⟩ := hp
  exact Pk.ok_of x.pre (by simpa using hb)
theorem Pk.enc_small {p : Pk} (h : p.Ok) : p.enc.length ≤ 340 := by
  have := p.body_len h
  have := p.enc_len
  have := vi_len p.bodyL.length
  omega
theorem encs_small : ∀ (ps : List Pk), (∀ p ∈ ps, p.Ok) → (encs ps).length ≤ 340 * ps.length
  | [], _ => by simp [encs]
  | p :: ps, h => by
    rw [encs_cons, List.length_append, List.length_cons]
    have := Pk.enc_small (h p (by simp))
    have := encs_small ps fun q hq => h q (by simp [hq])
    omega
/-- What the reader holds and what is still to come are the packets that have not come out. -/
structure Flow (ps : List Pk) (j : Nat) (L Y : ByteArray) : Prop where
  le : j ≤ ps.length
  held : L.data.toList ++ Y.data.toList = encs (ps.drop j)
theorem flow_small {ps : List Pk} {j : Nat} {L Y : ByteArray} (h : Flow ps j L Y) (hok : ∀ p ∈ ps, p.Ok) : L.size + Y.size ≤ 340 * ps.length := by
  have h1 := congrArg List.length h.held
  rw [List.length_append, ← size_list, ← size_list] at h1
  have := encs_small (ps.drop j) fun p hp => hok p (List.mem_of_mem_drop hp)
  rw [List.length_drop] at this
  have h2 : ps.length - j ≤ ps.length := by omega
  have := Nat.mul_le_mul_left 340 h2
  omega
theorem flow_step {ps : List Pk} {j : Nat} {L Y : ByteArray} (h : Flow ps j L Y) (hok : ∀ p ∈ ps, p.Ok) (k : Nat) (hk : k ≤ Y.size) :
    ∃ (m : Nat) (r : List UInt8), j + m ≤ ps.length ∧ (L ++ Y.extract 0 k).data.toList = encs ((ps.drop j).take m) ++ r ∧ (r = [] ∨ ∃ p : Pk, p.Ok ∧ Part r p) ∧ Flow ps (j + m) ⟨r.toArray⟩ (Y.extract k Y.size) ∧ (k = Y.size → j + m = ps.length ∧ r = []) := by
  have hy : Y.data.toList = (Y.extract 0 k).data.toList ++ (Y.extract k Y.size).data.toList := by
    have : Y = Y.extract 0 k ++ Y.extract k Y.size := by
      rw [ByteArray.extract_append_extract]
      simp [Nat.min_eq_left, hk]
    have h2 := congrArg (fun s : ByteArray => s.data.toList) this
    simp only [ByteArray.data_append, Array.toList_append] at h2
    exact h2
  have he : (L ++ Y.extract 0 k).data.toList ++ (Y.extract k Y.size).data.toList = encs (ps.drop j) := by
    rw [← h.held, hy]; simp
  obtain ⟨m, r, hc, hX⟩ := split_enc (ps.drop j) _ _ he
  have hm := hc.1
  rw [List.length_drop] at hm
  have hle := h.le
  refine ⟨m, r, by omega, hX, ?_, ⟨by omega, ?_⟩, fun hk2 => ?_⟩
  · exact hc.2.imp id fun ⟨p, hp, hpt⟩ => ⟨p, hok p (List.mem_of_mem_drop (List.mem_of_getElem? hp)), hpt⟩
  · have := came_rest he hX
    rw [List.drop_drop] at this
    simpa using this
  · subst hk2
    have h0 : (Y.extract Y.size Y.size).data.toList = [] := by simp
    rw [h0, List.append_nil, hX] at he
    have := came_all hc he
    rw [List.length_drop] at this
    exact ⟨by omega, this.2⟩
end Go.Proofs.YtcepfhnlbnlnhaaDoor
