/- PLAIN LAW of the statement JournalAny, second part: the first opening, and the records that are added. No program in sight. -/
import Derived.Test.YtklcpckjmncdkaaDoorAnyLaw
namespace Go.Proofs.YtklcpckjmncdkaaDoor
set_option maxRecDepth 100000
open Go.RowKit

/-- A file that was laid, and is being added to. -/
structure Grows (D : Dk) (o : Int) (gen : Nat) (s : ByteArray) (recs : List ByteArray) (M : Nat) : Prop where
  file : o = 0 ∨ o = 1
  disk : ∃ n y lx, D = gd o (fileX gen n s recs) y lx y.size ∧ 0 < n ∧ n ≤ 1 + recs.length ∧ (jread y).gen < gen ∧ y.size ≤ 200000
  pos : 0 < gen
  small : s.size ≤ 100000
  each : ∀ r ∈ recs, r.size ≤ 100000
  size : 29 + s.size + tot recs ≤ M
theorem grows_add {D : Dk} {o : Int} {gen M : Nat} {s b : ByteArray} {recs : List ByteArray} (h : Grows D o gen s recs M) (hM : M ≤ 190000) (hb : b.size ≤ 1000) :
    ∃ D', jadd D ⟨o, gen, false⟩ b = (0, D', ⟨o, gen, false⟩) ∧ Grows D' o gen s (recs ++ [b]) (M + 1007) := by
  obtain ⟨ho, ⟨n, y, lx, rfl, hn0, hn, hy, hys⟩, hp, hs, hr, hsz⟩ := h
  have hX := fileX_tot gen n s recs
  obtain ⟨_, w2, w3⟩ := gd_wipe ho (fileX gen n s recs) y lx y.size
  have a := add_quiet (J := ⟨o, gen, false⟩) (b := b) (gd_quiet o (fileX gen n s recs) y lx y.size) ho rfl (okR (by omega)) (by rw [w3, w2, hX, recB_size]; omega)
  simp only at a
  rw [gd_put ho, fileX_add] at a
  refine ⟨_, a, ho, ⟨n, y, lx, rfl, hn0, by simp only [List.length_append, List.length_cons, List.length_nil]; omega, hy, hys⟩, hp, hs, ?_, ?_⟩
  · intro r hr'
    rw [List.mem_append] at hr'
    rcases hr' with hr' | hr'
    · exact hr r hr'
    · simp only [List.mem_singleton] at hr'; subst hr'; omega
  · rw [tot_append]
    simp only [tot]
    omega
theorem grows_sync {D : Dk} {o : Int} {gen M : Nat} {s : ByteArray} {recs : List ByteArray} (h : Grows D o gen s recs M) (hM : M ≤ 200000) : ∃ D', jsync D ⟨o, gen, false⟩ = (0, D', ⟨o, gen, false⟩) ∧ Stands D' o gen s recs := by
  obtain ⟨ho, ⟨n, y, lx, rfl, hn0, hn, hy, hys⟩, hp, hs, hr, hsz⟩ := h
  have a := jsync_quiet (J := ⟨o, gen, false⟩) (gd_quiet o (fileX gen n s recs) y lx y.size) ho rfl
  simp only at a
  rw [gd_sync ho] at a
  exact ⟨_, a, ho, ⟨n, y, rfl, hn0, hn, hy, hys⟩, hp, by omega⟩
theorem gd_flip {f : Int} (hf : f = 0 ∨ f = 1) (b0 b1 : ByteArray) : gd 0 b0 b1 b0.size b1.size = gd f ((gd 0 b0 b1 b0.size b1.size).bytes f) ((gd 0 b0 b1 b0.size b1.size).bytes (1 - f)) ((gd 0 b0 b1 b0.size b1.size).bytes f).size ((gd 0 b0 b1 b0.size b1.size).bytes (1 - f)).size := by
  rcases hf with rfl | rfl <;> rfl
theorem any_open {b0 b1 : ByteArray} (h0 : b0.size ≤ 100000) (h1 : b1.size ≤ 100000) :
    (∃ D' J' I, jopen (gd 0 b0 b1 b0.size b1.size) = (241, D', J', I)) ∨
    ∃ D' o gen I, jopen (gd 0 b0 b1 b0.size b1.size) = (0, D', ⟨o, gen, false⟩, I) ∧ Grows D' o gen I.state I.recs 100029 := by
  obtain ⟨f, hf, hJ, hle, hI⟩ := jfound_any (gd 0 b0 b1 b0.size b1.size)
  have hb0 : (gd 0 b0 b1 b0.size b1.size).bytes 0 = b0 := rfl
  have hb1 : (gd 0 b0 b1 b0.size b1.size).bytes 1 = b1 := rfl
  rw [hb0, hb1] at hI
  have hsz : 29 + (jfound (gd 0 b0 b1 b0.size b1.size)).1.state.size + tot (jfound (gd 0 b0 b1 b0.size b1.size)).1.recs ≤ 100029 ∧ (∀ r ∈ (jfound (gd 0 b0 b1 b0.size b1.size)).1.recs, r.size ≤ 100000) := by
    have key : ∀ b : ByteArray, b.size ≤ 100000 → 29 + (jread b).state.size + tot (jread b).recs ≤ 100029 ∧ ∀ r ∈ (jread b).recs, r.size ≤ 100000 := by
      intro b hb
      refine ⟨?_, fun r hr => Nat.le_trans ((jread_fit b).recs r hr) hb⟩
      rcases jread_tot b with ⟨_, h⟩ | h
      · rw [h]; decide
      · omega
    rcases hI with h | h | h
    · rw [h]; exact ⟨by decide, fun r hr => by simp [Img.none_] at hr⟩
    · rw [h]; exact key b0 h0
    · rw [h]; exact key b1 h1
  have hoff : ¬ (gd 0 b0 b1 b0.size b1.size).off = true := by rw [(gd_quiet _ _ _ _ _).off]; decide
  generalize hP : jfound (gd 0 b0 b1 b0.size b1.size) = P at *
  obtain ⟨⟨gen, s, recs⟩, J⟩ := P
  simp only at hJ hle hsz
  injection hJ with _ hJ
  subst hJ
  have hx : ((gd 0 b0 b1 b0.size b1.size).bytes f).size ≤ 100000 := by rcases hf with rfl | rfl; exact h0; exact h1
  have hfl := gd_flip hf b0 b1
  generalize (gd 0 b0 b1 b0.size b1.size).bytes f = x at *
  generalize (gd 0 b0 b1 b0.size b1.size).bytes (1 - f) = z at *
  by_cases hg : 2147483647 ≤ gen
  · left
    refine ⟨gd 0 b0 b1 b0.size b1.size, ⟨f, gen, false⟩, ⟨gen, s, recs⟩, ?_⟩
    unfold jopen
    rw [if_neg hoff, hP]
    simp only
    unfold jlay
    rw [if_pos hg]
  · right
    obtain ⟨w1, w2, _⟩ := gd_wipe hf x z x.size z.size
    have hNs : (fileB (gen + 1) s recs).size = 29 + s.size + tot recs := fileX_tot (gen + 1) recs.length.succ s recs
    have l := lay_quiet (J := ⟨f, gen, false⟩) (s := s) (recs := recs) (gd_quiet f x z x.size z.size) hf (by simp only; omega) (okS (by omega)) (fun r h => okR (hsz.2 r h)) (by
      simp only
      rw [w1, w2, hNs]; omega)
    simp only at l
    rw [gd_laid hf] at l
    refine ⟨_, 1 - f, gen + 1, ⟨gen, s, recs⟩, ?_, by omega, ⟨recs.length.succ, x, (fileB (gen + 1) s recs).size, rfl, Nat.succ_pos _, by show recs.length.succ ≤ 1 + recs.length; omega, by omega, by omega⟩, Nat.succ_pos _, by simp only; omega, hsz.2, hsz.1⟩
    unfold jopen
    rw [if_neg hoff, hP]
    simp only
    rw [hfl, l]
    rfl
end Go.Proofs.YtklcpckjmncdkaaDoor
