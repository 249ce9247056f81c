/- A SCRIPT OF STEPS THAT CAME IN: a slice of structs that hold a struct, read off the call's memory. Plain laws: codes are small. -/
import Derived.Test.YtklcpckjmncdkaaGreatDoorScript
import Derived.Test.YtklcpckjmncdkaaGreatDoorROpen
namespace Go.Proofs.YtklcpckjmncdkaaGreatDoor
set_option maxRecDepth 100000
open Go.Joins Go.ChangeShapes Go.WideShapes Go.RowKit Go.Deep

/-! ### Codes are small -/
theorem lframes_lt : ∀ (l : List ByteArray) (i : Nat) (acc : List UInt8), (lframes i l acc).1 < 256
  | [], _, _ => by show 0 < 256; decide
  | b :: l, i, acc => by
    rw [lframes_cons]
    split
    · exact lframes_lt l _ _
    · exact frameR_code _
theorem three_lt (D : Dk) (n : Int) (s : ByteArray) : (three D n s).1 < 256 := by
  unfold three
  split
  · exact Dk.doClear_lt _ _
  · split
    · exact Dk.append_lt _ _ _
    · exact Dk.doSync_lt _ _
theorem jlay_lt (D : Dk) (J : Jr) (s : ByteArray) (recs : List ByteArray) : (jlay D J s recs).1 < 256 := by
  unfold jlay
  split
  · show 241 < 256; decide
  · simp only
    split
    · exact lframes_lt _ _ _
    · split
      · exact three_lt _ _ _
      · show 0 < 256; decide
theorem jopen_lt (D : Dk) : (jopen D).1 < 256 := by
  unfold jopen
  split
  · show 240 < 256; decide
  · exact jlay_lt _ _ _ _
theorem jadd_lt (D : Dk) (J : Jr) (b : ByteArray) : (jadd D J b).1 < 256 := by
  unfold jadd
  split
  · show 242 < 256; decide
  · split
    · exact frameR_code _
    · exact Dk.append_lt _ _ _
theorem jsync_lt (D : Dk) (J : Jr) : (jsync D J).1 < 256 := by
  unfold jsync
  split
  · show 242 < 256; decide
  · exact Dk.doSync_lt _ _
theorem jcompact_lt (D : Dk) (J : Jr) (s : ByteArray) : (jcompact D J s).1 < 256 := by
  unfold jcompact
  split
  · show 242 < 256; decide
  · exact jlay_lt _ _ _ _

/-! ### Steps -/
structure StepW where
  what : Int
  body : ByteArray
  on : ActW
def StepW.cells (x : StepW) : Array Value := #[.int .i64 x.what, .string x.body, .int .i64 x.on.a.do_, .int .i64 x.on.a.file, .int .i64 x.on.a.n, .string x.on.a.data, .slice x.on.A x.on.a.keep.length x.on.c]
structure StepIn (w : World) (B : Nat) (x : StepW) : Prop where
  on : ActIn w B x.on
  what64 : I64 x.what
  body : x.body.size ≤ maxLen
theorem StepIn.below {w w' : World} {B : Nat} {x : StepW} (h : StepIn w B x) (hb : Below B w w') : StepIn w' B x := ⟨h.on.below hb, h.what64, h.body⟩
structure Steps (w : World) (B : Nat) (A : Option Addr) (c : Nat) (L : List StepW) : Prop where
  cap : L.length ≤ c
  most : c ≤ maxLen
  step : ∀ j (h : j < L.length), StepIn w B L[j]
  cell : ∀ j (h : j < L.length), ∃ b off, A = some ⟨b, off, none⟩ ∧ b < B ∧ ∀ i, i < 7 → w.cell? ⟨b, off + (j * 7 + i), none⟩ = L[j].cells[i]?
theorem Steps.below {w w' : World} {B : Nat} {A : Option Addr} {c : Nat} {L : List StepW} (h : Steps w B A c L) (hb : Below B w w') : Steps w' B A c L :=
  ⟨h.cap, h.most, fun j hj => (h.step j hj).below hb, fun j hj => by
    obtain ⟨b, off, h1, h2, h3⟩ := h.cell j hj
    exact ⟨b, off, h1, h2, fun i hi => (hb.cell (p := ⟨b, off + (j * 7 + i), none⟩) h2).trans (h3 i hi)⟩⟩

section
variable {H : Type} {enc : TypeId × Value → H} {w : World} {base : Nat} {spare : Nat → Bool} {held : Bool}
theorem act_fields {cs : List Value} {fuel : Nat} {x : DataW H × List MemPlace} (h : DataW.trod enc Tryz.prog w base spare held fuel 64 cs = some x) :
    ∃ X : ActW, ActIn w w.heap.size X ∧ cs = X.cells.toList := by
  obtain ⟨ys, n, _, _, hl, hyl, hf⟩ := DataW.trod_struct Tryz.underlying64 h
  have hC : Tryz.prog.cellsOf 64 = 5 := by kernel_rfl
  have hi1 : Tryz.prog.cellsOf 3 = 1 := by kernel_rfl
  have hs1 : Tryz.prog.cellsOf 9 = 1 := by kernel_rfl
  have hk1 : Tryz.prog.cellsOf 62 = 1 := by kernel_rfl
  rw [hC] at hl
  match cs, hl with
  | [c0, c1, c2, c3, c4], _ =>
    have t0 : DataW.trod enc Tryz.prog w base spare held n 3 (([c0, c1, c2, c3, c4].drop 0).take (Tryz.prog.cellsOf 3)) = ys[0]? := hf 0 _ rfl
    rw [hi1, show ([c0, c1, c2, c3, c4].drop 0).take 1 = [c0] from rfl] at t0
    have t1 : DataW.trod enc Tryz.prog w base spare held n 3 (([c0, c1, c2, c3, c4].drop 1).take (Tryz.prog.cellsOf 3)) = ys[1]? := hf 1 _ rfl
    rw [hi1, show ([c0, c1, c2, c3, c4].drop 1).take 1 = [c1] from rfl] at t1
    have t2 : DataW.trod enc Tryz.prog w base spare held n 3 (([c0, c1, c2, c3, c4].drop 2).take (Tryz.prog.cellsOf 3)) = ys[2]? := hf 2 _ rfl
    rw [hi1, show ([c0, c1, c2, c3, c4].drop 2).take 1 = [c2] from rfl] at t2
    have t3 : DataW.trod enc Tryz.prog w base spare held n 9 (([c0, c1, c2, c3, c4].drop 3).take (Tryz.prog.cellsOf 9)) = ys[3]? := hf 3 _ rfl
    rw [hs1, show ([c0, c1, c2, c3, c4].drop 3).take 1 = [c3] from rfl] at t3
    have t4 : DataW.trod enc Tryz.prog w base spare held n 62 (([c0, c1, c2, c3, c4].drop 4).take (Tryz.prog.cellsOf 62)) = ys[4]? := hf 4 _ rfl
    rw [hk1, show ([c0, c1, c2, c3, c4].drop 4).take 1 = [c4] from rfl] at t4
    have y : ∀ j, j < 5 → ∃ z, ys[j]? = some z := fun j hj => ⟨_, List.getElem?_eq_getElem (by rw [hyl]; exact hj)⟩
    obtain ⟨z0, hz0⟩ := y 0 (by omega)
    obtain ⟨z1, hz1⟩ := y 1 (by omega)
    obtain ⟨z2, hz2⟩ := y 2 (by omega)
    obtain ⟨z3, hz3⟩ := y 3 (by omega)
    obtain ⟨z4, hz4⟩ := y 4 (by omega)
    rw [hz0] at t0
    rw [hz1] at t1
    rw [hz2] at t2
    rw [hz3] at t3
    rw [hz4] at t4
    obtain ⟨n0, e0, _, w0⟩ := DataW.trod_int Tryz.underlying3 t0
    obtain ⟨n1, e1, _, _⟩ := DataW.trod_int Tryz.underlying3 t1
    obtain ⟨n2, e2, _, w2⟩ := DataW.trod_int Tryz.underlying3 t2
    obtain ⟨s3, e3, _, w3⟩ := DataW.trod_string Tryz.underlying9 t3
    obtain ⟨A4, k4, l4, e4, w4⟩ := open_keep t4
    simp only [List.cons.injEq, and_true] at e0 e1 e2 e3
    subst e0 e1 e2 e3 e4
    exact ⟨⟨⟨n0, n1, n2, s3, l4⟩, A4, k4⟩, ⟨w4, i64_of_wf w0, i64_of_wf w2, w3⟩, rfl⟩
theorem step_fields {cs : List Value} {fuel : Nat} {x : DataW H × List MemPlace} (h : DataW.trod enc Tryz.prog w base spare held fuel 66 cs = some x) :
    ∃ X : StepW, StepIn w w.heap.size X ∧ cs = X.cells.toList := by
  obtain ⟨ys, n, _, _, hl, hyl, hf⟩ := DataW.trod_struct Tryz.underlying66 h
  have hC : Tryz.prog.cellsOf 66 = 7 := by kernel_rfl
  have hi1 : Tryz.prog.cellsOf 3 = 1 := by kernel_rfl
  have hs1 : Tryz.prog.cellsOf 9 = 1 := by kernel_rfl
  have ha1 : Tryz.prog.cellsOf 64 = 5 := by kernel_rfl
  rw [hC] at hl
  match cs, hl with
  | [c0, c1, c2, c3, c4, c5, c6], _ =>
    have t0 : DataW.trod enc Tryz.prog w base spare held n 3 (([c0, c1, c2, c3, c4, c5, c6].drop 0).take (Tryz.prog.cellsOf 3)) = ys[0]? := hf 0 _ rfl
    rw [hi1, show ([c0, c1, c2, c3, c4, c5, c6].drop 0).take 1 = [c0] from rfl] at t0
    have t1 : DataW.trod enc Tryz.prog w base spare held n 9 (([c0, c1, c2, c3, c4, c5, c6].drop 1).take (Tryz.prog.cellsOf 9)) = ys[1]? := hf 1 _ rfl
    rw [hs1, show ([c0, c1, c2, c3, c4, c5, c6].drop 1).take 1 = [c1] from rfl] at t1
    have t2 : DataW.trod enc Tryz.prog w base spare held n 64 (([c0, c1, c2, c3, c4, c5, c6].drop 2).take (Tryz.prog.cellsOf 64)) = ys[2]? := hf 2 _ rfl
    rw [ha1, show ([c0, c1, c2, c3, c4, c5, c6].drop 2).take 5 = [c2, c3, c4, c5, c6] from rfl] at t2
    have y : ∀ j, j < 3 → ∃ z, ys[j]? = some z := fun j hj => ⟨_, List.getElem?_eq_getElem (by rw [hyl]; exact hj)⟩
    obtain ⟨z0, hz0⟩ := y 0 (by omega)
    obtain ⟨z1, hz1⟩ := y 1 (by omega)
    obtain ⟨z2, hz2⟩ := y 2 (by omega)
    rw [hz0] at t0
    rw [hz1] at t1
    rw [hz2] at t2
    obtain ⟨n0, e0, _, w0⟩ := DataW.trod_int Tryz.underlying3 t0
    obtain ⟨s1, e1, _, w1⟩ := DataW.trod_string Tryz.underlying9 t1
    obtain ⟨X, hX, eX⟩ := act_fields t2
    simp only [List.cons.injEq, and_true] at e0 e1
    subst e0 e1
    refine ⟨⟨n0, s1, X⟩, ⟨hX, i64_of_wf w0, w1⟩, ?_⟩
    show [_, _, c2, c3, c4, c5, c6] = _
    rw [eX]
    rfl
theorem open_steps {fuel : Nat} {v : Value} {x : DataW H × List MemPlace} (h : DataW.trod enc Tryz.prog w base spare held fuel 49 [v] = some x) :
    ∃ A c L, v = .slice A (List.length L) c ∧ Steps w w.heap.size A c L := by
  rcases open_slice Tryz.underlying49 h with ⟨hc, _⟩ | ⟨a, len, cap, m, n, D, Pl, hc, hb, hl, hm, hmm, _, hi⟩
  · simp at hc
    exact ⟨none, 0, [], hc, Nat.zero_le _, Nat.zero_le _, fun j hj => by simp at hj, fun j hj => by simp at hj⟩
  · simp at hc
    have hC : Tryz.prog.cellsOf 66 = 7 := by kernel_rfl
    have hle : len ≤ m := by rw [hmm]; split <;> omega
    have key0 : ∀ i, i < len → ∃ X : StepW, StepIn w w.heap.size X ∧ ∀ k, k < 7 → w.cell? (a.add (i * 7 + k)) = X.cells[k]? := by
      intro i hil
      obtain ⟨cs', hcs, ht'⟩ := hi i (by omega)
      rw [hC] at hcs
      obtain ⟨X, hX, eX⟩ := step_fields ht'
      refine ⟨X, hX, fun k hk => ?_⟩
      obtain ⟨_, hcl, hat⟩ := World.cells?_some hcs
      have h1 := hat k hk
      rw [← Go.Deep.add_add, h1, eX]
      simp
    have hA : 0 < len → ∃ b off, a = ⟨b, off, none⟩ ∧ b < w.heap.size ∧ ∀ k, a.add k = ⟨b, off + k, none⟩ := fun h0 => by
      obtain ⟨X, _, hc0⟩ := key0 0 h0
      exact add_off' (v := .int .i64 X.what) (by simpa [StepW.cells] using hc0 0 (by omega))
    have key : ∀ i, i < len → ∃ X : StepW, StepIn w w.heap.size X ∧ ∃ b off, a = ⟨b, off, none⟩ ∧ b < w.heap.size ∧ ∀ k, k < 7 → w.cell? ⟨b, off + (i * 7 + k), none⟩ = X.cells[k]? := by
      intro i hil
      obtain ⟨X, hX, hcX⟩ := key0 i hil
      obtain ⟨b, off, rfl, hb, ha⟩ := hA (by omega)
      exact ⟨X, hX, b, off, rfl, hb, fun k hk => by rw [← ha]; exact hcX k hk⟩
    obtain ⟨F, hF⟩ : ∃ F : Nat → StepW, ∀ i, i < len → StepIn w w.heap.size (F i) ∧ ∃ b off, a = ⟨b, off, none⟩ ∧ b < w.heap.size ∧ ∀ k, k < 7 → w.cell? ⟨b, off + (i * 7 + k), none⟩ = (F i).cells[k]? := by
      haveI : Inhabited StepW := ⟨⟨0, ⟨#[]⟩, ⟨⟨0, 0, 0, ⟨#[]⟩, []⟩, none, 0⟩⟩⟩
      exact choose_lt key
    refine ⟨some a, cap, (List.range len).map F, by simp [hc], by simpa using hl, hm, fun j hj => ?_, fun j hj => ?_⟩
    · simp only [List.length_map, List.length_range] at hj
      simpa using (hF j hj).1
    · simp only [List.length_map, List.length_range] at hj
      obtain ⟨b, off, h1, h2, h3⟩ := (hF j hj).2
      exact ⟨b, off, by rw [h1], h2, by simpa using h3⟩
end
end Go.Proofs.YtklcpckjmncdkaaGreatDoor
