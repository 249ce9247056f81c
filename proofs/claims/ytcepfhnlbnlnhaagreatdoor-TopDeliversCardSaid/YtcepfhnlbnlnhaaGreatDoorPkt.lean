/- PACKETS, MESSAGES AND FLIGHTS as rows of cells. -/
import Derived.Test.YtcepfhnlbnlnhaaGreatDoorIn
namespace Go.Proofs.YtcepfhnlbnlnhaaGreatDoor
set_option maxRecDepth 100000
open Go.RowKit

structure Pkt where
  k : Int
  d : Bool
  q : Int
  n : Int
  t : ByteArray
  b : ByteArray
  c : Int
def Pkt.enc (p : Pkt) : Array Value :=
  #[.int .i64 p.k, .bool p.d, .bool false, .int .i64 p.q, .int .i64 p.n, .string p.t, .string p.b, .int .u8 p.c, .slice none 0 0, .slice none 0 0, .string ⟨#[]⟩, .bool false, .int .i64 0, .bool false, .string ⟨#[]⟩, .string ⟨#[]⟩, .int .i64 0,
    .bool false, .slice none 0 0, .bool false, .bool false, .string ⟨#[]⟩, .string ⟨#[]⟩, .bool false, .slice none 0 0, .slice none 0 0]
structure Msg where
  t : ByteArray
  b : ByteArray
  q : Int
def Msg.enc (m : Msg) : Array Value := #[.string m.t, .string m.b, .int .i64 m.q, .bool false, .string ⟨#[]⟩]
structure Fl where
  id : Int
  m : Msg
  rel : Bool
def Fl.enc (f : Fl) : Array Value := #[.int .i64 f.id, .string f.m.t, .string f.m.b, .int .i64 f.m.q, .bool false, .string ⟨#[]⟩, .bool f.rel]
theorem Pkt.size (p : Pkt) : p.enc.size = 26 := rfl
theorem Msg.size (m : Msg) : m.enc.size = 5 := rfl
theorem Fl.size (f : Fl) : f.enc.size = 7 := rfl
theorem Pkt.one (p : Pkt) : p.enc.all (·.oneCell') = true := by simp [Pkt.enc, Value.oneCell']
theorem Msg.one (m : Msg) : m.enc.all (·.oneCell') = true := by simp [Msg.enc, Value.oneCell']
theorem Fl.one (f : Fl) : f.enc.all (·.oneCell') = true := by simp [Fl.enc, Value.oneCell']
theorem one_list {a : Array Value} (h : a.all (·.oneCell') = true) : ∀ u ∈ a.toList, u.oneCell' = true := fun u hu => Array.all_eq_true_iff_forall_mem.1 h u (by simpa using hu)
/-! ### Flat lists -/
section
variable {α : Type} (f : α → Array Value)
def flat (l : List α) : List Value := (l.map fun x => (f x).toList).flatten
theorem flat_nil : flat f [] = [] := rfl
theorem flat_cons (x : α) (l : List α) : flat f (x :: l) = (f x).toList ++ flat f l := by simp [flat]
theorem flat_append (a b : List α) : flat f (a ++ b) = flat f a ++ flat f b := by simp [flat]
theorem flat_one (x : α) : flat f [x] = (f x).toList := by simp [flat]
theorem flat_len {n : Nat} (hf : ∀ x, (f x).size = n) : ∀ l : List α, (flat f l).length = l.length * n
  | [] => by simp [flat]
  | x :: l => by rw [flat_cons, List.length_append, Array.length_toList, hf, flat_len hf l, List.length_cons, Nat.succ_mul]; omega
theorem flat_oneCell (h1 : ∀ x, (f x).all (·.oneCell') = true) : ∀ l : List α, ∀ u ∈ flat f l, u.oneCell' = true
  | [], u, h => by simp [flat] at h
  | x :: l, u, h => by
    rw [flat_cons] at h
    rcases List.mem_append.1 h with h | h
    · exact one_list (h1 x) u h
    · exact flat_oneCell h1 l u h
theorem flat_split {n : Nat} (hf : ∀ x, (f x).size = n) {l : List α} {i : Nat} (h : i < l.length) : flat f l = flat f (l.take i) ++ (f l[i]).toList ++ flat f (l.drop (i + 1)) ∧ (flat f (l.take i)).length = i * n := by
  refine ⟨?_, by rw [flat_len f hf, List.length_take, Nat.min_eq_left (by omega)]⟩
  conv => lhs; rw [← List.take_append_drop i l, List.drop_eq_getElem_cons h]
  rw [flat_append, flat_cons, List.append_assoc]
end
/-- A row of the call's own, its elements told. -/
def RowOf {α : Type} (f : α → Array Value) (n : Nat) (w : World) (v : Value) (l : List α) : Prop := QRow w n v l.length (flat f l)
section
variable {α : Type} {f : α → Array Value} {n : Nat} {w w' : World} {v : Value} {l : List α}
theorem RowOf.nil (f : α → Array Value) (n : Nat) (w : World) : RowOf f n w (.slice none 0 0) [] := QRow.nil w n
theorem RowOf.chg {S : List Nat} (h : RowOf f n w v l) (hc : Chg w w' S) (hv : ∀ g, v.ownBlock = some g → g ∉ S) : RowOf f n w' v l := QRow.chg h hc hv
theorem RowOf.lt (h : RowOf f n w v l) : ∀ g, v.ownBlock = some g → g < w.heap.size := QRow.lt h
theorem RowOf.slice (h : RowOf f n w v l) : ∃ A c, v = .slice A l.length c ∧ (A = none → c = 0) ∧ c ≤ maxLen ∧ l.length ≤ c := QRow.slice h
theorem RowOf.at_ (h : RowOf f n w v l) (hf : ∀ x, (f x).size = n) {i : Nat} (hi : i < l.length) : ∃ g off cap, v = .slice (some ⟨g, off, none⟩) l.length cap ∧ l.length ≤ cap ∧ cap ≤ maxLen ∧ g < w.heap.size ∧ w.rangeAt g (off + i * n) (f l[i]).toList ∧ w.there g (off + i * n) n := by
  obtain ⟨g, off, cap, hv, h1, h2, h3, h4, h5⟩ := QRow.form h (by omega)
  obtain ⟨e1, e2⟩ := flat_split f hf hi
  refine ⟨g, off, cap, hv, h1, h2, h5, ?_, fun j hj => ?_⟩
  · rw [e1] at h3
    have := rangeAt_part h3
    rwa [e2] at this
  · have hle : (i + 1) * n ≤ cap * n := Nat.mul_le_mul_right _ (by omega)
    rw [Nat.succ_mul] at hle
    have := h4 (i * n + j) (by omega)
    rwa [← Nat.add_assoc] at this
end
theorem Tryz.infoPkt : (Tryz.prog.info? 56).map (fun i => (i.zero, i.size, i.bytes)) = some (some (.agg (Pkt.enc ⟨0, false, 0, 0, ⟨#[]⟩, ⟨#[]⟩, 0⟩)), 26, 328) := by kernel_rfl
theorem Tryz.infoMsg : (Tryz.prog.info? 38).map (fun i => (i.zero, i.size, i.bytes)) = some (some (.agg (Msg.enc ⟨⟨#[]⟩, ⟨#[]⟩, 0⟩)), 5, 64) := by kernel_rfl
theorem Tryz.infoFl : (Tryz.prog.info? 66).map (fun i => (i.zero, i.size, i.bytes)) = some (some (.agg (Fl.enc ⟨0, ⟨⟨#[]⟩, ⟨#[]⟩, 0⟩, false⟩)), 7, 80) := by kernel_rfl
theorem fill_pkt (p : Pkt) (z : Pkt) : Instr.fill (fun i => some (i * 26, 26)) ((Array.range (1 * 26)).map ((Value.agg z.enc).cells[· % (Value.agg z.enc).cells.size]!)) [(0, .agg p.enc)] = some p.enc := by cases p; cases z; kernel_rfl
theorem fill_msg (m : Msg) (z : Msg) : Instr.fill (fun i => some (i * 5, 5)) ((Array.range (1 * 5)).map ((Value.agg z.enc).cells[· % (Value.agg z.enc).cells.size]!)) [(0, .agg m.enc)] = some m.enc := by cases m; cases z; kernel_rfl
theorem fill_fl (p : Fl) (z : Fl) : Instr.fill (fun i => some (i * 7, 7)) ((Array.range (1 * 7)).map ((Value.agg z.enc).cells[· % (Value.agg z.enc).cells.size]!)) [(0, .agg p.enc)] = some p.enc := by rcases p with ⟨_, ⟨_, _, _⟩, _⟩; rcases z with ⟨_, ⟨_, _, _⟩, _⟩; kernel_rfl
theorem wpList_buildSliceTo {P : Program} {ops : Array Oper} {rest : List Oper} {o : Oper} {a : Act} {w : World} {Q : Exit → Act → World → Prop} (N : Nat) (hN : w.heap.size = N) (hg : o.guard = none) (t e : TypeId) (len : Nat) (parts : Array (Nat × Operand)) (ho : o.op = .buildSlice t len parts)
    (cells : Array Value) (ie : TypeInfo) (z : Value)
    (hu : P.underlying t = some (.slice e)) (hie : P.info? e = some ie) (hz : ie.zero = some z) (hsmall : ¬ len * ie.size > 2 ^ 24) (hpos : ¬ len * ie.size = 0)
    (hf : Instr.fill (fun i => some (i * ie.size, ie.size)) ((Array.range (len * ie.size)).map (z.cells[· % z.cells.size]!)) (parts.map fun (i, x) => (i, a.eval x)).toList = some cells)
    (h : wpList P ops Q rest (a.put o.dst (.slice (some ⟨N, 0, none⟩) len len)) (w.alloc (.cells cells e))) : wpList P ops Q (o :: rest) a w := by
  subst hN
  exact wpList_buildSlice hg t e len parts ho cells ie z hu hie hz hsmall hpos hf h
/-- One element in a block of its own: a row. -/
theorem row_new {α : Type} {f : α → Array Value} {n : Nat} (hf : ∀ x, (f x).size = n) (w : World) (e : TypeId) (x : α) : RowOf f n (w.alloc (.cells (f x) e)) (.slice (some ⟨w.heap.size, 0, none⟩) 1 1) [x] := by
  have hb := Blk.new w e (f x)
  refine ⟨by rw [flat_len f hf], .inr ⟨w.heap.size, 0, 1, rfl, Nat.le_refl _, by unfold maxLen; omega, fun j u hu => ?_, fun j hj => ?_, hb.lt⟩⟩
  · rw [flat_one, Array.getElem?_toList] at hu
    rw [hb.cell (0 + j), Nat.zero_add]; exact hu
  · rw [hb.cell (0 + j), hb.frozen (0 + j), Array.getElem?_eq_getElem (by rw [hf]; omega)]
    exact ⟨rfl, rfl⟩
end Go.Proofs.YtcepfhnlbnlnhaaGreatDoor
