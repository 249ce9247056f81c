/- PLAIN LAW of the statement TopSums: a sum that is kept by a journal, whose power fails again and again. No program in sight. -/
import Derived.Test.YtklcpckjmncdkaaGreatDoorLastLaw
namespace Go.Proofs.YtklcpckjmncdkaaGreatDoor
set_option maxRecDepth 100000
open Go.RowKit

/-! ### Numbers as digits -/
/-- What a row of digits comes to. -/
def numL (n : Nat) (l : List UInt8) : Nat := l.foldl (fun n c => n * 10 + (c - 48).toNat) n
def stN (s : ByteArray) : Nat := numL 0 s.data.toList
def dig (n : Nat) : List UInt8 := if _h : n = 0 then [] else dig (n / 10) ++ [UInt8.ofNat (48 + n % 10)]
termination_by n
decreasing_by omega
def digB (n : Nat) : ByteArray := ⟨(dig n).toArray⟩
theorem dig_zero : dig 0 = [] := by rw [dig]; rfl
theorem dig_pos {n : Nat} (h : 0 < n) : dig n = dig (n / 10) ++ [UInt8.ofNat (48 + n % 10)] := by rw [dig, dif_neg (by omega)]
theorem digit (k : Nat) (h : k < 10) : (UInt8.ofNat (48 + k) - 48).toNat = k := by
  have : ∀ k : Fin 10, (UInt8.ofNat (48 + k.1) - 48).toNat = k.1 := by decide
  exact this ⟨k, h⟩
theorem num_dig (n : Nat) : numL 0 (dig n) = n := by
  induction n using Nat.strongRecOn with
  | _ n ih =>
    rcases Nat.eq_zero_or_pos n with rfl | h
    · rw [dig_zero]; rfl
    · rw [dig_pos h, numL, List.foldl_append]
      have := ih (n / 10) (by omega)
      unfold numL at this
      rw [this]
      show n / 10 * 10 + _ = n
      rw [digit _ (by omega)]
      omega
theorem stN_dig (n : Nat) : stN (digB n) = n := num_dig n
theorem dig_len (n : Nat) : (dig n).length ≤ n := by
  induction n using Nat.strongRecOn with
  | _ n ih =>
    rcases Nat.eq_zero_or_pos n with rfl | h
    · rw [dig_zero]; exact Nat.le_refl _
    · have := ih (n / 10) (by omega)
      rw [dig_pos h, List.length_append, List.length_singleton]
      omega
theorem digB_size (n : Nat) : (digB n).size ≤ n := by rw [size_list]; exact dig_len n
theorem digB_zero : digB 0 = strE := by unfold digB; rw [dig_zero]; rfl

/-! ### What a state and records come to -/
def byteN (r : ByteArray) : Nat := (r.data.toList.headD 0).toNat
def recN (l : List ByteArray) : Nat := (l.map byteN).sum
def valN (st : ByteArray) (l : List ByteArray) : Nat := stN st + recN l
theorem recN_append (a b : List ByteArray) : recN (a ++ b) = recN a + recN b := by unfold recN; rw [List.map_append, List.sum_append_nat]
theorem byteN_le (r : ByteArray) : byteN r ≤ 255 := by unfold byteN; have := (r.data.toList.headD 0).toNat_lt; omega
structure Okv (st : ByteArray) (l : List ByteArray) (i : Nat) : Prop where
  num : ∃ v, st = digB v
  len : l.length ≤ i
  one : ∀ r ∈ l, r.size = 1
  le : valN st l ≤ 255 * i
theorem Okv.mono {st : ByteArray} {l : List ByteArray} {i j : Nat} (h : Okv st l i) (hij : i ≤ j) : Okv st l j := ⟨h.num, Nat.le_trans h.len hij, h.one, by have := h.le; omega⟩
theorem Okv.take {st : ByteArray} {a b : List ByteArray} {i : Nat} (h : Okv st (a ++ b) i) (q : Nat) : Okv st (a ++ b.take q) i := by
  refine ⟨h.num, ?_, fun r hr => h.one r ?_, ?_⟩
  · have := h.len; rw [List.length_append] at *; rw [List.length_take]; omega
  · rw [List.mem_append] at *; exact hr.imp id List.mem_of_mem_take
  · have := h.le
    unfold valN at *
    rw [recN_append] at *
    have e : recN b = recN (b.take q) + recN (b.drop q) := by rw [← recN_append, List.take_append_drop]
    omega
theorem Okv.add {st b : ByteArray} {l : List ByteArray} {i : Nat} (h : Okv st l i) (hb : b.size = 1) : Okv st (l ++ [b]) (i + 1) := by
  refine ⟨h.num, ?_, fun r hr => ?_, ?_⟩
  · have := h.len; rw [List.length_append, List.length_singleton]; omega
  · rcases List.mem_append.1 hr with h1 | h1
    · exact h.one r h1
    · rw [List.mem_singleton.1 h1]; exact hb
  · have h1 := h.le
    have h2 := byteN_le b
    unfold valN at *
    rw [recN_append]
    have e : recN [b] = byteN b := by unfold recN; simp
    omega
theorem Okv.size {st : ByteArray} {l : List ByteArray} {i : Nat} (h : Okv st l i) (hi : i ≤ 60) : st.size ≤ 15300 := by
  obtain ⟨v, hv⟩ := h.num
  have h1 := h.le
  have h2 := digB_size v
  unfold valN at h1
  rw [hv, stN_dig] at h1
  rw [hv]; omega
theorem Okv.file {st : ByteArray} {l : List ByteArray} {i : Nat} (h : Okv st l i) (hi : i ≤ 60) (gen m : Nat) : (fileX gen m st l).size ≤ 15809 := by
  have h1 := fileX_size gen m st l 1 (fun r hr => by rw [h.one r hr]; exact Nat.le_refl _)
  have h2 := h.size hi
  have h3 := h.len
  omega
theorem Okv.recs {st : ByteArray} {l : List ByteArray} {i : Nat} (h : Okv st l i) : ∀ r ∈ l, OkB (recB r) := fun r hr => okR (by rw [h.one r hr]; decide)
theorem Okv.new {v i : Nat} (h : v ≤ 255 * i) : Okv (digB v) [] i := ⟨⟨v, rfl⟩, Nat.zero_le _, fun r hr => by simp at hr, by unfold valN; rw [stN_dig]; unfold recN; simpa using h⟩
theorem valN_nil (v : Nat) : valN (digB v) [] = v := by unfold valN; rw [stN_dig]; rfl

/-! ### Files, whole and cut -/
def Closed (x : ByteArray) (lx : Nat) (p : ByteArray → Prop) : Prop := ∀ z, (z = x ∨ ∃ a, z = cutTo x lx a) → p z
theorem Closed.self {x : ByteArray} {lx : Nat} {p : ByteArray → Prop} (h : Closed x lx p) : p x := h x (.inl rfl)
theorem Closed.cut {x : ByteArray} {lx : Nat} {p : ByteArray → Prop} (h : Closed x lx p) (a : Int) : Closed (cutTo x lx a) (cutTo x lx a).size p := by
  rintro z (rfl | ⟨b, rfl⟩)
  · exact h _ (.inr ⟨a, rfl⟩)
  · rw [cutTo_all]; exact h _ (.inr ⟨a, rfl⟩)
theorem Closed.mono {x : ByteArray} {lx : Nat} {p q : ByteArray → Prop} (h : Closed x lx p) (hpq : ∀ z, p z → q z) : Closed x lx q := fun z hz => hpq z (h z hz)
theorem Closed.all {x : ByteArray} {p : ByteArray → Prop} (h : p x) : Closed x x.size p := by
  rintro z (rfl | ⟨b, rfl⟩)
  · exact h
  · rw [cutTo_all]; exact h
theorem cutTo_most (b : ByteArray) (l : Nat) (k : Int) : (cutTo b l k).size ≤ b.size := by unfold cutTo; rw [ByteArray.size_extract]; omega

/-- What file is found with: a generation, and what comes to a number of M. -/
def Good (M : List Int) (i gen : Nat) (z : ByteArray) : Prop := ∃ st recs, jread z = ⟨gen, st, recs⟩ ∧ Okv st recs i ∧ (valN st recs : Int) ∈ M
theorem Good.mono {M N : List Int} {i j gen : Nat} {z : ByteArray} (h : Good M i gen z) (hM : ∀ v ∈ M, v ∈ N) (hij : i ≤ j) : Good N j gen z := by
  obtain ⟨st, recs, h1, h2, h3⟩ := h
  exact ⟨st, recs, h1, h2.mono hij, hM _ h3⟩
/-- File x is the one that is found. -/
def Based (M : List Int) (i : Nat) (f : Int) (gen : Nat) (x y : ByteArray) (lx ly : Nat) : Prop :=
  (gen = 0 ∧ f = 1 ∧ Closed x lx (fun z => jread z = Img.none_) ∧ Closed y ly (fun z => jread z = Img.none_) ∧ 0 ∈ M) ∨
  (0 < gen ∧ Closed x lx (Good M i gen) ∧ Closed y ly (fun z => (jread z).gen < gen))
structure HeadS (D : Dk) (M : List Int) (n i : Nat) : Prop where
  at_ : ∃ f x y lx ly gen, (f = 0 ∨ f = 1) ∧ D = ado f x y lx ly 0 [] ∧ x.size ≤ 20000 ∧ y.size ≤ 20000 ∧ gen ≤ n ∧ Based M i f gen x y lx ly
theorem HeadS.mono {D : Dk} {M N : List Int} {n m i j : Nat} (h : HeadS D M n i) (hM : ∀ v ∈ M, v ∈ N) (hn : n ≤ m) (hij : i ≤ j) : HeadS D N m j := by
  obtain ⟨f, x, y, lx, ly, gen, h1, h2, h3, h4, h5, h6⟩ := h
  refine ⟨f, x, y, lx, ly, gen, h1, h2, h3, h4, Nat.le_trans h5 hn, ?_⟩
  rcases h6 with ⟨a, b, c, d, e⟩ | ⟨a, b, c⟩
  · exact .inl ⟨a, b, c, d, hM _ e⟩
  · exact .inr ⟨a, b.mono fun z hz => hz.mono hM hij, c⟩
theorem Based.cut {M : List Int} {i : Nat} {f : Int} {gen : Nat} {x y : ByteArray} {lx ly : Nat} (h : Based M i f gen x y lx ly) (a b : Int) : Based M i f gen (cutTo x lx a) (cutTo y ly b) (cutTo x lx a).size (cutTo y ly b).size := by
  rcases h with ⟨h1, h2, h3, h4, h5⟩ | ⟨h1, h2, h3⟩
  · exact .inl ⟨h1, h2, h3.cut a, h4.cut b, h5⟩
  · exact .inr ⟨h1, h2.cut a, h3.cut b⟩
theorem lose_head {M : List Int} {i n : Nat} {f : Int} {gen : Nat} {x y : ByteArray} {lx ly c : Nat} {ks kk : List Int} (hf : f = 0 ∨ f = 1) (h : Based M i f gen x y lx ly) (hx : x.size ≤ 20000) (hy : y.size ≤ 20000) (hn : gen ≤ n) :
    HeadS ((ado f x y lx ly c ks).lose kk).on M n i := by
  obtain ⟨a, b, e⟩ := ado_lost hf x y lx ly c ks kk
  rw [e, qdo_plain hf]
  exact ⟨f, _, _, _, _, gen, hf, rfl, Nat.le_trans (cutTo_most _ _ _) hx, Nat.le_trans (cutTo_most _ _ _) hy, hn, h.cut a b⟩
theorem ado_on {o : Int} (ho : o = 0 ∨ o = 1) (x y : ByteArray) (lx ly c : Nat) (ks : List Int) : (ado o x y lx ly c ks).on = ado o x y lx ly 0 [] := by rcases ho with rfl | rfl <;> rfl
theorem ado_asks {o : Int} (ho : o = 0 ∨ o = 1) (x y : ByteArray) (lx ly c : Nat) (ks : List Int) (N : Int) (kk : List Int) : Dk.doCut (ado o x y lx ly c ks) N kk = ado o x y lx ly N.toNat kk := by rcases ho with rfl | rfl <;> rfl
theorem ado_bytes {o : Int} (ho : o = 0 ∨ o = 1) (x y : ByteArray) (lx ly c : Nat) (ks : List Int) : (ado o x y lx ly c ks).bytes o = x ∧ (ado o x y lx ly c ks).bytes (1 - o) = y := by rcases ho with rfl | rfl <;> exact ⟨rfl, rfl⟩

/-! ### A journal at work -/
structure RunS (D : Dk) (o : Int) (gen : Nat) (st : ByteArray) (la si : List ByteArray) (M : List Int) (c : Nat) (ks : List Int) (i : Nat) : Prop where
  file : o = 0 ∨ o = 1
  pos : 0 < gen
  ok : Okv st (la ++ si) i
  mem : ∀ q, q ≤ si.length → (valN st (la ++ si.take q) : Int) ∈ M
  at_ : ∃ m y ly, D = ado o (fileX gen m st (la ++ si)) y (fileX gen m st la).size ly c ks ∧ 0 < m ∧ m ≤ 1 + la.length ∧ Closed y ly (fun z => (jread z).gen < gen) ∧ y.size ≤ 20000
theorem fileX_parts' (gen m : Nat) (st : ByteArray) (a b : List ByteArray) : (fileX gen m st (a ++ b)).data.toList = frs (bodies gen m st a) ++ frs (b.map recB) := by
  rw [fileX_list]
  have e : bodies gen m st (a ++ b) = bodies gen m st a ++ b.map recB := by simp [bodies]
  rw [e, frs_append]
theorem fileX_pre (gen m : Nat) (st : ByteArray) (a b : List ByteArray) : (fileX gen m st a).size ≤ (fileX gen m st (a ++ b)).size := by
  rw [size_list, size_list, fileX_parts', List.length_append, fileX_list]; omega
/-- A file that was cut behind what lasted. -/
theorem jread_cut' {gen m i : Nat} {st : ByteArray} {a b : List ByteArray} (hg : gen < 4294967296) (hp : 0 < gen) (hm : 0 < m) (hma : m ≤ 1 + a.length) (hok' : Okv st (a ++ b) i) (hi : i ≤ 60) {p : Nat} (h1 : (fileX gen m st a).size ≤ p) (h2 : p ≤ (fileX gen m st (a ++ b)).size) :
    ∃ q, q ≤ b.length ∧ jread ((fileX gen m st (a ++ b)).extract 0 p) = ⟨gen, st, a ++ b.take q⟩ := by
  obtain ⟨e1, e2⟩ := extract_split (fileX gen m st (a ++ b)) p h2
  have hok : ∀ r ∈ a ++ b, OkB (recB r) := hok'.recs
  have hss : OkB (markS ++ st) := okS (by have := hok'.size hi; omega)
  have hlen := hok'.len
  rw [List.length_append] at hlen
  rw [fileX_parts'] at e1
  have hfa : (frs (bodies gen m st a)).length = (fileX gen m st a).size := by rw [size_list, fileX_list]
  rw [size_list] at e2
  generalize (fileX gen m st (a ++ b)).extract 0 p = X at *
  obtain ⟨t, ht⟩ : ∃ t, X.data.toList = frs (bodies gen m st a) ++ t := by
    rcases List.append_eq_append_iff.1 e1 with ⟨z, hz, _⟩ | ⟨z, hz, _⟩
    · exact ⟨z, hz⟩
    · have : z = [] := by
        have := congrArg List.length hz
        rw [List.length_append] at this
        exact List.eq_nil_of_length_eq_zero (by omega)
      subst this
      exact ⟨[], by rw [hz]; simp⟩
  rw [ht, List.append_assoc] at e1
  have e3 := List.append_cancel_left e1
  obtain ⟨q, hq, t', hfr, hst⟩ : ∃ q, q ≤ b.length ∧ ∃ t', X.data.toList = frs (bodies gen m st (a ++ b.take q)) ++ t' ∧ (unframe X ((frs (bodies gen m st (a ++ b.take q))).length : Int)).2.2 ≠ 0 := by
    have eb : ∀ l, frs (bodies gen m st (a ++ l)) = frs (bodies gen m st a) ++ frs (l.map recB) := fun l => by rw [← fileX_list, fileX_parts']
    by_cases hu : (fileX gen m st (a ++ b)).data.toList.drop p = []
    · rw [fileX_parts'] at hu
      rw [hu, List.append_nil] at e3
      refine ⟨b.length, Nat.le_refl _, [], by rw [List.take_length, eb, e3, List.append_nil]; exact ht, ?_⟩
      rw [List.take_length, un_end (by rw [size_list, ht, eb, e3])]; omega
    · rw [fileX_parts'] at hu
      obtain ⟨l1, bd, l2, t', u', f1, f2, f3, f4⟩ := split_frs _ _ _ e3 hu
      obtain ⟨r1, r2, hrr, hr1, hr2⟩ := List.map_eq_append_iff.1 f1
      have hbk : b.take r1.length = r1 := by rw [hrr, List.take_left]
      have hX : X.data.toList = frs (bodies gen m st (a ++ r1)) ++ t' := by rw [ht, f2, eb, hr1, List.append_assoc]
      refine ⟨r1.length, by rw [hrr, List.length_append]; omega, t', by rw [hbk]; exact hX, ?_⟩
      rw [hbk]
      have hbd : OkB bd := by
        have : bd ∈ b.map recB := by rw [f1]; simp
        obtain ⟨r, hr, rfl⟩ := List.mem_map.1 this
        exact hok r (by simp [hr])
      rw [un_torn hX f3 f4 hbd rfl]; omega
  refine ⟨q, hq, ?_⟩
  have hall : ∀ r ∈ a ++ b.take q, OkB (recB r) := fun r hr => hok r (by
    rw [List.mem_append] at hr ⊢
    exact hr.imp id List.mem_of_mem_take)
  rw [jread_bodies hfr hg (by omega) hss hall hst, if_neg (by rw [List.length_append]; omega)]
/-- A journal's file, whole and cut. -/
theorem file_closed {gen m i : Nat} {st : ByteArray} {a b : List ByteArray} {M : List Int} (hg : gen ≤ 1000) (hp : 0 < gen) (hm : 0 < m) (hma : m ≤ 1 + a.length) (hok : Okv st (a ++ b) i) (hi : i ≤ 60) (hM : ∀ q, q ≤ b.length → (valN st (a ++ b.take q) : Int) ∈ M) :
    Closed (fileX gen m st (a ++ b)) (fileX gen m st a).size (Good M i gen) := by
  rintro z (rfl | ⟨k, rfl⟩)
  · have hl := hok.len
    rw [List.length_append] at hl
    refine ⟨st, a ++ b, jread_fileX (by omega) hp (by omega) hm (by rw [List.length_append]; omega) (okS (by have := hok.size hi; omega)) hok.recs, hok, ?_⟩
    have := hM b.length (Nat.le_refl _)
    rwa [List.take_length] at this
  · obtain ⟨p, h1, h2, e⟩ := cutTo_some k (fileX_pre gen m st a b)
    rw [e]
    obtain ⟨q, hq, hj⟩ := jread_cut' (by omega) hp hm hma hok hi h1 h2
    exact ⟨st, _, hj, hok.take q, hM q hq⟩
section
variable {D : Dk} {o : Int} {gen : Nat} {st : ByteArray} {la si : List ByteArray} {M : List Int} {c : Nat} {ks : List Int} {i : Nat}
theorem RunS.based (h : RunS D o gen st la si M c ks i) (hg : gen ≤ 1000) (hi : i ≤ 60) : ∃ x y lx ly, D = ado o x y lx ly c ks ∧ x.size ≤ 20000 ∧ y.size ≤ 20000 ∧ Based M i o gen x y lx ly := by
  obtain ⟨ho, hp, hok, hM, m, y, ly, rfl, hm, hml, hy, hys⟩ := h
  exact ⟨_, _, _, _, rfl, by have := hok.file hi gen m; omega, hys, .inr ⟨hp, file_closed hg hp hm hml hok hi hM, hy⟩⟩
/-- The loop goes on: nothing was lost, nothing is asked any more. -/
theorem RunS.head (h : RunS D o gen st la si M c ks i) (hg : gen ≤ 1000) (hi : i ≤ 60) : HeadS D.on M gen i := by
  have ho := h.file
  obtain ⟨x, y, lx, ly, rfl, hx, hy, hb⟩ := h.based hg hi
  rw [ado_on ho]
  exact ⟨o, x, y, lx, ly, gen, ho, rfl, hx, hy, Nat.le_refl _, hb⟩
theorem run_add' {b : ByteArray} (h : RunS D o gen st la si M c ks i) (hg : gen ≤ 1000) (hi : i < 60) (hb : b.size = 1) :
    (∃ D' c', jadd D ⟨o, gen, false⟩ b = (0, D', ⟨o, gen, false⟩) ∧ RunS D' o gen st la (si ++ [b]) ((valN st (la ++ si ++ [b]) : Int) :: M) c' ks (i + 1) ∧ (c = 0 → c' = 0)) ∨
    (c ≠ 0 ∧ ∃ D' J', jadd D ⟨o, gen, false⟩ b = (240, D', J') ∧ HeadS D'.on ((valN st (la ++ si ++ [b]) : Int) :: M) gen (i + 1)) := by
  obtain ⟨ho, hp, hok, hM, m, y, ly, rfl, hm, hml, hy, hys⟩ := h
  have hsz := hok.file (by omega : i ≤ 60) gen m
  have hok2 : Okv st (la ++ (si ++ [b])) (i + 1) := by rw [← List.append_assoc]; exact hok.add hb
  have hM2 : ∀ q, q ≤ (si ++ [b]).length → (valN st (la ++ (si ++ [b]).take q) : Int) ∈ (valN st (la ++ si ++ [b]) : Int) :: M := by
    intro q hq
    rw [List.length_append, List.length_singleton] at hq
    by_cases hq2 : q ≤ si.length
    · rw [List.take_append_of_le_length hq2]
      exact List.mem_cons_of_mem _ (hM q hq2)
    · have e : q = (si ++ [b]).length := by rw [List.length_append, List.length_singleton]; omega
      rw [e, List.take_length, List.append_assoc]
      exact List.mem_cons_self
  have hbase : ∀ z, z = fileX gen m st (la ++ (si ++ [b])) → Based ((valN st (la ++ si ++ [b]) : Int) :: M) (i + 1) o gen z y (fileX gen m st la).size ly := by
    rintro z rfl
    exact .inr ⟨hp, file_closed hg hp hm hml hok2 (by omega) hM2, hy⟩
  have hsz2 := hok2.file (by omega : i + 1 ≤ 60) gen m
  have hf : frameR (markR ++ b) = _ := frameR_ok (okR (r := b) (by omega))
  have hFs : (⟨(frame (recB b).data.toList).toArray⟩ : ByteArray).size = 7 + b.size := by rw [size_list, show (frame (recB b).data.toList).toArray.toList = frame (recB b).data.toList from rfl, frame_length, ← size_list, recB_size]; omega
  have happ := ado_append ho (fileX gen m st (la ++ si)) y ⟨(frame (recB b).data.toList).toArray⟩ (fileX gen m st la).size ly c ks (by omega) (by omega)
  rw [fileX_add, List.append_assoc] at happ
  unfold jadd
  rw [if_neg (show ¬ (Jr.broken ⟨o, gen, false⟩) = true from by show ¬ false = true; decide)]
  have hm' : markR ++ b = recB b := rfl
  rw [hm'] at hf ⊢
  simp only [hf]
  rw [if_neg (by simp), happ]
  by_cases h1 : c = 1
  · right
    rw [if_pos h1]
    exact ⟨by omega, _, _, rfl, lose_head ho (hbase _ rfl) (by omega) hys (Nat.le_refl _)⟩
  · left
    rw [if_neg h1]
    exact ⟨_, _, rfl, ⟨ho, hp, hok2, hM2, m, y, ly, rfl, hm, hml, hy, hys⟩, by omega⟩
theorem run_sync' (h : RunS D o gen st la si M c ks i) (hg : gen ≤ 1000) (hi : i ≤ 60) :
    (∃ D' c', jsync D ⟨o, gen, false⟩ = (0, D', ⟨o, gen, false⟩) ∧ RunS D' o gen st (la ++ si) [] [(valN st (la ++ si) : Int)] c' ks i ∧ (c = 0 → c' = 0)) ∨
    (c ≠ 0 ∧ ∃ D' J', jsync D ⟨o, gen, false⟩ = (240, D', J') ∧ HeadS D'.on M gen i) := by
  obtain ⟨ho, hp, hok, hM, m, y, ly, rfl, hm, hml, hy, hys⟩ := h
  have hsz := hok.file hi gen m
  unfold jsync
  rw [if_neg (show ¬ (Jr.broken ⟨o, gen, false⟩) = true from by show ¬ false = true; decide)]
  simp only
  rw [ado_dosync ho]
  by_cases h1 : c = 1
  · right
    rw [if_pos h1]
    exact ⟨by omega, _, _, rfl, lose_head ho (.inr ⟨hp, file_closed hg hp hm hml hok hi hM, hy⟩) (by omega) hys (Nat.le_refl _)⟩
  · left
    rw [if_neg h1]
    refine ⟨_, _, rfl, ⟨ho, hp, by rw [List.append_nil]; exact hok, ?_, m, y, ly, by rw [List.append_nil], hm, by rw [List.length_append]; omega, hy, hys⟩, by omega⟩
    intro q _
    simp
/-- A new file in the other's place. -/
theorem lay_ado {x y : ByteArray} {lx ly : Nat} {recs : List ByteArray} (ho : o = 0 ∨ o = 1) (hg : gen ≤ 1000) (hi : i ≤ 60) (hb : Based M i o gen x y lx ly) (hx : x.size ≤ 20000) (hy : y.size ≤ 20000) (hok : Okv st recs i) (hv : (valN st recs : Int) ∈ M) :
    (∃ D' c', jlay (ado o x y lx ly c ks) ⟨o, gen, false⟩ st recs = (0, D', ⟨1 - o, gen + 1, false⟩) ∧ RunS D' (1 - o) (gen + 1) st recs [] [(valN st recs : Int)] c' ks i ∧ (c = 0 → c' = 0)) ∨
    (c ≠ 0 ∧ ∃ D' J', jlay (ado o x y lx ly c ks) ⟨o, gen, false⟩ st recs = (240, D', J') ∧ HeadS D'.on M (gen + 1) i) := by
  have hof : 1 - o = 0 ∨ 1 - o = 1 := by omega
  have hFe : fileB (gen + 1) st recs = fileX (gen + 1) recs.length.succ st recs := rfl
  have hFsz := hok.file hi (gen + 1) recs.length.succ
  have hF0 := fileB_pos (gen + 1) st recs
  have hss : OkB (markS ++ st) := okS (by have := hok.size hi; omega)
  have hbodies : ∀ b ∈ bodies (gen + 1) (1 + recs.length) st recs, OkB b := by
    intro b hb
    simp only [bodies, List.mem_cons, List.mem_map] at hb
    rcases hb with rfl | rfl | ⟨r, hr', rfl⟩
    · exact headB_ok _ _
    · exact hss
    · exact hok.recs r hr'
  have hFb : (⟨(frs (bodies (gen + 1) (1 + recs.length) st recs)).toArray⟩ : ByteArray) = fileB (gen + 1) st recs := by unfold fileB; rw [Nat.add_comm 1 recs.length]
  have hlay : ∀ r, three (ado o x y lx ly c ks) (1 - o) (fileB (gen + 1) st recs) = r → jlay (ado o x y lx ly c ks) ⟨o, gen, false⟩ st recs = (if r.1 ≠ 0 then (r.1, r.2, ⟨o, gen, true⟩) else (0, r.2, ⟨1 - o, gen + 1, false⟩)) := by
    intro r hr
    unfold jlay
    rw [if_neg (by simp only; omega)]
    simp only [lframes_texts, lfr_ok _ _ hbodies, List.nil_append, hFb, hr]
    by_cases hr0 : r.1 = 0
    · simp [hr0]
    · simp [hr0]
  have hlow : Closed x lx (fun z => (jread z).gen < gen + 1) := by
    rcases hb with ⟨h1, h2, h3, h4, h5⟩ | ⟨h1, h2, h3⟩
    · exact h3.mono fun z hz => by rw [hz]; exact Nat.succ_pos _
    · exact h2.mono fun z ⟨s, r, hz, _⟩ => by rw [hz]; exact Nat.lt_succ_self _
  have hflip := ado_flip ho x y lx ly c ks
  rcases three_ado hof (x := y) (y := x) (F := fileB (gen + 1) st recs) (lx := ly) (ly := lx) (c := c) (ks := ks) hF0 (by rw [hFe]; omega) with ⟨c', h, hc⟩ | ⟨hc, c', h⟩ | ⟨hc, c', h⟩
  · left
    rw [← hflip] at h
    refine ⟨_, c', hlay _ h, ?_, hc⟩
    refine ⟨hof, Nat.succ_pos _, by rw [List.append_nil]; exact hok, fun q _ => by simp, recs.length.succ, x, lx, by rw [List.append_nil]; rfl, Nat.succ_pos _, by omega, hlow, hx⟩
  · right
    rw [← hflip] at h
    refine ⟨hc, _, _, hlay _ h, ?_⟩
    simp only
    rw [← ado_flip ho]
    exact lose_head ho hb hx hy (Nat.le_succ _)
  · right
    rw [← hflip] at h
    refine ⟨hc, _, _, hlay _ h, ?_⟩
    simp only
    obtain ⟨a, b, e⟩ := ado_lost hof (fileB (gen + 1) st recs) x 0 lx c' ks ks
    rw [e]
    obtain ⟨p, hp, hz⟩ := cutTo_zero (fileB (gen + 1) st recs) a
    rw [hz, ← qdo_flip ho, qdo_plain ho]
    have hpz : ((fileB (gen + 1) st recs).extract 0 p).size ≤ 20000 := by rw [(extract_split _ p hp).2, hFe] at *; omega
    have hcx : (cutTo x lx b).size ≤ 20000 := Nat.le_trans (cutTo_most _ _ _) hx
    rcases jread_part (gen := gen + 1) (s := st) (recs := recs) (by omega) (Nat.succ_pos _) (by have := hok.len; omega) hss hok.recs p hp with hq | ⟨_, hq⟩
    · refine ⟨o, _, _, _, _, gen, ho, rfl, hcx, hpz, Nat.le_succ _, ?_⟩
      rcases hb with ⟨h1, h2, h3, h4, h5⟩ | ⟨h1, h2, h3⟩
      · exact .inl ⟨h1, h2, h3.cut b, Closed.all hq, h5⟩
      · exact .inr ⟨h1, h2.cut b, Closed.all (by rw [hq]; exact h1)⟩
    · rw [ado_flip ho]
      refine ⟨1 - o, _, _, _, _, gen + 1, hof, rfl, hpz, hcx, Nat.le_refl _, ?_⟩
      exact .inr ⟨Nat.succ_pos _, Closed.all ⟨st, recs, hq, hok, hv⟩, hlow.cut b⟩
theorem run_compact' (h : RunS D o gen st la si M c ks i) (hg : gen ≤ 1000) (hi : i ≤ 60) :
    (∃ D' c', jcompact D ⟨o, gen, false⟩ (digB (valN st (la ++ si))) = (0, D', ⟨1 - o, gen + 1, false⟩) ∧ RunS D' (1 - o) (gen + 1) (digB (valN st (la ++ si))) [] [] [(valN st (la ++ si) : Int)] c' ks i ∧ (c = 0 → c' = 0)) ∨
    (c ≠ 0 ∧ ∃ D' J', jcompact D ⟨o, gen, false⟩ (digB (valN st (la ++ si))) = (240, D', J') ∧ HeadS D'.on M (gen + 1) i) := by
  have ho := h.file
  have hle := h.ok.le
  have hv := h.mem si.length (Nat.le_refl _)
  rw [List.take_length] at hv
  obtain ⟨x, y, lx, ly, rfl, hx, hy, hb⟩ := h.based hg hi
  have hl := lay_ado (c := c) (ks := ks) (st := digB (valN st (la ++ si))) (recs := []) ho hg hi hb hx hy (Okv.new hle) (by rw [valN_nil]; exact hv)
  rw [valN_nil] at hl
  unfold jcompact
  rw [if_neg (show ¬ (Jr.broken ⟨o, gen, false⟩) = true from by show ¬ false = true; decide)]
  exact hl
end
/-- An opening: it comes about, or the power fails at it. -/
theorem sums_open {D : Dk} {M : List Int} {n i c : Nat} {ks : List Int} (h : HeadS D M n i) (hn : n ≤ 500) (hi : i ≤ 60) (N : Int) (hN : N.toNat = c) :
    (∃ D' o gen st recs c', jopen (Dk.doCut D N ks) = (0, D', ⟨o, gen + 1, false⟩, ⟨gen, st, recs⟩) ∧ gen ≤ n ∧ Okv st recs i ∧ (valN st recs : Int) ∈ M ∧ RunS D' o (gen + 1) st recs [] [(valN st recs : Int)] c' ks i ∧ (c = 0 → c' = 0)) ∨
    (c ≠ 0 ∧ ∃ D' J' I', jopen (Dk.doCut D N ks) = (240, D', J', I') ∧ HeadS D'.on M (n + 1) i) := by
  obtain ⟨f, x, y, lx, ly, gen, hf, rfl, hx, hy, hgn, hB⟩ := h
  subst hN
  rw [ado_asks hf]
  obtain ⟨bx, by_⟩ := ado_bytes hf x y lx ly N.toNat ks
  obtain ⟨st, recs, hj, hok, hv⟩ : ∃ st recs, jfound (ado f x y lx ly N.toNat ks) = (⟨gen, st, recs⟩, ⟨f, gen, false⟩) ∧ Okv st recs i ∧ (valN st recs : Int) ∈ M := by
    rcases hB with ⟨rfl, rfl, h3, h4, h5⟩ | ⟨h1, h2, h3⟩
    · refine ⟨strE, [], ?_, ?_, ?_⟩
      · unfold jfound
        have e0 : jread ((ado 1 x y lx ly N.toNat ks).bytes 0) = Img.none_ := h4.self
        have e1 : jread ((ado 1 x y lx ly N.toNat ks).bytes 1) = Img.none_ := h3.self
        have e2 : jstep (ado 1 x y lx ly N.toNat ks) 0 jfirst = jfirst := if_neg (by rw [e0]; decide)
        rw [e2]
        exact if_neg (by rw [e1]; decide)
      · rw [← digB_zero]; exact Okv.new (Nat.zero_le _)
      · rw [← digB_zero, valN_nil]; exact h5
    · obtain ⟨st, recs, hj, hok, hv⟩ := h2.self
      exact ⟨st, recs, jfound_of ⟨hf, by rw [bx]; exact hj, h1, by rw [by_]; exact h3.self⟩, hok, hv⟩
  have hoff : ¬ (ado f x y lx ly N.toNat ks).off = true := by
    rcases hf with rfl | rfl
    · show ¬ false = true; decide
    · show ¬ false = true; decide
  have hopen : jopen (ado f x y lx ly N.toNat ks) = ((jlay (ado f x y lx ly N.toNat ks) ⟨f, gen, false⟩ st recs).1, (jlay (ado f x y lx ly N.toNat ks) ⟨f, gen, false⟩ st recs).2.1, (jlay (ado f x y lx ly N.toNat ks) ⟨f, gen, false⟩ st recs).2.2, ⟨gen, st, recs⟩) := by
    unfold jopen
    rw [if_neg hoff, hj]
  rw [hopen]
  rcases lay_ado (c := N.toNat) (ks := ks) hf (by omega) hi hB hx hy hok hv with ⟨D', c', h1, h2, h3⟩ | ⟨hc, D', J', h1, h2⟩
  · left
    rw [h1]
    exact ⟨D', 1 - f, gen, st, recs, c', rfl, hgn, hok, hv, h2, h3⟩
  · right
    rw [h1]
    exact ⟨hc, D', J', _, rfl, h2.mono (fun _ h => h) (by omega) (Nat.le_refl _)⟩
theorem new_ado : Dk.new 1048576 = ado 1 strE strE 0 0 0 [] := rfl
theorem heads_new : HeadS (Dk.new 1048576).on [0] 0 0 := by
  have je : jread strE = Img.none_ := jread_empty rfl
  have hc : Closed strE 0 (fun z => jread z = Img.none_) := by
    have := Closed.all (x := strE) (p := fun z => jread z = Img.none_) je
    exact this
  exact ⟨1, strE, strE, 0, 0, 0, .inr rfl, rfl, by decide, by decide, Nat.le_refl _, .inl ⟨rfl, rfl, hc, hc, by simp⟩⟩
theorem HeadS.asks {D : Dk} {M : List Int} {n i : Nat} (h : HeadS D M n i) : D = Dk.doCut D 0 [] := by
  obtain ⟨f, x, y, lx, ly, gen, hf, rfl, _⟩ := h
  rw [ado_asks hf]; rfl
end Go.Proofs.YtklcpckjmncdkaaGreatDoor
