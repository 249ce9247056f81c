/- PLAIN LAW of the statement JournalLasts: wherever the power fails, what lasted is there, and behind it a beginning of what was added since. No program in sight. -/
import Derived.Test.YtklcpckjmncdkaaGreatDoorCompLaw
namespace Go.Proofs.YtklcpckjmncdkaaGreatDoor
set_option maxRecDepth 100000
open Go.RowKit

/-- A disk that is on, with what was asked of it: x is what file o holds, y the other. -/
def ado (o : Int) (x y : ByteArray) (lx ly c : Nat) (ks : List Int) : Dk := if o = 0 then ad x y lx ly c ks else ad y x ly lx c ks
/-- .. all of it lasting, nothing asked. -/
def qdo (o : Int) (x y : ByteArray) : Dk := if o = 0 then qd x y x.size y.size else qd y x y.size x.size
theorem ado_find {o : Int} (ho : o = 0 ∨ o = 1) (n : Int) (hn : n = 0 ∨ n = 1) (x y : ByteArray) (lx ly c : Nat) (ks : List Int) : (ado o x y lx ly c ks).find n = 0 := by
  rcases ho with rfl | rfl <;> rcases hn with rfl | rfl <;> rfl
theorem ado_put {o : Int} (ho : o = 0 ∨ o = 1) (x y s : ByteArray) (lx ly c : Nat) (ks : List Int) : Dk.put s o (ado o x y lx ly c ks) = ado o (x ++ s) y lx ly c ks := by rcases ho with rfl | rfl <;> rfl
theorem ado_sync {o : Int} (ho : o = 0 ∨ o = 1) (x y : ByteArray) (lx ly c : Nat) (ks : List Int) : Dk.sync o (ado o x y lx ly c ks) = ado o x y x.size ly c ks := by rcases ho with rfl | rfl <;> rfl
theorem ado_wipe {o : Int} (ho : o = 0 ∨ o = 1) (x y : ByteArray) (lx ly c : Nat) (ks : List Int) : Dk.wipe o (ado o x y lx ly c ks) = ado o ⟨#[]⟩ y 0 ly c ks := by rcases ho with rfl | rfl <;> rfl
theorem ado_tick {o : Int} (ho : o = 0 ∨ o = 1) (x y : ByteArray) (lx ly c : Nat) (ks : List Int) : (ado o x y lx ly c ks).ticked = ado o x y lx ly (c - 1) ks := by rcases ho with rfl | rfl <;> rfl
theorem ado_parts {o : Int} (ho : o = 0 ∨ o = 1) (x y : ByteArray) (lx ly c : Nat) (ks : List Int) : (ado o x y lx ly c ks).cut = c ∧ (ado o x y lx ly c ks).brk = 0 ∧ (ado o x y lx ly c ks).full = false ∧ (ado o x y lx ly c ks).keep = ks ∧ (ado o x y lx ly c ks).off = false ∧
    (ado o x y lx ly c ks).lim = 1048576 ∧ (ado o x y lx ly c ks).b0.size + (ado o x y lx ly c ks).b1.size = x.size + y.size := by
  rcases ho with rfl | rfl
  · exact ⟨rfl, rfl, rfl, rfl, rfl, rfl, rfl⟩
  · exact ⟨rfl, rfl, rfl, rfl, rfl, rfl, Nat.add_comm _ _⟩
theorem ado_flip {o : Int} (ho : o = 0 ∨ o = 1) (x y : ByteArray) (lx ly c : Nat) (ks : List Int) : ado o x y lx ly c ks = ado (1 - o) y x ly lx c ks := by rcases ho with rfl | rfl <;> rfl
theorem qdo_flip {o : Int} (ho : o = 0 ∨ o = 1) (x y : ByteArray) : qdo o x y = qdo (1 - o) y x := by rcases ho with rfl | rfl <;> rfl
theorem qdo_bytes {o : Int} (ho : o = 0 ∨ o = 1) (x y : ByteArray) : (qdo o x y).bytes o = x ∧ (qdo o x y).bytes (1 - o) = y := by rcases ho with rfl | rfl <;> exact ⟨rfl, rfl⟩
theorem ado_lost {o : Int} (ho : o = 0 ∨ o = 1) (x y : ByteArray) (lx ly c : Nat) (ks kk : List Int) : ∃ a b, ((ado o x y lx ly c ks).lose kk).on = qdo o (cutTo x lx a) (cutTo y ly b) := by
  rcases ho with rfl | rfl
  · exact ⟨kk.getD 0 0, kk.getD 1 0, rfl⟩
  · exact ⟨kk.getD 1 0, kk.getD 0 0, rfl⟩
theorem ado_crash {o : Int} (ho : o = 0 ∨ o = 1) (x y : ByteArray) (lx ly c : Nat) (ks : List Int) : (ado o x y lx ly c ks).crash [] = qdo o (cutTo x lx 0) (cutTo y ly 0) := by
  rcases ho with rfl | rfl
  · exact ad_crash x y lx ly c ks []
  · exact ad_crash y x ly lx c ks []
theorem qdo_asks {o : Int} (ho : o = 0 ∨ o = 1) (x y : ByteArray) (N : Int) (ks : List Int) : Dk.doCut (qdo o x y) N ks = ado o x y x.size y.size N.toNat ks := by rcases ho with rfl | rfl <;> rfl
theorem qdo_plain {o : Int} (ho : o = 0 ∨ o = 1) (x y : ByteArray) : qdo o x y = ado o x y x.size y.size 0 [] := by rcases ho with rfl | rfl <;> rfl

theorem ado_clear {o : Int} (ho : o = 0 ∨ o = 1) (x y : ByteArray) (lx ly c : Nat) (ks : List Int) : (ado o x y lx ly c ks).doClear o = if c = 1 then (240, (ado o x y lx ly (c - 1) ks).lose ks) else (0, ado o ⟨#[]⟩ y 0 ly (c - 1) ks) := by
  obtain ⟨p1, p2, p3, p4, _⟩ := ado_parts ho x y lx ly c ks
  unfold Dk.doClear
  rw [if_neg (by rw [ado_find ho o ho]; decide)]
  by_cases h : c = 1
  · rw [if_pos h, change_cut1 (by rw [p1]; exact h), p4, ado_tick ho]; rfl
  · rw [if_neg h, change_go (by rw [p1]; exact h) p2 p3, ado_tick ho, ado_wipe ho]
theorem ado_append {o : Int} (ho : o = 0 ∨ o = 1) (x y F : ByteArray) (lx ly c : Nat) (ks : List Int) (hF : F.size ≠ 0) (hsp : x.size + y.size + F.size ≤ 1048576) : (ado o x y lx ly c ks).append o F = if c = 1 then (240, (ado o (x ++ F) y lx ly (c - 1) ks).lose ks) else (0, ado o (x ++ F) y lx ly (c - 1) ks) := by
  obtain ⟨p1, p2, p3, p4, _, p6, p7⟩ := ado_parts ho x y lx ly c ks
  unfold Dk.append
  rw [if_neg (by rw [ado_find ho o ho]; decide), if_neg (by rw [p6, p7]; omega), if_neg hF]
  by_cases h : c = 1
  · rw [if_pos h, change_cut1 (by rw [p1]; exact h), p4, ado_tick ho, ado_put ho]
  · rw [if_neg h, change_go (by rw [p1]; exact h) p2 p3, ado_tick ho, ado_put ho]
theorem ado_dosync {o : Int} (ho : o = 0 ∨ o = 1) (x y : ByteArray) (lx ly c : Nat) (ks : List Int) : (ado o x y lx ly c ks).doSync o = if c = 1 then (240, (ado o x y lx ly (c - 1) ks).lose ks) else (0, ado o x y x.size ly (c - 1) ks) := by
  obtain ⟨p1, p2, p3, p4, _⟩ := ado_parts ho x y lx ly c ks
  unfold Dk.doSync
  rw [if_neg (by rw [ado_find ho o ho]; decide)]
  by_cases h : c = 1
  · rw [if_pos h, change_cut1 (by rw [p1]; exact h), p4, ado_tick ho]; rfl
  · rw [if_neg h, change_go (by rw [p1]; exact h) p2 p3, ado_tick ho, ado_sync ho]
theorem three_ado {o : Int} (ho : o = 0 ∨ o = 1) {x y F : ByteArray} {lx ly c : Nat} {ks : List Int} (hF : F.size ≠ 0) (hsp : y.size + F.size ≤ 1048576) :
    (∃ c', three (ado o x y lx ly c ks) o F = (0, ado o F y F.size ly c' ks) ∧ (c = 0 → c' = 0)) ∨ (c ≠ 0 ∧ ∃ c', three (ado o x y lx ly c ks) o F = (240, (ado o x y lx ly c' ks).lose ks)) ∨ (c ≠ 0 ∧ ∃ c', three (ado o x y lx ly c ks) o F = (240, (ado o F y 0 ly c' ks).lose ks)) := by
  have happ := ado_append ho ⟨#[]⟩ y F 0 ly (c - 1) ks hF (by show 0 + y.size + F.size ≤ 1048576; omega)
  rw [empty_append'] at happ
  unfold three
  rw [ado_clear ho]
  by_cases h1 : c = 1
  · right; left
    rw [if_pos h1, if_pos (by show (240 : Nat) ≠ 0; decide)]
    exact ⟨by omega, _, rfl⟩
  · rw [if_neg h1, if_neg (by simp)]
    simp only
    rw [happ]
    by_cases h2 : c - 1 = 1
    · right; right
      rw [if_pos h2, if_pos (by show (240 : Nat) ≠ 0; decide)]
      exact ⟨by omega, _, rfl⟩
    · rw [if_neg h2, if_neg (by simp)]
      simp only
      rw [ado_dosync ho]
      by_cases h3 : c - 1 - 1 = 1
      · right; right
        rw [if_pos h3]
        exact ⟨by omega, _, rfl⟩
      · left
        rw [if_neg h3]
        exact ⟨_, rfl, by omega⟩

/-! ### What a journal is opened with -/
def Base (D : Dk) (f : Int) (gen : Nat) (recs : List ByteArray) : Prop :=
  (gen = 0 ∧ f = 1 ∧ recs = [] ∧ (jread (D.bytes 0)).gen = 0 ∧ (jread (D.bytes 1)).gen = 0) ∨ Found D f gen strE recs
theorem Base.file {D : Dk} {f : Int} {gen : Nat} {recs : List ByteArray} (h : Base D f gen recs) : f = 0 ∨ f = 1 := by
  rcases h with ⟨_, h, _⟩ | h
  · exact .inr h
  · exact h.file
theorem Base.jfound {D : Dk} {f : Int} {gen : Nat} {recs : List ByteArray} (h : Base D f gen recs) : jfound D = (⟨gen, strE, recs⟩, ⟨f, gen, false⟩) := by
  rcases h with ⟨rfl, rfl, rfl, h0, h1⟩ | h
  · unfold Proofs.YtklcpckjmncdkaaGreatDoor.jfound
    have e1 : jstep D 0 jfirst = jfirst := if_neg (by rw [h0]; decide)
    rw [e1]
    exact if_neg (by rw [h1]; decide)
  · exact jfound_of h
theorem Base.below {D : Dk} {f : Int} {gen : Nat} {recs : List ByteArray} (h : Base D f gen recs) : (jread (D.bytes f)).gen ≤ gen := by
  rcases h with ⟨rfl, rfl, rfl, h0, h1⟩ | h
  · omega
  · rw [h.read]; exact Nat.le_refl _
structure HeadOk (D : Dk) (lasted since : List ByteArray) (n : Nat) : Prop where
  at_ : ∃ f gen k x y, D = qdo f x y ∧ Base D f gen ((lasted ++ since).take k) ∧ lasted.length ≤ k ∧ k ≤ (lasted ++ since).length ∧ gen ≤ n ∧ x.size ≤ 10000 ∧ y.size ≤ 10000
/-- The lists are short. -/
structure Short (l : List ByteArray) : Prop where
  len : l.length ≤ 40
  each : ∀ r ∈ l, r.size ≤ 100
structure Run (D : Dk) (o : Int) (gen : Nat) (lasted since : List ByteArray) (c : Nat) (ks : List Int) : Prop where
  file : o = 0 ∨ o = 1
  pos : 0 < gen
  at_ : ∃ m y, D = ado o (fileX gen m strE (lasted ++ since)) y (fileX gen m strE lasted).size y.size c ks ∧ 0 < m ∧ m ≤ 1 + lasted.length ∧ (jread y).gen < gen ∧ y.size ≤ 10000
theorem fileX_parts (gen m : Nat) (a b : List ByteArray) : (fileX gen m strE (a ++ b)).data.toList = frs (bodies gen m strE a) ++ frs (b.map recB) := by
  rw [fileX_list]
  have e : bodies gen m strE (a ++ b) = bodies gen m strE a ++ b.map recB := by simp [bodies]
  rw [e, frs_append]
/-- A file that was cut behind what lasted. -/
theorem jread_cut {gen m : Nat} {a b : List ByteArray} (hg : gen < 4294967296) (hp : 0 < gen) (hm : 0 < m) (hma : m ≤ 1 + a.length) (ha : Short (a ++ b)) {p : Nat} (h1 : (fileX gen m strE a).size ≤ p) (h2 : p ≤ (fileX gen m strE (a ++ b)).size) :
    ∃ q, q ≤ b.length ∧ jread ((fileX gen m strE (a ++ b)).extract 0 p) = ⟨gen, strE, a ++ b.take q⟩ := by
  obtain ⟨e1, e2⟩ := extract_split (fileX gen m strE (a ++ b)) p h2
  have hok : ∀ r ∈ a ++ b, OkB (recB r) := fun r hr => okR (by have := ha.each r hr; omega)
  have hlen := ha.len
  rw [List.length_append] at hlen
  rw [fileX_parts] at e1
  have hfa : (frs (bodies gen m strE a)).length = (fileX gen m strE a).size := by rw [size_list, fileX_list]
  rw [size_list] at e2
  generalize (fileX gen m strE (a ++ b)).extract 0 p = X at *
  obtain ⟨t, ht⟩ : ∃ t, X.data.toList = frs (bodies gen m strE a) ++ t := by
    rcases List.append_eq_append_iff.1 e1 with ⟨z, hz, _⟩ | ⟨z, hz, _⟩
    · exact ⟨z, hz⟩
    · have : z = [] := by
        have := congrArg List.length hz
        rw [List.length_append] at this
        exact List.eq_nil_of_length_eq_zero (by omega)
      subst this
      exact ⟨[], by rw [hz]; simp⟩
  rw [ht, List.append_assoc] at e1
  have e3 := List.append_cancel_left e1
  obtain ⟨q, hq, t', hfr, hst⟩ : ∃ q, q ≤ b.length ∧ ∃ t', X.data.toList = frs (bodies gen m strE (a ++ b.take q)) ++ t' ∧ (unframe X ((frs (bodies gen m strE (a ++ b.take q))).length : Int)).2.2 ≠ 0 := by
    have eb : ∀ l, frs (bodies gen m strE (a ++ l)) = frs (bodies gen m strE a) ++ frs (l.map recB) := fun l => by rw [← fileX_list, fileX_parts]
    by_cases hu : (fileX gen m strE (a ++ b)).data.toList.drop p = []
    · rw [fileX_parts] at hu
      rw [hu, List.append_nil] at e3
      refine ⟨b.length, Nat.le_refl _, [], by rw [List.take_length, eb, e3, List.append_nil]; exact ht, ?_⟩
      rw [List.take_length, un_end (by rw [size_list, ht, eb, e3])]; omega
    · rw [fileX_parts] at hu
      obtain ⟨l1, bd, l2, t', u', f1, f2, f3, f4⟩ := split_frs _ _ _ e3 hu
      obtain ⟨r1, r2, hrr, hr1, hr2⟩ := List.map_eq_append_iff.1 f1
      have hbk : b.take r1.length = r1 := by rw [hrr, List.take_left]
      have hX : X.data.toList = frs (bodies gen m strE (a ++ r1)) ++ t' := by rw [ht, f2, eb, hr1, List.append_assoc]
      refine ⟨r1.length, by rw [hrr, List.length_append]; omega, t', by rw [hbk]; exact hX, ?_⟩
      rw [hbk]
      have hbd : OkB bd := by
        have : bd ∈ b.map recB := by rw [f1]; simp
        obtain ⟨r, hr, rfl⟩ := List.mem_map.1 this
        exact hok r (by simp [hr])
      rw [un_torn hX f3 f4 hbd rfl]; omega
  refine ⟨q, hq, ?_⟩
  have hall : ∀ r ∈ a ++ b.take q, OkB (recB r) := fun r hr => hok r (by
    rw [List.mem_append] at hr ⊢
    exact hr.imp id List.mem_of_mem_take)
  rw [jread_bodies hfr hg (by omega) (okS (by decide)) hall hst, if_neg (by rw [List.length_append]; omega)]
theorem short_size {l : List ByteArray} (h : Short l) (gen m : Nat) : (fileX gen m strE l).size ≤ 4309 := by
  have h1 := fileX_size gen m strE l 100 h.each
  have h2 := h.len
  have h3 : l.length * (7 + 100) ≤ 40 * (7 + 100) := Nat.mul_le_mul_right _ h2
  have h4 : strE.size = 0 := rfl
  omega
theorem Short.left {a b : List ByteArray} (h : Short (a ++ b)) : Short a := ⟨by have := h.len; rw [List.length_append] at this; omega, fun r hr => h.each r (by simp [hr])⟩
theorem cutTo_some {b : ByteArray} {l : Nat} (k : Int) (h : l ≤ b.size) : ∃ p, l ≤ p ∧ p ≤ b.size ∧ cutTo b l k = b.extract 0 p := ⟨l + kept (b.size - l) k, by omega, by have := kept_le (b.size - l) k; omega, rfl⟩
/-- The power fails behind an opening. -/
theorem run_lost {o : Int} {gen m c : Nat} {lasted since : List ByteArray} {y : ByteArray} {ks kk : List Int} (ho : o = 0 ∨ o = 1) (hp : 0 < gen) (hg : gen ≤ 100) (hm : 0 < m) (hml : m ≤ 1 + lasted.length) (hy : (jread y).gen < gen) (hys : y.size ≤ 10000) (hs : Short (lasted ++ since)) :
    HeadOk ((ado o (fileX gen m strE (lasted ++ since)) y (fileX gen m strE lasted).size y.size c ks).lose kk).on lasted since gen := by
  obtain ⟨a, b, e⟩ := ado_lost ho (fileX gen m strE (lasted ++ since)) y (fileX gen m strE lasted).size y.size c ks kk
  rw [e, cutTo_all]
  have hle : (fileX gen m strE lasted).size ≤ (fileX gen m strE (lasted ++ since)).size := by
    rw [size_list, size_list, fileX_parts, List.length_append, fileX_list]; omega
  obtain ⟨p, hp1, hp2, hc⟩ := cutTo_some a hle
  rw [hc]
  obtain ⟨q, hq, hj⟩ := jread_cut (by omega) hp hm hml hs hp1 hp2
  obtain ⟨b1, b2⟩ := qdo_bytes ho ((fileX gen m strE (lasted ++ since)).extract 0 p) y
  have hsz := short_size hs gen m
  refine ⟨o, gen, lasted.length + q, _, _, rfl, .inr ⟨ho, ?_, hp, by rw [b2]; exact hy⟩, by omega, by rw [List.length_append]; omega, Nat.le_refl _, by rw [(extract_split _ p hp2).2]; omega, hys⟩
  rw [b1, hj]
  congr 1
  show lasted ++ since.take q = (lasted ++ since).take (lasted.length + q)
  rw [List.take_append, List.take_of_length_le (l := lasted) (Nat.le_add_right _ _), Nat.add_sub_cancel_left]
theorem run_add {D : Dk} {o : Int} {gen c : Nat} {lasted since : List ByteArray} {ks : List Int} {b : ByteArray} (h : Run D o gen lasted since c ks) (hg : gen ≤ 100) (hs : Short (lasted ++ (since ++ [b]))) :
    (∃ D' c', jadd D ⟨o, gen, false⟩ b = (0, D', ⟨o, gen, false⟩) ∧ Run D' o gen lasted (since ++ [b]) c' ks ∧ (c = 0 → c' = 0)) ∨
    (c ≠ 0 ∧ ∃ D' J', jadd D ⟨o, gen, false⟩ b = (240, D', J') ∧ HeadOk D'.on lasted (since ++ [b]) gen) := by
  obtain ⟨ho, hp, m, y, rfl, hm, hml, hy, hys⟩ := h
  have hbs : b.size ≤ 100 := hs.each b (by simp)
  have hs' : Short (lasted ++ since) := by rw [← List.append_assoc] at hs; exact hs.left
  have hsz := short_size hs' gen m
  have hf : frameR (markR ++ b) = _ := frameR_ok (okR (r := b) (by omega))
  have hFs : (⟨(frame (recB b).data.toList).toArray⟩ : ByteArray).size = 7 + b.size := by rw [size_list, show (frame (recB b).data.toList).toArray.toList = frame (recB b).data.toList from rfl, frame_length, ← size_list, recB_size]; omega
  have happ := ado_append ho (fileX gen m strE (lasted ++ since)) y ⟨(frame (recB b).data.toList).toArray⟩ (fileX gen m strE lasted).size y.size c ks (by omega) (by omega)
  rw [fileX_add, List.append_assoc] at happ
  unfold jadd
  rw [if_neg (show ¬ (Jr.broken ⟨o, gen, false⟩) = true from by show ¬ false = true; decide)]
  have hm' : markR ++ b = recB b := rfl
  rw [hm'] at hf ⊢
  simp only [hf]
  rw [if_neg (by simp), happ]
  by_cases h1 : c = 1
  · right
    rw [if_pos h1]
    exact ⟨by omega, _, _, rfl, run_lost ho hp hg hm hml hy hys hs⟩
  · left
    rw [if_neg h1]
    exact ⟨_, _, rfl, ⟨ho, hp, m, y, rfl, hm, hml, hy, hys⟩, by omega⟩
theorem run_sync {D : Dk} {o : Int} {gen c : Nat} {lasted since : List ByteArray} {ks : List Int} (h : Run D o gen lasted since c ks) (hg : gen ≤ 100) (hs : Short (lasted ++ since)) :
    (∃ D' c', jsync D ⟨o, gen, false⟩ = (0, D', ⟨o, gen, false⟩) ∧ Run D' o gen (lasted ++ since) [] c' ks ∧ (c = 0 → c' = 0)) ∨
    (c ≠ 0 ∧ ∃ D' J', jsync D ⟨o, gen, false⟩ = (240, D', J') ∧ HeadOk D'.on lasted since gen) := by
  obtain ⟨ho, hp, m, y, rfl, hm, hml, hy, hys⟩ := h
  unfold jsync
  rw [if_neg (show ¬ (Jr.broken ⟨o, gen, false⟩) = true from by show ¬ false = true; decide)]
  simp only
  rw [ado_dosync ho]
  by_cases h1 : c = 1
  · right
    rw [if_pos h1]
    exact ⟨by omega, _, _, rfl, run_lost ho hp hg hm hml hy hys hs⟩
  · left
    rw [if_neg h1]
    exact ⟨_, _, rfl, ⟨ho, hp, m, y, by rw [List.append_nil], hm, by rw [List.length_append]; omega, hy, hys⟩, by omega⟩
/-- Behind the last crash what lasted is there, and no more. -/
theorem run_crash {D : Dk} {o : Int} {gen c : Nat} {lasted since : List ByteArray} {ks : List Int} (h : Run D o gen lasted since c ks) (hg : gen ≤ 100) (hs : Short (lasted ++ since)) :
    ∃ D' J', jopen (D.crash []) = (0, D', J', ⟨gen, strE, lasted⟩) := by
  obtain ⟨ho, hp, m, y, rfl, hm, hml, hy, hys⟩ := h
  rw [ado_crash ho, cutTo_all]
  have hX : cutTo (fileX gen m strE (lasted ++ since)) (fileX gen m strE lasted).size 0 = fileX gen m strE lasted := by
    unfold cutTo
    rw [kept_zero, extract_at (s := fileX gen m strE (lasted ++ since)) (a := 0) (b := (fileX gen m strE lasted).size + 0) (pre := []) (x := frs (bodies gen m strE lasted)) (post := frs (since.map recB)) (by rw [fileX_parts]; rfl) rfl (by rw [size_list, fileX_list]; simp)]
    rfl
  rw [hX]
  have hl := hs.left
  have hsz := short_size hl gen m
  have hj : jread (fileX gen m strE lasted) = ⟨gen, strE, lasted⟩ := jread_fileX (by omega) hp (by have := hl.len; omega) hm hml (okS (by decide)) (fun r hr => okR (by have := hl.each r hr; omega))
  obtain ⟨b1, b2⟩ := qdo_bytes ho (fileX gen m strE lasted) y
  have hF : Found (qdo o (fileX gen m strE lasted) y) o gen strE lasted := ⟨ho, by rw [b1]; exact hj, hp, by rw [b2]; exact hy⟩
  have hB := hl.len
  have open_it : ∀ c0 b1 : ByteArray, c0.size ≤ 10000 → b1.size ≤ 10000 → Found (qd c0 b1 c0.size b1.size) o gen strE lasted → ∃ D' J', jopen (qd c0 b1 c0.size b1.size) = (0, D', J', ⟨gen, strE, lasted⟩) := by
    intro c0 b1 h0 h1 hF
    have hsz2 := short_size hl (gen + 1) lasted.length.succ
    have hw : (Dk.wipe (1 - o) (qd c0 b1 c0.size b1.size)).b0.size + (Dk.wipe (1 - o) (qd c0 b1 c0.size b1.size)).b1.size ≤ 20000 := by
      unfold Dk.wipe qd
      split
      · show 0 + b1.size ≤ 20000; omega
      · show c0.size + 0 ≤ 20000; omega
    have l := lay_quiet (J := ⟨o, gen, false⟩) (s := strE) (recs := lasted) (qd_quiet c0 b1 c0.size b1.size) ho (by simp only; omega) (okS (by decide)) (fun r hr => okR (by have := hl.each r hr; omega)) (by
      have e : fileB (gen + 1) strE lasted = fileX (gen + 1) lasted.length.succ strE lasted := rfl
      simp only
      rw [e]
      show _ ≤ 1048576
      omega)
    unfold jopen
    rw [if_neg (show ¬ (qd c0 b1 c0.size b1.size).off = true from by show ¬ false = true; decide), jfound_of hF]
    simp only
    rw [l]
    exact ⟨_, _, rfl⟩
  rcases ho with rfl | rfl
  · exact open_it _ _ (by omega) hys hF
  · exact open_it _ _ hys (by omega) hF
/-- An opening: it comes about, or the power fails at it. -/
theorem lasts_open {D : Dk} {lasted since : List ByteArray} {n c : Nat} {ks : List Int} (h : HeadOk D lasted since n) (hn : n ≤ 50) (hs : Short (lasted ++ since)) (N : Int) (hN : N.toNat = c) :
    (∃ D' o gen k c', jopen (Dk.doCut D N ks) = (0, D', ⟨o, gen + 1, false⟩, ⟨gen, strE, (lasted ++ since).take k⟩) ∧ lasted.length ≤ k ∧ k ≤ (lasted ++ since).length ∧ gen ≤ n ∧ Run D' o (gen + 1) ((lasted ++ since).take k) [] c' ks ∧ (c = 0 → c' = 0)) ∨
    (c ≠ 0 ∧ ∃ D' J' I', jopen (Dk.doCut D N ks) = (240, D', J', I') ∧ HeadOk D'.on lasted since (n + 1)) := by
  obtain ⟨f, gen, k, x, y, rfl, hB, hk1, hk2, hgn, hx, hy⟩ := h
  have hf := hB.file
  have hof : 1 - f = 0 ∨ 1 - f = 1 := by omega
  subst hN
  have hj : jfound (Dk.doCut (qdo f x y) N ks) = (⟨gen, strE, (lasted ++ since).take k⟩, ⟨f, gen, false⟩) := by
    have := hB.jfound
    have e : ∀ i, (Dk.doCut (qdo f x y) N ks).bytes i = (qdo f x y).bytes i := fun i => rfl
    unfold Proofs.YtklcpckjmncdkaaGreatDoor.jfound jstep at *
    rw [e, e]
    exact this
  have hrs : Short ((lasted ++ since).take k) := ⟨by rw [List.length_take]; have := hs.len; omega, fun r hr => hs.each r (List.mem_of_mem_take hr)⟩
  have hbel := hB.below
  obtain ⟨bx, by_⟩ := qdo_bytes hf x y
  rw [bx] at hbel
  generalize hR : (lasted ++ since).take k = recs at *
  have hFe : fileB (gen + 1) strE recs = fileX (gen + 1) recs.length.succ strE recs := rfl
  have hFsz := short_size hrs (gen + 1) recs.length.succ
  have hF0 := fileB_pos (gen + 1) strE recs
  have hbodies : ∀ b ∈ bodies (gen + 1) (1 + recs.length) strE recs, OkB b := by
    intro b hb
    simp only [bodies, List.mem_cons, List.mem_map] at hb
    rcases hb with rfl | rfl | ⟨r, hr', rfl⟩
    · exact headB_ok _ _
    · exact okS (by decide)
    · exact okR (by have := hrs.each r hr'; omega)
  have hFb : (⟨(frs (bodies (gen + 1) (1 + recs.length) strE recs)).toArray⟩ : ByteArray) = fileB (gen + 1) strE recs := by unfold fileB; rw [Nat.add_comm 1 recs.length]
  have hoff : ¬ (Dk.doCut (qdo f x y) N ks).off = true := by
    rcases hf with rfl | rfl
    · show ¬ false = true; decide
    · show ¬ false = true; decide
  have hflip : Dk.doCut (qdo f x y) N ks = ado (1 - f) y x y.size x.size N.toNat ks := by rw [qdo_asks hf, ado_flip hf]
  have hopen : ∀ r, three (Dk.doCut (qdo f x y) N ks) (1 - f) (fileB (gen + 1) strE recs) = r → jopen (Dk.doCut (qdo f x y) N ks) = (if r.1 ≠ 0 then (r.1, r.2, ⟨f, gen, true⟩, ⟨gen, strE, recs⟩) else (0, r.2, ⟨1 - f, gen + 1, false⟩, ⟨gen, strE, recs⟩)) := by
    intro r hr
    unfold jopen
    rw [if_neg hoff, hj]
    simp only
    unfold jlay
    rw [if_neg (by simp only; omega)]
    simp only [lframes_texts, lfr_ok _ _ hbodies, List.nil_append, hFb, hr]
    by_cases hr0 : r.1 = 0
    · simp [hr0]
    · simp [hr0]
  have other : ∀ (z : ByteArray), z.size ≤ 10000 → (Base (qdo f x z) f gen recs ∨ Base (qdo f x z) (1 - f) (gen + 1) recs) → HeadOk (qdo f x z) lasted since (n + 1) := by
    intro z hz hb
    rcases hb with hb | hb
    · exact ⟨f, gen, k, x, z, rfl, by rw [hR]; exact hb, hk1, hk2, by omega, hx, hz⟩
    · exact ⟨1 - f, gen + 1, k, z, x, qdo_flip hf x z, by rw [hR]; exact hb, hk1, hk2, by omega, hz, hx⟩
  have keepB : ∀ z : ByteArray, (jread z).gen = 0 → Base (qdo f x z) f gen recs := by
    intro z hz
    obtain ⟨c1, c2⟩ := qdo_bytes hf x z
    rcases hB with ⟨h1, h2, h3, h4, h5⟩ | hB
    · left
      subst h2
      refine ⟨h1, rfl, h3, ?_, ?_⟩
      · exact hz ▸ rfl
      · exact h5
    · right
      exact ⟨hf, by rw [c1, ← bx]; exact hB.read, hB.pos, by rw [c2, hz]; exact hB.pos⟩
  rcases three_ado hof (x := y) (y := x) (F := fileB (gen + 1) strE recs) (lx := y.size) (ly := x.size) (c := N.toNat) (ks := ks) hF0 (by rw [hFe]; omega) with ⟨c', h, hc⟩ | ⟨hc, c', h⟩ | ⟨hc, c', h⟩
  · left
    rw [← hflip] at h
    refine ⟨_, 1 - f, gen, k, c', by rw [hR]; exact hopen _ h, hk1, hk2, hgn, ?_, hc⟩
    rw [hR]
    exact ⟨hof, Nat.succ_pos _, recs.length.succ, x, by rw [List.append_nil]; rfl, Nat.succ_pos _, by omega, by omega, hx⟩
  · right
    rw [← hflip] at h
    refine ⟨hc, _, _, _, hopen _ h, ?_⟩
    simp only
    obtain ⟨a, b, e⟩ := ado_lost hof y x y.size x.size c' ks ks
    rw [e, cutTo_all, cutTo_all, ← qdo_flip hf x y]
    exact other y hy (.inl hB)
  · right
    rw [← hflip] at h
    refine ⟨hc, _, _, _, hopen _ h, ?_⟩
    simp only
    obtain ⟨a, b, e⟩ := ado_lost hof (fileB (gen + 1) strE recs) x 0 x.size c' ks ks
    rw [e, cutTo_all]
    obtain ⟨p, hp, hz⟩ := cutTo_zero (fileB (gen + 1) strE recs) a
    rw [hz, ← qdo_flip hf x]
    have hpz : ((fileB (gen + 1) strE recs).extract 0 p).size ≤ 10000 := by rw [(extract_split _ p hp).2, hFe] at *; omega
    rcases jread_part (gen := gen + 1) (s := strE) (recs := recs) (by omega) (Nat.succ_pos _) (by have := hrs.len; omega) (okS (by decide)) (fun r hr => okR (by have := hrs.each r hr; omega)) p hp with hq | ⟨_, hq⟩
    · exact other _ hpz (.inl (keepB _ (by rw [hq]; rfl)))
    · refine other _ hpz (.inr (.inr ?_))
      obtain ⟨c1, c2⟩ := qdo_bytes hf x ((fileB (gen + 1) strE recs).extract 0 p)
      refine ⟨hof, by rw [c2]; exact hq, Nat.succ_pos _, ?_⟩
      rw [show 1 - (1 - f) = f by omega, c1]; omega
end Go.Proofs.YtklcpckjmncdkaaGreatDoor
