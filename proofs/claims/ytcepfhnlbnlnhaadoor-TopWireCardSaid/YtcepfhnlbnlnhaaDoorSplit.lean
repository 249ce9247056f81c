/- THE WALK of stream.Split at whole packets and a beginning of the next. -/
import Derived.Test.YtcepfhnlbnlnhaaDoorGetH
import Derived.Test.YtcepfhnlbnlnhaaDoorReads7
import Derived.WalkMore
namespace Go.Proofs.YtcepfhnlbnlnhaaDoor
set_option maxRecDepth 100000
open Go.RowKit

theorem byte_part {S : ByteArray} {r t l : List UInt8} (hS : S.data.toList = r) (he : r ++ t = l) {i : Nat} (h : i < r.length) : ∃ h' : i < S.size, ∀ x, l[i]? = some x → S[i] = x := by
  obtain ⟨h', e⟩ := byte_here hS h
  refine ⟨h', fun x hx => ?_⟩
  have : l[i]? = some r[i] := by rw [← he, List.getElem?_append_left h, List.getElem?_eq_getElem h]
  rw [this] at hx
  rw [e]
  exact Option.some.inj hx
theorem vget_part {w : World} {S : ByteArray} {p : Pk} {r : List UInt8} (hok : p.Ok) (hS : S.data.toList = r) (hr : r ≠ []) (hp : Part r p) :
    Calls Tryd.prog 30 #[.string S, .int .i64 1] w fun e w' => w = w' ∧ (e = .returned (.tuple #[.int .i64 0, .int .i64 0, .int .u8 242]) ∨ ∃ n fr : Nat, e = .returned (.tuple #[.int .i64 (n : Int), .int .i64 (fr : Int), .int .u8 0]) ∧ fr + n ≤ 400 ∧ S.size < fr + n ∧ fr ≤ S.size) := by
  obtain ⟨t, ht, he⟩ := hp
  have hb := p.body_len hok
  have hel := p.enc_len
  have hvl := vi_len p.bodyL.length
  have hsz : S.size = r.length := by rw [size_list, hS]
  have hrl : r.length < p.enc.length := by
    rw [← he, List.length_append]
    have : t.length ≠ 0 := fun h => ht (List.eq_nil_of_length_eq_zero h)
    omega
  have hr0 : r.length ≠ 0 := fun h => hr (List.eq_nil_of_length_eq_zero h)
  generalize hn : p.bodyL.length = n at *
  unfold Pk.enc at he
  rw [hn] at he
  by_cases h1 : S.size = 1
  · have := vget_end (w := w) S (by omega)
    rw [h1] at this
    exact this.mono fun e w' ⟨a, b⟩ => ⟨b, .inl a⟩
  · by_cases h8 : n < 128
    · have hvi : vi n = [UInt8.ofNat n] := by unfold vi; rw [if_pos h8]
      rw [hvi] at he hvl hel
      obtain ⟨h1', e1⟩ := byte_part (i := 1) hS he (by omega)
      have e1' : S[1] = UInt8.ofNat n := e1 _ rfl
      have e2 : (S[1]).toNat = n := by rw [e1']; simp; omega
      have := vget_one (w := w) S (by omega) 1 h1' (by omega)
      rw [e2] at this
      simp only [List.length_singleton] at hel
      exact this.mono fun e w' ⟨a, b⟩ => ⟨b, .inr ⟨n, 2, a, by omega, by omega, by omega⟩⟩
    · have hvi : vi n = [UInt8.ofNat (n % 128 + 128), UInt8.ofNat (n / 128)] := by unfold vi; rw [if_neg h8]
      rw [hvi] at he hvl hel
      simp only [List.length_cons, List.length_nil] at hel
      obtain ⟨h1', e1⟩ := byte_part (i := 1) hS he (by omega)
      have e1' : S[1] = UInt8.ofNat (n % 128 + 128) := e1 _ rfl
      have t1 : (S[1]).toNat = n % 128 + 128 := by rw [e1']; simp; omega
      by_cases h2 : S.size = 2
      · have := vget_half (w := w) S (by omega) 1 (by omega) (by omega)
        exact this.mono fun e w' ⟨a, b⟩ => ⟨b, .inl a⟩
      · obtain ⟨h2', e2⟩ := byte_part (i := 2) hS he (by omega)
        have e2' : S[1 + 1] = UInt8.ofNat (n / 128) := e2 _ rfl
        have t2 : (S[1 + 1]).toNat = n / 128 := by rw [e2']; simp; omega
        have := vget_pair (w := w) S (by omega) 1 (by omega) (by omega) (by omega) (by omega)
        rw [t1, t2, show n % 128 + 128 - 128 + n / 128 * 128 = n by omega] at this
        exact this.mono fun e w' ⟨a, b⟩ => ⟨b, .inr ⟨n, 3, a, by omega, by omega, by omega⟩⟩
def encB (p : Pk) : ByteArray := ⟨p.enc.toArray⟩
/-- A row of texts of the call's own. -/
def TRow (w : World) (B : Nat) (v : Value) (l : List ByteArray) : Prop := w.ownsRow B 9 1 v l.length (l.map Value.string)
theorem encs_take {ps : List Pk} {i : Nat} (h : i < ps.length) : encs (ps.drop i) = (ps[i]).enc ++ encs (ps.drop (i + 1)) := by
  rw [List.drop_eq_getElem_cons h, encs_cons]
theorem str_none (S : ByteArray) (h : S.size ≠ 0) : S.toList.isEmpty = false := by
  rw [ByteArray.toList_eq]
  cases hd : S.data.toList with
  | nil =>
    have := congrArg List.length hd
    rw [← size_list, List.length_nil] at this
    exact absurd this h
  | cons a b => rfl
theorem str_empty (S : ByteArray) (h : S.size = 0) : S = ⟨#[]⟩ := by
  apply ByteArray.ext
  apply Array.toList_inj.1
  apply List.eq_nil_of_length_eq_zero
  rw [← size_list]; exact h
theorem grown_row {a b c : World} {v : Value} {e : TypeId} {sz n : Nat} {xs : List Value} (h : a.grownBy b none) (hr : b.ownsRow a.heap.size e sz v n xs) (k : b.grownBy c v.ownBlock) : a.grownBy c none := by
  rcases hr.2 with ⟨rfl, _⟩ | ⟨g, cap, cur, rfl, hb, _⟩
  · exact only_trans h k
  · exact grown_own h k hb
def sizeOf' : Value → Nat
  | .string s => s.size
  | _ => 0
section
variable {w : World}
set_option maxHeartbeats 6400000 in
theorem split_any (S : ByteArray) (hs : S.size ≤ 100000) (most : Nat) (hm : 1000 ≤ most) (hm2 : most ≤ 1000000) (ps : List Pk) (hok : ∀ p ∈ ps, p.Ok) (r : List UInt8) (hr : r = [] ∨ ∃ p : Pk, p.Ok ∧ Part r p) (hS : S.data.toList = encs ps ++ r) (hl : ps.length ≤ 1000) :
    Calls Tryd.prog 19 #[.string S, .int .i64 (most : Int)] w fun e w' => ∃ v, e = .returned (.tuple #[v, .string ⟨r.toArray⟩, .int .u8 0]) ∧ TRow w' w.heap.size v (ps.map encB) ∧ w.grownBy w' none := by
  obtain ⟨i0, hi0, hz0, hz1, hz2⟩ := info_parts Tryd.infoStr
  go_enter Tryd.func19, Tryd.ntmps19
  go_wp2_with fail
  go_step3
  go_wp2_with fail
  go_step3
  go_wp2_with fail
  go_loopw [0, 7, 8] (fun sv ov cv wr => ∃ (i : Nat) (X : ByteArray), cv = .int .u8 0 ∧ i ≤ ps.length ∧ sv = .string X ∧ X.size ≤ 100000 ∧ X.data.toList = encs (ps.drop i) ++ r ∧ TRow wr w.heap.size ov ((ps.take i).map encB) ∧ w.grownBy wr none) (fun sv _ _ _ => sizeOf' sv)
  case atStart => exact ⟨0, S, rfl, Nat.zero_le _, rfl, hs, by rw [List.drop_zero]; exact hS, World.ownsRow_nil _ _ _ _, only_refl _ _⟩
  case round =>
    obtain ⟨i, X, rfl, hi, rfl, hxs, hX, hrow, hg⟩ := hrel
    have hws := hg.size
    have hxl : X.size = (encs (ps.drop i) ++ r).length := by rw [size_list, hX]
    by_cases hlt : i < ps.length
    · have hp := hok ps[i] (List.getElem_mem hlt)
      rw [encs_take hlt, List.append_assoc] at hX hxl
      have hV := vget_enc (w := wr) hp hX (by omega)
      have hel := (ps[i]).enc_len
      have hbl := (ps[i]).body_len hp
      have hvl := vi_len (ps[i]).bodyL.length
      have hepos : (ps[i]).enc.length ≠ 0 := by omega
      rw [List.length_append] at hxl
      have hne := str_none X (by omega)
      obtain ⟨E, hE⟩ : ∃ E, E = (ps[i]).enc.length := ⟨_, rfl⟩
      have hx1 : X.extract 0 E = encB ps[i] := by
        rw [extract_at (s := X) (a := 0) (b := E) (pre := []) (x := (ps[i]).enc) (post := encs (ps.drop (i + 1)) ++ r) (by rw [hX]; simp) rfl (by simp [hE])]
        rfl
      have hx2 : (X.extract E X.size).data.toList = encs (ps.drop (i + 1)) ++ r := by
        rw [extract_at (s := X) (a := E) (b := X.size) (pre := (ps[i]).enc) (x := encs (ps.drop (i + 1)) ++ r) (post := []) (by rw [hX]; simp) hE (by rw [hxl, List.length_append])]
      have hx3 : (X.extract E X.size).size = X.size - E := by rw [ByteArray.size_extract]; omega
      have hmap : (ps.take (i + 1)).map encB = (ps.take i).map encB ++ [encB ps[i]] := by
        rw [List.take_succ_eq_append_getElem hlt, List.map_append]; rfl
      have hmap' := Lib.hid hmap
      clear hmap
      have htl : ((ps.take i).map encB).length = i := by simp; omega
      generalize hfr : 1 + (vi (ps[i]).bodyL.length).length = fr at *
      generalize hln : (ps[i]).bodyL.length = len at *
      have hm3 : ¬ (most : Int) < (fr : Int) + (len : Int) := by omega
      have hm2' : ¬ (X.size : Int) - (fr : Int) < (len : Int) := by omega
      have hq1 : ((fr : Int) + (len : Int)).toNat = fr + len := by clear hxl hV; omega
      have hq2 : (0 : Int) ≤ (fr : Int) + (len : Int) := by omega
      have hq3 : (fr : Int) + (len : Int) ≤ (X.size : Int) := by omega
      have hfl : fr + len ≤ 1000 := by omega
      have hq4 : (fr + len : Nat) = E := by omega
      have HXL := Lib.hid hxl
      have hxe : fr + len ≤ X.size := by omega
      clear hxl
      have HV := Lib.hid hV
      clear hV
      generalize hX2 : X.extract E X.size = X2 at *
      generalize hp1 : encB ps[i] = s1 at *
      subst hq4
      clear hE hel
      have hrowA : (wr.drew.alloc (.cells #[.string s1] 9)).ownsRow w.heap.size 9 1 u7 ((ps.take i).map encB).length (((ps.take i).map encB).map Value.string) := World.ownsRow.kept hrow (only_alloc (only_drew (only_refl wr none)) (.cells #[.string s1] 9)) (by cases u7.ownBlock <;> simp)
      rw [htl] at hrowA
      have hgA := only_alloc (only_drew hg) (.cells #[.string s1] 9)
      go_wp2_with fail
      refine HV.out.mono ?_
      rintro e w2 ⟨rfl, rfl⟩
      go_wp2_with fail
      have hsum : IntKind.i64.wrap ((fr : Int) + (len : Int)) = (fr : Int) + (len : Int) := IntWalk.i64_in _ (by omega)
      go_region_law (refine step_append_lies _ (by rfl) (.tmp 40) (.tmp 46) 35 (by rfl) w.heap.size 9 i0 _ 1 16 Tryd.underlying35 hi0 hz0 hz1 hz2 rfl (by decide) u7 i (((ps.take i).map encB).map Value.string) (by simp [Act.eval]) hrowA ⟨wr.heap.size, 0, none⟩ 1 1 [.string s1] (by simp [Act.eval]) rfl (one_cell _ _ _) (by intro u hu; simp at hu; subst hu; rfl) (by decide) (by unfold maxLen; omega) (by omega) (by simp; omega) (wr.heap.size + 1) (by simp) ?_; intro g1 cap w3 hown1 hg1 hat1 hlt1)
      go_simp
      go_wp2_with fail
      have hs1 := HXL.out
      have h0 : wr.grownBy (wr.drew.alloc (.cells #[.string s1] 9)) none := only_alloc (only_drew (only_refl wr none)) _
      refine ⟨⟨i + 1, X2, rfl, by omega, rfl, by omega, hx2, ?_, ?_⟩, by simp only [sizeOf']; omega⟩
      · rw [hmap'.out]
        unfold TRow
        rw [List.length_append, htl, List.map_append]
        exact hown1
      · exact grown_row hgA hrowA hg1
    · obtain rfl : i = ps.length := by omega
      rw [List.drop_length, encs_nil, List.nil_append] at hX
      rw [List.take_length] at hrow
      clear hxl
      have hXe : X = ⟨r.toArray⟩ := by apply ByteArray.ext; apply Array.toList_inj.1; simpa using hX
      have HXe := Lib.hid hXe
      clear hXe
      by_cases hr0 : r = []
      · have hem : X.toList.isEmpty = true := by rw [HXe.out, hr0, ByteArray.toList_eq]; rfl
        go_wp2_with fail
        (try rw [Exit.noGoto_ret])
        refine bodyPost_ret (by simp [results, Tryd.results19, go_sem]; try rfl) rfl ?_
        exact ⟨u7, by rw [HXe.out], hrow, hg⟩
      · have hx0 : X.size ≠ 0 := fun h => hr0 (List.eq_nil_of_length_eq_zero (by rw [← hX, ← size_list]; exact h))
        have hne := str_none X hx0
        obtain ⟨p, hp, hpr⟩ := hr.resolve_left hr0
        have hV := vget_part (w := wr) hp hX hr0 hpr
        have HV := Lib.hid hV
        clear hV
        go_wp2_with fail
        refine HV.out.mono ?_
        rintro e w2 ⟨rfl, hres⟩
        rcases hres with rfl | ⟨n, fr, rfl, hn1, hn2, hn3⟩
        · go_wp2_with fail
          (try rw [Exit.noGoto_ret])
          refine bodyPost_ret (by simp [results, Tryd.results19, go_sem]; try rfl) rfl ?_
          exact ⟨u7, by rw [HXe.out], hrow, hg⟩
        · have hm3 : ¬ (most : Int) < (fr : Int) + (n : Int) := by omega
          have hm2' : (X.size : Int) - (fr : Int) < (n : Int) := by omega
          go_wp2_with fail
          (try rw [Exit.noGoto_ret])
          refine bodyPost_ret (by simp [results, Tryd.results19, go_sem]; try rfl) rfl ?_
          exact ⟨u7, by rw [HXe.out], hrow, hg⟩
end
end Go.Proofs.YtcepfhnlbnlnhaaDoor
