/- packet.Get at what Put makes. -/
import Derived.Test.YtcepfhnlbnlnhaaDoorGetG
namespace Go.Proofs.YtcepfhnlbnlnhaaDoor
set_option maxRecDepth 100000
open Go.RowKit

def Pk.cells (v : Value) : Pk → Array Value
  | .pub q id t b => pkZ 3 q id t b v
  | .sub id _ _ => pkZ 8 0 id ⟨#[]⟩ ⟨#[]⟩ v
  | .ack id => pkZ 4 0 id ⟨#[]⟩ ⟨#[]⟩ v
  | .ping => pkZ 12 0 0 ⟨#[]⟩ ⟨#[]⟩ v
def Pk.subs : Pk → Option (ByteArray × Nat)
  | .sub _ q t => some (t, q)
  | _ => none
theorem byte_here {S : ByteArray} {l : List UInt8} (hS : S.data.toList = l) {i : Nat} (h : i < l.length) : ∃ h' : i < S.size, S[i] = l[i] := by
  have hl : i < S.size := by rw [size_list, hS]; exact h
  refine ⟨hl, ?_⟩
  subst hS
  simp
  rfl
theorem Pk.head_lt (p : Pk) (h : p.Ok) : p.headN < 256 := by
  cases p with
  | pub q id t b => have := h.1; simp only [Pk.headN]; omega
  | sub id q t => show 130 < 256; decide
  | ack id => show 64 < 256; decide
  | ping => decide
/-- What varint.Get finds at a packet's bytes. -/
theorem vget_enc {w : World} {S : ByteArray} {p : Pk} (hok : p.Ok) {R : List UInt8} (hS : S.data.toList = p.enc ++ R) (hs : S.size ≤ 1000000000) :
    Calls Tryd.prog 30 #[.string S, .int .i64 1] w fun e w' => e = .returned (.tuple #[.int .i64 (p.bodyL.length : Int), .int .i64 ((1 + (vi p.bodyL.length).length : Nat) : Int), .int .u8 0]) ∧ w = w' := by
  have hb := p.body_len hok
  generalize hn : p.bodyL.length = n at *
  unfold Pk.enc at hS
  rw [hn] at hS
  by_cases h8 : n < 128
  · have hvi : vi n = [UInt8.ofNat n] := by unfold vi; rw [if_pos h8]
    rw [hvi] at hS ⊢
    obtain ⟨h1, e1⟩ := byte_here (i := 1) hS (by simp)
    have e1' : S[1] = UInt8.ofNat n := by rw [e1]; rfl
    have e2 : (S[1]).toNat = n := by rw [e1']; simp; omega
    have := vget_one (w := w) S hs 1 h1 (by omega)
    rw [e2] at this
    exact this
  · have hvi : vi n = [UInt8.ofNat (n % 128 + 128), UInt8.ofNat (n / 128)] := by unfold vi; rw [if_neg h8]
    rw [hvi] at hS ⊢
    obtain ⟨h1, e1⟩ := byte_here (i := 1) hS (by simp)
    obtain ⟨h2, e2⟩ := byte_here (i := 2) hS (by simp)
    have e1' : S[1] = UInt8.ofNat (n % 128 + 128) := by rw [e1]; rfl
    have e2' : S[1 + 1] = UInt8.ofNat (n / 128) := by rw [show S[1 + 1] = S[2] from rfl, e2]; rfl
    have t1 : (S[1]).toNat = n % 128 + 128 := by rw [e1']; simp; omega
    have t2 : (S[1 + 1]).toNat = n / 128 := by rw [e2']; simp; omega
    have := vget_pair (w := w) S hs 1 (by omega) (by omega) (by omega) (by omega)
    rw [t1, t2, show n % 128 + 128 - 128 + n / 128 * 128 = n by omega] at this
    exact this
theorem get_any {w : World} (p : Pk) (hok : p.Ok) (S : ByteArray) (hS : S.data.toList = p.enc) (hT : U8 w) :
    Calls Tryd.prog 20 #[.string S] w fun e w' => ∃ A l c, e = .returned (.tuple #[.agg (p.cells (.slice A l c)), .int .u8 0]) ∧ SubsAt w' w.heap.size (.slice A l c) p.subs ∧ w.grownBy w' none := by
  have hb := p.body_len hok
  have hel := p.enc_len
  have hvl := vi_len p.bodyL.length
  have hsz : S.size = p.enc.length := by rw [size_list, hS]
  have hhl := p.head_lt hok
  obtain ⟨h0, e0⟩ := byte_here (i := 0) hS (by omega)
  have hh : (S[0]).toNat = p.headN := by
    rw [e0, show p.enc[0] = UInt8.ofNat p.headN from rfl]
    simp; omega
  have hv := fun W : World => vget_enc (w := W) (S := S) hok (R := []) (by rw [List.append_nil]; exact hS) (by omega)
  have hB : S.extract (1 + (vi p.bodyL.length).length) S.size = ⟨p.bodyL.toArray⟩ := by
    rw [extract_at (s := S) (pre := UInt8.ofNat p.headN :: vi p.bodyL.length) (x := p.bodyL) (post := []) (by rw [hS]; simp [Pk.enc]) (by simp; omega) (by rw [hsz, hel]; simp; omega)]
  have hdata : (⟨p.bodyL.toArray⟩ : ByteArray).data.toList = p.bodyL := rfl
  have hbs : (⟨p.bodyL.toArray⟩ : ByteArray).size ≤ 1000000 := by rw [size_list, hdata]; omega
  have hfr : 1 + (vi p.bodyL.length).length + p.bodyL.length = S.size := by omega
  have hS1 : S.size ≤ 1000 := by omega
  cases p with
  | pub q id t b =>
    obtain ⟨a, hA⟩ := pub_at hdata hok
    obtain ⟨hq, hi0, hid, ht, htb, hbz⟩ := hok
    exact get_gen S _ (48 + 2 * q) 3 q _ _ id t b none hS1 h0 hh hT (fun W => head_pub (w := W) q hq) hv hfr hB
      (fun W rb pb hb hp hU hg => (rbody_pub hb q id t b hA hid hi0 hbs htb hU hp).mono fun e w' ⟨h1, h2, h3⟩ => ⟨h1, none, 0, 0, h2, rfl, h3⟩)
  | sub id q t =>
    have hA := sub_at hdata hok
    obtain ⟨hid, hq, ht, htb⟩ := hok
    exact get_gen S _ 130 8 0 _ _ id ⟨#[]⟩ ⟨#[]⟩ (some (t, q)) hS1 h0 hh hT (fun W => head_gen (w := W) 130 8 2 rfl (by decide) (by decide) (by decide) (fun W => flags_sub (w := W))) hv hfr hB
      (fun W rb pb hb hp hU hg => (rbody_sub hb id q t hA hid hq hbs htb hU hp hg).mono fun e w' ⟨h1, v, h2, h3, h4⟩ => by
        obtain ⟨A, l, c, rfl⟩ : ∃ A l c, v = .slice A l c := by
          rcases h3.2 with ⟨hv, _⟩ | ⟨g, cap, cur, hv, _⟩
          · exact ⟨_, _, _, hv⟩
          · exact ⟨_, _, _, hv⟩
        exact ⟨h1, A, l, c, h2, h3, h4⟩)
  | ack id =>
    have hA := ack_at hdata hok
    exact get_gen S _ 64 4 0 _ _ id ⟨#[]⟩ ⟨#[]⟩ none hS1 h0 hh hT (fun W => head_gen (w := W) 64 4 0 rfl (by decide) (by decide) (by decide) (fun W => flags_any (w := W) 4 (.inr (.inl rfl)))) hv hfr hB
      (fun W rb pb hb hp hU hg => (rbody_puback hb id hA hok hp).mono fun e w' ⟨h1, h2, h3⟩ => ⟨h1, none, 0, 0, h2, rfl, h3⟩)
  | ping =>
    exact get_gen S _ 192 12 0 _ _ 0 ⟨#[]⟩ ⟨#[]⟩ none hS1 h0 hh hT (fun W => head_gen (w := W) 192 12 0 rfl (by decide) (by decide) (by decide) (fun W => flags_any (w := W) 12 (.inr (.inr rfl)))) hv hfr hB
      (fun W rb pb hb hp hU hg => (rbody_ping hb rfl hp).mono fun e w' ⟨h1, h2, h3⟩ => ⟨h1, none, 0, 0, h2, rfl, h3⟩)
end Go.Proofs.YtcepfhnlbnlnhaaDoor
