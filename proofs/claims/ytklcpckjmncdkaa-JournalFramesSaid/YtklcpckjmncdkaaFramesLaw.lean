/- THE WALK of the statement JournalFrames: it returns true, whatever it is given, and touches no memory that was there. -/
import Derived.Test.YtklcpckjmncdkaaFrame
namespace Go.Proofs.Ytklcpckjmncdkaa
open Go.RowKit

theorem sum_known : Jr.sum [49, 50, 51, 52, 53, 54, 55, 56, 57] = 10673 := by decide +kernel

set_option maxHeartbeats 800000 in
theorem frames_law (body s : ByteArray) (p : Int) (hb : body.size ≤ maxLen) (hs : s.size ≤ maxLen) (w : World) :
    Calls Try.prog 3 #[.string body, .string s, .int .i64 p] w fun e w' => e = .returned (.bool true) ∧ Below w.heap.size w w' := by
  have hk : ∀ w, Calls Try.prog 12 #[.string ⟨#[49, 50, 51, 52, 53, 54, 55, 56, 57]⟩] w fun e w' => e = .returned (.int .i64 10673) ∧ w = w' := fun w =>
    (sum_any ⟨#[49, 50, 51, 52, 53, 54, 55, 56, 57]⟩ w (by decide)).mono fun e w' ⟨he, hw⟩ => ⟨by rw [he]; exact ret_int (by rw [sum_known]; rfl), hw⟩
  have c1 := frameR_code body
  have c2 := un_code s p
  have f1 := fun w => frame_any body hb w
  have f2 := fun w => rframe_any body hb w
  have u1 := fun w => unframe_any s hs p w
  have u2 := fun w => runframe_any s hs p w
  have s1 := fun w => sum_any body w hb
  have s2 := fun w => rsum_any body w hb
  generalize frameR body = fb at *
  generalize unframe s p = us at *
  generalize Jr.sum body.data.toList = sb at *
  obtain ⟨fs, fc⟩ := fb
  obtain ⟨us, un, uc⟩ := us
  simp only at c1 c2 f1 f2 u1 u2
  have K := Lib.hid hk
  have F1 := Lib.hid f1
  have F2 := Lib.hid f2
  have U1 := Lib.hid u1
  have U2 := Lib.hid u2
  have S1 := Lib.hid s1
  have S2 := Lib.hid s2
  clear hk f1 f2 u1 u2 s1 s2
  go_enter Try.func3, Try.ntmps3
  go_wp2_with fail
  refine (F1.out _).mono ?_
  rintro e w1 ⟨rfl, hw1⟩
  go_wp2_with fail
  refine (F2.out _).mono ?_
  rintro e w2 ⟨rfl, hw2⟩
  go_wp2_with fail
  refine (U1.out _).mono ?_
  rintro e w' ⟨rfl, rfl⟩
  go_wp2_with fail
  refine (U2.out _).mono ?_
  rintro e w' ⟨rfl, rfl⟩
  go_wp2_with fail
  refine (K.out _).mono ?_
  rintro e w' ⟨rfl, rfl⟩
  go_wp2_with fail
  refine (S1.out _).mono ?_
  rintro e w' ⟨rfl, rfl⟩
  go_wp2_with fail
  refine (S2.out _).mono ?_
  rintro e w' ⟨rfl, rfl⟩
  go_wp2_with fail
  go_ret
  exact ⟨rfl, hw1.trans (hw2.mono hw1.size)⟩
end Go.Proofs.Ytklcpckjmncdkaa
