/- strconv.Itoa by the shelf's contract, laid at this program in plain words. -/
import Derived.Shelf.Strconv.Itoa3
import Derived.Test.YtaolamdkmiionaaDoorProg
namespace Go.Proofs.YtaolamdkmiionaaDoor
set_option maxRecDepth 100000
open Go.Shelf Go.RowKit Go.Sort

def laysI_ren : Go.Shelf.Ren := ⟨fun | 129 => 35 | 171 => 19 | 243 => 26 | 246 => 29 | 283 => 30 | 284 => 31 | 285 => 32 | 286 => 33 | 317 => 34 | 318 => 36 | 319 => 37 | 320 => 38 | 337 => 39 | 338 => 40 | n => n, fun | 0 => 0 | 2 => 2 | 3 => 3 | 4 => 4 | 5 => 5 | 9 => 9 | 20 => 20 | 37 => 82 | 46 => 91 | 51 => 88 | 53 => 79 | 171 => 78 | 173 => 83 | 212 => 87 | 213 => 89 | 232 => 94 | 233 => 95 | n => n, fun | 17 => 1 | 18 => 2 | 19 => 3 | n => n⟩
theorem laysI : Go.Proofs.LaysM.n171 Tryd.prog laysI_ren := {
  mixed := by kernel_rfl
  f129 := Tryd.func35.trans (congrArg some (by kernel_rfl))
  f171 := Tryd.func19.trans (congrArg some (by kernel_rfl))
  f243 := Tryd.func26.trans (congrArg some (by kernel_rfl))
  f246 := Tryd.func29.trans (congrArg some (by kernel_rfl))
  f283 := Tryd.func30.trans (congrArg some (by kernel_rfl))
  f284 := Tryd.func31.trans (congrArg some (by kernel_rfl))
  f285 := Tryd.func32.trans (congrArg some (by kernel_rfl))
  f286 := Tryd.func33.trans (congrArg some (by kernel_rfl))
  f317 := Tryd.func34.trans (congrArg some (by kernel_rfl))
  f318 := Tryd.func36.trans (congrArg some (by kernel_rfl))
  f319 := Tryd.func37.trans (congrArg some (by kernel_rfl))
  f320 := Tryd.func38.trans (congrArg some (by kernel_rfl))
  f337 := Tryd.func39.trans (congrArg some (by kernel_rfl))
  f338 := Tryd.func40.trans (congrArg some (by kernel_rfl))
  t0 := Tryd.underlying0
  a0 := Tryd.isAgg0
  z0 := Tryd.sizeOf0
  v0 := Tryd.zeroValue0
  t2 := Tryd.underlying2
  a2 := Tryd.isAgg2
  z2 := Tryd.sizeOf2
  v2 := Tryd.zeroValue2
  t3 := Tryd.underlying3
  a3 := Tryd.isAgg3
  z3 := Tryd.sizeOf3
  v3 := Tryd.zeroValue3
  t4 := Tryd.underlying4
  a4 := Tryd.isAgg4
  z4 := Tryd.sizeOf4
  v4 := Tryd.zeroValue4
  t5 := Tryd.underlying5
  a5 := Tryd.isAgg5
  z5 := Tryd.sizeOf5
  v5 := Tryd.zeroValue5
  t9 := Tryd.underlying9
  a9 := Tryd.isAgg9
  z9 := Tryd.sizeOf9
  v9 := Tryd.zeroValue9
  t20 := Tryd.underlying20
  a20 := Tryd.isAgg20
  z20 := Tryd.sizeOf20
  v20 := Tryd.zeroValue20
  t37 := Tryd.underlying82
  a37 := Tryd.isAgg82
  z37 := Tryd.sizeOf82
  v37 := Tryd.zeroValue82
  t46 := Tryd.underlying91
  a46 := Tryd.isAgg91
  z46 := Tryd.sizeOf91
  v46 := Tryd.zeroValue91
  t51 := Tryd.underlying88
  a51 := Tryd.isAgg88
  z51 := Tryd.sizeOf88
  v51 := Tryd.zeroValue88
  t53 := Tryd.underlying79
  a53 := Tryd.isAgg79
  z53 := Tryd.sizeOf79
  v53 := Tryd.zeroValue79
  t171 := Tryd.underlying78
  a171 := Tryd.isAgg78
  z171 := Tryd.sizeOf78
  v171 := Tryd.zeroValue78
  t173 := Tryd.underlying83
  a173 := Tryd.isAgg83
  z173 := Tryd.sizeOf83
  v173 := Tryd.zeroValue83
  t212 := Tryd.underlying87
  a212 := Tryd.isAgg87
  z212 := Tryd.sizeOf87
  v212 := Tryd.zeroValue87
  t213 := Tryd.underlying89
  a213 := Tryd.isAgg89
  z213 := Tryd.sizeOf89
  t232 := Tryd.underlying94
  a232 := Tryd.isAgg94
  z232 := Tryd.sizeOf94
  v232 := Tryd.zeroValue94
  t233 := Tryd.underlying95
  a233 := Tryd.isAgg95
  z233 := Tryd.sizeOf95
  v233 := Tryd.zeroValue95
  g17 := by kernel_rfl
  g18 := by kernel_rfl
  g19 := by kernel_rfl
  i0 := by kernel_rfl
  i2 := by kernel_rfl
  i3 := by kernel_rfl
  i4 := by kernel_rfl
  i5 := by kernel_rfl
  i9 := by kernel_rfl
  i20 := by kernel_rfl
  i37 := by kernel_rfl
  i46 := by kernel_rfl
  i51 := by kernel_rfl
  i53 := by kernel_rfl
  i171 := by kernel_rfl
  i173 := by kernel_rfl
  i212 := by kernel_rfl
  i232 := by kernel_rfl
  i233 := by kernel_rfl
  m17 := by kernel_rfl
  m18 := by kernel_rfl
  m19 := by kernel_rfl
}
theorem itoa_any {w : World} (n : Nat) (hn : n ≤ 9223372036854775807) (htab : Lib.TabIs Tryd.prog w "internal/strconv.uint64pow10" .u64 Lib.pow10Tab) :
    Calls Tryd.prog 19 #[.int .i64 (n : Int)] w fun e w' => e = .returned (.string ⟨(Lib.itoa (n : Int)).toArray⟩) ∧ ∃ k os, w' = grow (w.drewN k) os :=
  Any.strconv_Itoa laysI (n : Int) (by omega) (by omega) w htab
end Go.Proofs.YtaolamdkmiionaaDoor
