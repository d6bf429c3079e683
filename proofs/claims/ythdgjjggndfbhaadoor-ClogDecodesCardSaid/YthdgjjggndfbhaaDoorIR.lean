/- The table of the functions' abstract code. -/
import Derived.Test.YthdgjjggndfbhaaDoorIRa
namespace Go.Proofs.YthdgjjggndfbhaaDoor
namespace Abs
set_option linter.unusedVariables false
set_option maxRecDepth 100000
def tab : Nat → Option AFunc
  | 3 => some a3
  | 4 => some a4
  | 5 => some a5
  | 6 => some a6
  | 7 => some a7
  | 8 => some a8
  | 9 => some a9
  | 10 => some a10
  | 11 => some a11
  | 12 => some a12
  | 13 => some a13
  | 14 => some a14
  | 15 => some a15
  | 16 => some a16
  | 17 => some a17
  | 18 => some a18
  | 19 => some a19
  | 20 => some a20
  | 21 => some a21
  | 22 => some a22
  | 23 => some a23
  | 24 => some a24
  | 25 => some a25
  | 26 => some a26
  | 27 => some a27
  | 28 => some a28
  | 29 => some a29
  | 30 => some a30
  | 31 => some a31
  | 32 => some a32
  | 33 => some a33
  | 34 => some a34
  | 35 => some a35
  | 36 => some a36
  | 37 => some a37
  | 38 => some a38
  | 39 => some a39
  | 40 => some a40
  | 41 => some a41
  | 42 => some a42
  | 43 => some a43
  | 44 => some a44
  | 47 => some a47
  | 48 => some a48
  | 49 => some a49
  | 50 => some a50
  | 51 => some a51
  | 52 => some a52
  | 53 => some a53
  | 54 => some a54
  | 55 => some a55
  | 56 => some a56
  | 57 => some a57
  | 58 => some a58
  | 59 => some a59
  | 60 => some a60
  | 65 => some a65
  | 66 => some a66
  | 68 => some a68
  | 72 => some a72
  | _ => none
theorem tab_row (f : Nat) (af : AFunc) (h : tab f = some af) : ∃ fn, Tryd.prog.funcs[f]? = some fn ∧ funcC Tryd.prog fn = some af := by
  unfold tab at h
  split at h
  · cases h; exact ⟨_, Tryd.func3, a3_ok⟩
  · cases h; exact ⟨_, Tryd.func4, a4_ok⟩
  · cases h; exact ⟨_, Tryd.func5, a5_ok⟩
  · cases h; exact ⟨_, Tryd.func6, a6_ok⟩
  · cases h; exact ⟨_, Tryd.func7, a7_ok⟩
  · cases h; exact ⟨_, Tryd.func8, a8_ok⟩
  · cases h; exact ⟨_, Tryd.func9, a9_ok⟩
  · cases h; exact ⟨_, Tryd.func10, a10_ok⟩
  · cases h; exact ⟨_, Tryd.func11, a11_ok⟩
  · cases h; exact ⟨_, Tryd.func12, a12_ok⟩
  · cases h; exact ⟨_, Tryd.func13, a13_ok⟩
  · cases h; exact ⟨_, Tryd.func14, a14_ok⟩
  · cases h; exact ⟨_, Tryd.func15, a15_ok⟩
  · cases h; exact ⟨_, Tryd.func16, a16_ok⟩
  · cases h; exact ⟨_, Tryd.func17, a17_ok⟩
  · cases h; exact ⟨_, Tryd.func18, a18_ok⟩
  · cases h; exact ⟨_, Tryd.func19, a19_ok⟩
  · cases h; exact ⟨_, Tryd.func20, a20_ok⟩
  · cases h; exact ⟨_, Tryd.func21, a21_ok⟩
  · cases h; exact ⟨_, Tryd.func22, a22_ok⟩
  · cases h; exact ⟨_, Tryd.func23, a23_ok⟩
  · cases h; exact ⟨_, Tryd.func24, a24_ok⟩
  · cases h; exact ⟨_, Tryd.func25, a25_ok⟩
  · cases h; exact ⟨_, Tryd.func26, a26_ok⟩
  · cases h; exact ⟨_, Tryd.func27, a27_ok⟩
  · cases h; exact ⟨_, Tryd.func28, a28_ok⟩
  · cases h; exact ⟨_, Tryd.func29, a29_ok⟩
  · cases h; exact ⟨_, Tryd.func30, a30_ok⟩
  · cases h; exact ⟨_, Tryd.func31, a31_ok⟩
  · cases h; exact ⟨_, Tryd.func32, a32_ok⟩
  · cases h; exact ⟨_, Tryd.func33, a33_ok⟩
  · cases h; exact ⟨_, Tryd.func34, a34_ok⟩
  · cases h; exact ⟨_, Tryd.func35, a35_ok⟩
  · cases h; exact ⟨_, Tryd.func36, a36_ok⟩
  · cases h; exact ⟨_, Tryd.func37, a37_ok⟩
  · cases h; exact ⟨_, Tryd.func38, a38_ok⟩
  · cases h; exact ⟨_, Tryd.func39, a39_ok⟩
  · cases h; exact ⟨_, Tryd.func40, a40_ok⟩
  · cases h; exact ⟨_, Tryd.func41, a41_ok⟩
  · cases h; exact ⟨_, Tryd.func42, a42_ok⟩
  · cases h; exact ⟨_, Tryd.func43, a43_ok⟩
  · cases h; exact ⟨_, Tryd.func44, a44_ok⟩
  · cases h; exact ⟨_, Tryd.func47, a47_ok⟩
  · cases h; exact ⟨_, Tryd.func48, a48_ok⟩
  · cases h; exact ⟨_, Tryd.func49, a49_ok⟩
  · cases h; exact ⟨_, Tryd.func50, a50_ok⟩
  · cases h; exact ⟨_, Tryd.func51, a51_ok⟩
  · cases h; exact ⟨_, Tryd.func52, a52_ok⟩
  · cases h; exact ⟨_, Tryd.func53, a53_ok⟩
  · cases h; exact ⟨_, Tryd.func54, a54_ok⟩
  · cases h; exact ⟨_, Tryd.func55, a55_ok⟩
  · cases h; exact ⟨_, Tryd.func56, a56_ok⟩
  · cases h; exact ⟨_, Tryd.func57, a57_ok⟩
  · cases h; exact ⟨_, Tryd.func58, a58_ok⟩
  · cases h; exact ⟨_, Tryd.func59, a59_ok⟩
  · cases h; exact ⟨_, Tryd.func60, a60_ok⟩
  · cases h; exact ⟨_, Tryd.func65, a65_ok⟩
  · cases h; exact ⟨_, Tryd.func66, a66_ok⟩
  · cases h; exact ⟨_, Tryd.func68, a68_ok⟩
  · cases h; exact ⟨_, Tryd.func72, a72_ok⟩
  · cases h
end Abs
end Go.Proofs.YthdgjjggndfbhaaDoor
