/- The table of the functions' abstract code. -/
import Derived.Test.YtmgbcaboljilnaaGreatDoorIRa
import Derived.Test.YtmgbcaboljilnaaGreatDoorIRb
import Derived.Test.YtmgbcaboljilnaaGreatDoorIRc
namespace Go.Proofs.YtmgbcaboljilnaaGreatDoor
namespace Abs
set_option linter.unusedVariables false
set_option maxRecDepth 100000
def tab : Nat → Option AFunc
  | 3 => some a3
  | 4 => some a4
  | 5 => some a5
  | 6 => some a6
  | 7 => some a7
  | 8 => some a8
  | 9 => some a9
  | 10 => some a10
  | 11 => some a11
  | 12 => some a12
  | 13 => some a13
  | 14 => some a14
  | 15 => some a15
  | 16 => some a16
  | 17 => some a17
  | 18 => some a18
  | 19 => some a19
  | 20 => some a20
  | 21 => some a21
  | 22 => some a22
  | 23 => some a23
  | 24 => some a24
  | 25 => some a25
  | 26 => some a26
  | 27 => some a27
  | 28 => some a28
  | 29 => some a29
  | 30 => some a30
  | 31 => some a31
  | 32 => some a32
  | 33 => some a33
  | 34 => some a34
  | 35 => some a35
  | 36 => some a36
  | 37 => some a37
  | 38 => some a38
  | 39 => some a39
  | 40 => some a40
  | 41 => some a41
  | 42 => some a42
  | 43 => some a43
  | 44 => some a44
  | 45 => some a45
  | 46 => some a46
  | 47 => some a47
  | 48 => some a48
  | 49 => some a49
  | 50 => some a50
  | 51 => some a51
  | 52 => some a52
  | 53 => some a53
  | 54 => some a54
  | 55 => some a55
  | 56 => some a56
  | 57 => some a57
  | 58 => some a58
  | 59 => some a59
  | 60 => some a60
  | 61 => some a61
  | 62 => some a62
  | 63 => some a63
  | 64 => some a64
  | 65 => some a65
  | 66 => some a66
  | 67 => some a67
  | 68 => some a68
  | 69 => some a69
  | 70 => some a70
  | 71 => some a71
  | 72 => some a72
  | 73 => some a73
  | 74 => some a74
  | 75 => some a75
  | 76 => some a76
  | 77 => some a77
  | 78 => some a78
  | 79 => some a79
  | 80 => some a80
  | 81 => some a81
  | 82 => some a82
  | 83 => some a83
  | 84 => some a84
  | 87 => some a87
  | 88 => some a88
  | 89 => some a89
  | 90 => some a90
  | 91 => some a91
  | 92 => some a92
  | 93 => some a93
  | 94 => some a94
  | 95 => some a95
  | 96 => some a96
  | 97 => some a97
  | 98 => some a98
  | 99 => some a99
  | 100 => some a100
  | 102 => some a102
  | 106 => some a106
  | 107 => some a107
  | 108 => some a108
  | 109 => some a109
  | 110 => some a110
  | 111 => some a111
  | 112 => some a112
  | 113 => some a113
  | 114 => some a114
  | 115 => some a115
  | 116 => some a116
  | 117 => some a117
  | 118 => some a118
  | 126 => some a126
  | 127 => some a127
  | 128 => some a128
  | 129 => some a129
  | 130 => some a130
  | 146 => some a146
  | _ => none
theorem tab_row (f : Nat) (af : AFunc) (h : tab f = some af) : ∃ fn, Tryz.prog.funcs[f]? = some fn ∧ funcC Tryz.prog fn = some af := by
  unfold tab at h
  split at h
  · cases h; exact ⟨_, Tryz.func3, a3_ok⟩
  · cases h; exact ⟨_, Tryz.func4, a4_ok⟩
  · cases h; exact ⟨_, Tryz.func5, a5_ok⟩
  · cases h; exact ⟨_, Tryz.func6, a6_ok⟩
  · cases h; exact ⟨_, Tryz.func7, a7_ok⟩
  · cases h; exact ⟨_, Tryz.func8, a8_ok⟩
  · cases h; exact ⟨_, Tryz.func9, a9_ok⟩
  · cases h; exact ⟨_, Tryz.func10, a10_ok⟩
  · cases h; exact ⟨_, Tryz.func11, a11_ok⟩
  · cases h; exact ⟨_, Tryz.func12, a12_ok⟩
  · cases h; exact ⟨_, Tryz.func13, a13_ok⟩
  · cases h; exact ⟨_, Tryz.func14, a14_ok⟩
  · cases h; exact ⟨_, Tryz.func15, a15_ok⟩
  · cases h; exact ⟨_, Tryz.func16, a16_ok⟩
  · cases h; exact ⟨_, Tryz.func17, a17_ok⟩
  · cases h; exact ⟨_, Tryz.func18, a18_ok⟩
  · cases h; exact ⟨_, Tryz.func19, a19_ok⟩
  · cases h; exact ⟨_, Tryz.func20, a20_ok⟩
  · cases h; exact ⟨_, Tryz.func21, a21_ok⟩
  · cases h; exact ⟨_, Tryz.func22, a22_ok⟩
  · cases h; exact ⟨_, Tryz.func23, a23_ok⟩
  · cases h; exact ⟨_, Tryz.func24, a24_ok⟩
  · cases h; exact ⟨_, Tryz.func25, a25_ok⟩
  · cases h; exact ⟨_, Tryz.func26, a26_ok⟩
  · cases h; exact ⟨_, Tryz.func27, a27_ok⟩
  · cases h; exact ⟨_, Tryz.func28, a28_ok⟩
  · cases h; exact ⟨_, Tryz.func29, a29_ok⟩
  · cases h; exact ⟨_, Tryz.func30, a30_ok⟩
  · cases h; exact ⟨_, Tryz.func31, a31_ok⟩
  · cases h; exact ⟨_, Tryz.func32, a32_ok⟩
  · cases h; exact ⟨_, Tryz.func33, a33_ok⟩
  · cases h; exact ⟨_, Tryz.func34, a34_ok⟩
  · cases h; exact ⟨_, Tryz.func35, a35_ok⟩
  · cases h; exact ⟨_, Tryz.func36, a36_ok⟩
  · cases h; exact ⟨_, Tryz.func37, a37_ok⟩
  · cases h; exact ⟨_, Tryz.func38, a38_ok⟩
  · cases h; exact ⟨_, Tryz.func39, a39_ok⟩
  · cases h; exact ⟨_, Tryz.func40, a40_ok⟩
  · cases h; exact ⟨_, Tryz.func41, a41_ok⟩
  · cases h; exact ⟨_, Tryz.func42, a42_ok⟩
  · cases h; exact ⟨_, Tryz.func43, a43_ok⟩
  · cases h; exact ⟨_, Tryz.func44, a44_ok⟩
  · cases h; exact ⟨_, Tryz.func45, a45_ok⟩
  · cases h; exact ⟨_, Tryz.func46, a46_ok⟩
  · cases h; exact ⟨_, Tryz.func47, a47_ok⟩
  · cases h; exact ⟨_, Tryz.func48, a48_ok⟩
  · cases h; exact ⟨_, Tryz.func49, a49_ok⟩
  · cases h; exact ⟨_, Tryz.func50, a50_ok⟩
  · cases h; exact ⟨_, Tryz.func51, a51_ok⟩
  · cases h; exact ⟨_, Tryz.func52, a52_ok⟩
  · cases h; exact ⟨_, Tryz.func53, a53_ok⟩
  · cases h; exact ⟨_, Tryz.func54, a54_ok⟩
  · cases h; exact ⟨_, Tryz.func55, a55_ok⟩
  · cases h; exact ⟨_, Tryz.func56, a56_ok⟩
  · cases h; exact ⟨_, Tryz.func57, a57_ok⟩
  · cases h; exact ⟨_, Tryz.func58, a58_ok⟩
  · cases h; exact ⟨_, Tryz.func59, a59_ok⟩
  · cases h; exact ⟨_, Tryz.func60, a60_ok⟩
  · cases h; exact ⟨_, Tryz.func61, a61_ok⟩
  · cases h; exact ⟨_, Tryz.func62, a62_ok⟩
  · cases h; exact ⟨_, Tryz.func63, a63_ok⟩
  · cases h; exact ⟨_, Tryz.func64, a64_ok⟩
  · cases h; exact ⟨_, Tryz.func65, a65_ok⟩
  · cases h; exact ⟨_, Tryz.func66, a66_ok⟩
  · cases h; exact ⟨_, Tryz.func67, a67_ok⟩
  · cases h; exact ⟨_, Tryz.func68, a68_ok⟩
  · cases h; exact ⟨_, Tryz.func69, a69_ok⟩
  · cases h; exact ⟨_, Tryz.func70, a70_ok⟩
  · cases h; exact ⟨_, Tryz.func71, a71_ok⟩
  · cases h; exact ⟨_, Tryz.func72, a72_ok⟩
  · cases h; exact ⟨_, Tryz.func73, a73_ok⟩
  · cases h; exact ⟨_, Tryz.func74, a74_ok⟩
  · cases h; exact ⟨_, Tryz.func75, a75_ok⟩
  · cases h; exact ⟨_, Tryz.func76, a76_ok⟩
  · cases h; exact ⟨_, Tryz.func77, a77_ok⟩
  · cases h; exact ⟨_, Tryz.func78, a78_ok⟩
  · cases h; exact ⟨_, Tryz.func79, a79_ok⟩
  · cases h; exact ⟨_, Tryz.func80, a80_ok⟩
  · cases h; exact ⟨_, Tryz.func81, a81_ok⟩
  · cases h; exact ⟨_, Tryz.func82, a82_ok⟩
  · cases h; exact ⟨_, Tryz.func83, a83_ok⟩
  · cases h; exact ⟨_, Tryz.func84, a84_ok⟩
  · cases h; exact ⟨_, Tryz.func87, a87_ok⟩
  · cases h; exact ⟨_, Tryz.func88, a88_ok⟩
  · cases h; exact ⟨_, Tryz.func89, a89_ok⟩
  · cases h; exact ⟨_, Tryz.func90, a90_ok⟩
  · cases h; exact ⟨_, Tryz.func91, a91_ok⟩
  · cases h; exact ⟨_, Tryz.func92, a92_ok⟩
  · cases h; exact ⟨_, Tryz.func93, a93_ok⟩
  · cases h; exact ⟨_, Tryz.func94, a94_ok⟩
  · cases h; exact ⟨_, Tryz.func95, a95_ok⟩
  · cases h; exact ⟨_, Tryz.func96, a96_ok⟩
  · cases h; exact ⟨_, Tryz.func97, a97_ok⟩
  · cases h; exact ⟨_, Tryz.func98, a98_ok⟩
  · cases h; exact ⟨_, Tryz.func99, a99_ok⟩
  · cases h; exact ⟨_, Tryz.func100, a100_ok⟩
  · cases h; exact ⟨_, Tryz.func102, a102_ok⟩
  · cases h; exact ⟨_, Tryz.func106, a106_ok⟩
  · cases h; exact ⟨_, Tryz.func107, a107_ok⟩
  · cases h; exact ⟨_, Tryz.func108, a108_ok⟩
  · cases h; exact ⟨_, Tryz.func109, a109_ok⟩
  · cases h; exact ⟨_, Tryz.func110, a110_ok⟩
  · cases h; exact ⟨_, Tryz.func111, a111_ok⟩
  · cases h; exact ⟨_, Tryz.func112, a112_ok⟩
  · cases h; exact ⟨_, Tryz.func113, a113_ok⟩
  · cases h; exact ⟨_, Tryz.func114, a114_ok⟩
  · cases h; exact ⟨_, Tryz.func115, a115_ok⟩
  · cases h; exact ⟨_, Tryz.func116, a116_ok⟩
  · cases h; exact ⟨_, Tryz.func117, a117_ok⟩
  · cases h; exact ⟨_, Tryz.func118, a118_ok⟩
  · cases h; exact ⟨_, Tryz.func126, a126_ok⟩
  · cases h; exact ⟨_, Tryz.func127, a127_ok⟩
  · cases h; exact ⟨_, Tryz.func128, a128_ok⟩
  · cases h; exact ⟨_, Tryz.func129, a129_ok⟩
  · cases h; exact ⟨_, Tryz.func130, a130_ok⟩
  · cases h; exact ⟨_, Tryz.func146, a146_ok⟩
  · cases h
end Abs
end Go.Proofs.YtmgbcaboljilnaaGreatDoor
