/- The table of the functions' abstract code. -/
import Derived.Test.YtlgbdjlnbnlphaaGreatDoorIRa
import Derived.Test.YtlgbdjlnbnlphaaGreatDoorIRb
namespace Go.Proofs.YtlgbdjlnbnlphaaGreatDoor
namespace Abs
set_option maxRecDepth 100000
noncomputable def look (f : Nat) (l : List (Nat × AFunc)) : Option AFunc := List.rec (motive := fun _ => Option AFunc) none (fun p _ ih => cond (Nat.beq f p.1) (some p.2) ih) l
noncomputable def tab (f : Nat) : Option AFunc := look f [(3, a3), (4, a4), (5, a5), (6, a6), (7, a7), (8, a8), (9, a9), (10, a10), (11, a11), (12, a12), (13, a13), (14, a14), (15, a15), (16, a16), (17, a17), (18, a18), (19, a19), (20, a20), (21, a21), (22, a22), (23, a23), (24, a24), (25, a25), (28, a28), (29, a29), (30, a30), (31, a31), (32, a32), (33, a33), (34, a34), (35, a35), (36, a36), (37, a37), (38, a38), (39, a39), (40, a40), (41, a41), (42, a42), (46, a46), (47, a47), (48, a48), (49, a49), (50, a50), (51, a51), (52, a52), (53, a53), (54, a54), (55, a55), (56, a56), (57, a57), (58, a58), (60, a60), (61, a61), (65, a65), (66, a66), (67, a67), (68, a68), (69, a69), (70, a70), (71, a71), (72, a72), (74, a74), (76, a76), (83, a83), (88, a88), (92, a92)]
theorem tab_end : True := trivial
def RowOk (f : Nat) (af : AFunc) : Prop := ∃ fn, Tryz.prog.funcs[f]? = some fn ∧ funcC Tryz.prog fn = some af
def RowsOk : List (Nat × AFunc) → Prop
  | [] => True
  | p :: r => RowOk p.1 p.2 ∧ RowsOk r
theorem look_row {f : Nat} {af : AFunc} : ∀ {l : List (Nat × AFunc)}, RowsOk l → look f l = some af → RowOk f af
  | [], _, h => by cases h
  | p :: r, q, h => by
    have h : cond (Nat.beq f p.1) (some p.2) (look f r) = some af := h
    cases hb : Nat.beq f p.1 with
    | true =>
      rw [hb] at h
      cases h
      rw [Nat.eq_of_beq_eq_true hb]
      exact q.1
    | false =>
      rw [hb] at h
      exact look_row q.2 h
theorem rows1 {r : List (Nat × AFunc)} (h : RowsOk r) : RowsOk ((3, a3) :: (4, a4) :: (5, a5) :: (6, a6) :: (7, a7) :: (8, a8) :: (9, a9) :: (10, a10) :: (11, a11) :: (12, a12) :: (13, a13) :: (14, a14) :: (15, a15) :: (16, a16) :: (17, a17) :: (18, a18) :: (19, a19) :: (20, a20) :: (21, a21) :: (22, a22) :: r) :=
  ⟨⟨_, Tryz.func3, a3_ok⟩, ⟨⟨_, Tryz.func4, a4_ok⟩, ⟨⟨_, Tryz.func5, a5_ok⟩, ⟨⟨_, Tryz.func6, a6_ok⟩, ⟨⟨_, Tryz.func7, a7_ok⟩, ⟨⟨_, Tryz.func8, a8_ok⟩, ⟨⟨_, Tryz.func9, a9_ok⟩, ⟨⟨_, Tryz.func10, a10_ok⟩, ⟨⟨_, Tryz.func11, a11_ok⟩, ⟨⟨_, Tryz.func12, a12_ok⟩, ⟨⟨_, Tryz.func13, a13_ok⟩, ⟨⟨_, Tryz.func14, a14_ok⟩, ⟨⟨_, Tryz.func15, a15_ok⟩, ⟨⟨_, Tryz.func16, a16_ok⟩, ⟨⟨_, Tryz.func17, a17_ok⟩, ⟨⟨_, Tryz.func18, a18_ok⟩, ⟨⟨_, Tryz.func19, a19_ok⟩, ⟨⟨_, Tryz.func20, a20_ok⟩, ⟨⟨_, Tryz.func21, a21_ok⟩, ⟨⟨_, Tryz.func22, a22_ok⟩, h⟩⟩⟩⟩⟩⟩⟩⟩⟩⟩⟩⟩⟩⟩⟩⟩⟩⟩⟩⟩
theorem rows2 {r : List (Nat × AFunc)} (h : RowsOk r) : RowsOk ((23, a23) :: (24, a24) :: (25, a25) :: (28, a28) :: (29, a29) :: (30, a30) :: (31, a31) :: (32, a32) :: (33, a33) :: (34, a34) :: (35, a35) :: (36, a36) :: (37, a37) :: (38, a38) :: (39, a39) :: (40, a40) :: (41, a41) :: (42, a42) :: (46, a46) :: (47, a47) :: r) :=
  ⟨⟨_, Tryz.func23, a23_ok⟩, ⟨⟨_, Tryz.func24, a24_ok⟩, ⟨⟨_, Tryz.func25, a25_ok⟩, ⟨⟨_, Tryz.func28, a28_ok⟩, ⟨⟨_, Tryz.func29, a29_ok⟩, ⟨⟨_, Tryz.func30, a30_ok⟩, ⟨⟨_, Tryz.func31, a31_ok⟩, ⟨⟨_, Tryz.func32, a32_ok⟩, ⟨⟨_, Tryz.func33, a33_ok⟩, ⟨⟨_, Tryz.func34, a34_ok⟩, ⟨⟨_, Tryz.func35, a35_ok⟩, ⟨⟨_, Tryz.func36, a36_ok⟩, ⟨⟨_, Tryz.func37, a37_ok⟩, ⟨⟨_, Tryz.func38, a38_ok⟩, ⟨⟨_, Tryz.func39, a39_ok⟩, ⟨⟨_, Tryz.func40, a40_ok⟩, ⟨⟨_, Tryz.func41, a41_ok⟩, ⟨⟨_, Tryz.func42, a42_ok⟩, ⟨⟨_, Tryz.func46, a46_ok⟩, ⟨⟨_, Tryz.func47, a47_ok⟩, h⟩⟩⟩⟩⟩⟩⟩⟩⟩⟩⟩⟩⟩⟩⟩⟩⟩⟩⟩⟩
theorem rows3 {r : List (Nat × AFunc)} (h : RowsOk r) : RowsOk ((48, a48) :: (49, a49) :: (50, a50) :: (51, a51) :: (52, a52) :: (53, a53) :: (54, a54) :: (55, a55) :: (56, a56) :: (57, a57) :: (58, a58) :: (60, a60) :: (61, a61) :: (65, a65) :: (66, a66) :: (67, a67) :: (68, a68) :: (69, a69) :: (70, a70) :: (71, a71) :: r) :=
  ⟨⟨_, Tryz.func48, a48_ok⟩, ⟨⟨_, Tryz.func49, a49_ok⟩, ⟨⟨_, Tryz.func50, a50_ok⟩, ⟨⟨_, Tryz.func51, a51_ok⟩, ⟨⟨_, Tryz.func52, a52_ok⟩, ⟨⟨_, Tryz.func53, a53_ok⟩, ⟨⟨_, Tryz.func54, a54_ok⟩, ⟨⟨_, Tryz.func55, a55_ok⟩, ⟨⟨_, Tryz.func56, a56_ok⟩, ⟨⟨_, Tryz.func57, a57_ok⟩, ⟨⟨_, Tryz.func58, a58_ok⟩, ⟨⟨_, Tryz.func60, a60_ok⟩, ⟨⟨_, Tryz.func61, a61_ok⟩, ⟨⟨_, Tryz.func65, a65_ok⟩, ⟨⟨_, Tryz.func66, a66_ok⟩, ⟨⟨_, Tryz.func67, a67_ok⟩, ⟨⟨_, Tryz.func68, a68_ok⟩, ⟨⟨_, Tryz.func69, a69_ok⟩, ⟨⟨_, Tryz.func70, a70_ok⟩, ⟨⟨_, Tryz.func71, a71_ok⟩, h⟩⟩⟩⟩⟩⟩⟩⟩⟩⟩⟩⟩⟩⟩⟩⟩⟩⟩⟩⟩
theorem rows4 {r : List (Nat × AFunc)} (h : RowsOk r) : RowsOk ((72, a72) :: (74, a74) :: (76, a76) :: (83, a83) :: (88, a88) :: (92, a92) :: r) :=
  ⟨⟨_, Tryz.func72, a72_ok⟩, ⟨⟨_, Tryz.func74, a74_ok⟩, ⟨⟨_, Tryz.func76, a76_ok⟩, ⟨⟨_, Tryz.func83, a83_ok⟩, ⟨⟨_, Tryz.func88, a88_ok⟩, ⟨⟨_, Tryz.func92, a92_ok⟩, h⟩⟩⟩⟩⟩⟩
theorem tab_row (f : Nat) (af : AFunc) (h : tab f = some af) : ∃ fn, Tryz.prog.funcs[f]? = some fn ∧ funcC Tryz.prog fn = some af := look_row ((rows1 (rows2 (rows3 (rows4 (show RowsOk [] from trivial)))))) h
end Abs
end Go.Proofs.YtlgbdjlnbnlphaaGreatDoor
