/- The table of the functions' abstract code. -/
import Derived.Test.YtdebiolekbldiaaGreatDoorIRa
import Derived.Test.YtdebiolekbldiaaGreatDoorIRb
import Derived.Test.YtdebiolekbldiaaGreatDoorIRd
namespace Go.Proofs.YtdebiolekbldiaaGreatDoor
namespace Abs
set_option maxRecDepth 100000
noncomputable def look (f : Nat) (l : List (Nat × AFunc)) : Option AFunc := List.rec (motive := fun _ => Option AFunc) none (fun p _ ih => cond (Nat.beq f p.1) (some p.2) ih) l
noncomputable def tab (f : Nat) : Option AFunc := look f [(4, a4), (8, a8), (9, a9), (10, a10), (11, a11), (13, a13), (14, a14), (15, a15), (16, a16), (17, a17), (18, a18), (19, a19), (20, a20), (21, a21), (23, a23), (26, a26), (27, a27), (28, a28), (29, a29), (30, a30), (31, a31), (32, a32), (33, a33), (34, a34), (35, a35), (40, a40), (41, a41), (42, a42), (43, a43), (44, a44), (45, a45), (46, a46), (47, a47), (48, a48), (49, a49), (50, a50), (51, a51), (52, a52), (53, a53), (54, a54), (55, a55), (58, a58), (59, a59), (61, a61), (62, a62), (63, a63), (64, a64), (65, a65), (71, a71), (72, a72), (73, a73), (74, a74), (75, a75), (76, a76), (77, a77), (78, a78), (79, a79), (80, a80), (81, a81), (82, a82), (83, a83), (84, a84), (86, a86), (87, a87), (88, a88), (89, a89), (90, a90), (91, a91), (92, a92), (93, a93), (94, a94), (95, a95), (96, a96), (97, a97), (98, a98), (99, a99), (100, a100), (101, a101), (103, a103), (104, a104), (105, a105), (106, a106), (107, a107), (108, a108), (110, a110), (111, a111), (112, a112), (113, a113), (114, a114), (115, a115), (116, a116), (117, a117), (120, a120), (121, a121), (122, a122), (123, a123), (124, a124), (125, a125), (126, a126), (127, a127), (128, a128), (129, a129), (130, a130), (131, a131), (132, a132), (133, a133), (134, a134), (138, a138), (139, a139), (140, a140), (142, a142), (143, a143), (144, a144), (145, a145), (146, a146), (147, a147), (148, a148), (149, a149), (150, a150), (151, a151), (156, a156), (161, a161), (162, a162), (163, a163)]
theorem tab_end : True := trivial
def RowOk (f : Nat) (af : AFunc) : Prop := ∃ fn, Tryz.prog.funcs[f]? = some fn ∧ funcC Tryz.prog fn = some af
def RowsOk : List (Nat × AFunc) → Prop
  | [] => True
  | p :: r => RowOk p.1 p.2 ∧ RowsOk r
theorem look_row {f : Nat} {af : AFunc} : ∀ {l : List (Nat × AFunc)}, RowsOk l → look f l = some af → RowOk f af
  | [], _, h => by cases h
  | p :: r, q, h => by
    have h : cond (Nat.beq f p.1) (some p.2) (look f r) = some af := h
    cases hb : Nat.beq f p.1 with
    | true =>
      rw [hb] at h
      cases h
      rw [Nat.eq_of_beq_eq_true hb]
      exact q.1
    | false =>
      rw [hb] at h
      exact look_row q.2 h
theorem rows1 {r : List (Nat × AFunc)} (h : RowsOk r) : RowsOk ((4, a4) :: (8, a8) :: (9, a9) :: (10, a10) :: (11, a11) :: (13, a13) :: (14, a14) :: (15, a15) :: (16, a16) :: (17, a17) :: (18, a18) :: (19, a19) :: (20, a20) :: (21, a21) :: (23, a23) :: (26, a26) :: (27, a27) :: (28, a28) :: (29, a29) :: (30, a30) :: r) :=
  ⟨⟨_, Tryz.func4, a4_ok⟩, ⟨⟨_, Tryz.func8, a8_ok⟩, ⟨⟨_, Tryz.func9, a9_ok⟩, ⟨⟨_, Tryz.func10, a10_ok⟩, ⟨⟨_, Tryz.func11, a11_ok⟩, ⟨⟨_, Tryz.func13, a13_ok⟩, ⟨⟨_, Tryz.func14, a14_ok⟩, ⟨⟨_, Tryz.func15, a15_ok⟩, ⟨⟨_, Tryz.func16, a16_ok⟩, ⟨⟨_, Tryz.func17, a17_ok⟩, ⟨⟨_, Tryz.func18, a18_ok⟩, ⟨⟨_, Tryz.func19, a19_ok⟩, ⟨⟨_, Tryz.func20, a20_ok⟩, ⟨⟨_, Tryz.func21, a21_ok⟩, ⟨⟨_, Tryz.func23, a23_ok⟩, ⟨⟨_, Tryz.func26, a26_ok⟩, ⟨⟨_, Tryz.func27, a27_ok⟩, ⟨⟨_, Tryz.func28, a28_ok⟩, ⟨⟨_, Tryz.func29, a29_ok⟩, ⟨⟨_, Tryz.func30, a30_ok⟩, h⟩⟩⟩⟩⟩⟩⟩⟩⟩⟩⟩⟩⟩⟩⟩⟩⟩⟩⟩⟩
theorem rows2 {r : List (Nat × AFunc)} (h : RowsOk r) : RowsOk ((31, a31) :: (32, a32) :: (33, a33) :: (34, a34) :: (35, a35) :: (40, a40) :: (41, a41) :: (42, a42) :: (43, a43) :: (44, a44) :: (45, a45) :: (46, a46) :: (47, a47) :: (48, a48) :: (49, a49) :: (50, a50) :: (51, a51) :: (52, a52) :: (53, a53) :: (54, a54) :: r) :=
  ⟨⟨_, Tryz.func31, a31_ok⟩, ⟨⟨_, Tryz.func32, a32_ok⟩, ⟨⟨_, Tryz.func33, a33_ok⟩, ⟨⟨_, Tryz.func34, a34_ok⟩, ⟨⟨_, Tryz.func35, a35_ok⟩, ⟨⟨_, Tryz.func40, a40_ok⟩, ⟨⟨_, Tryz.func41, a41_ok⟩, ⟨⟨_, Tryz.func42, a42_ok⟩, ⟨⟨_, Tryz.func43, a43_ok⟩, ⟨⟨_, Tryz.func44, a44_ok⟩, ⟨⟨_, Tryz.func45, a45_ok⟩, ⟨⟨_, Tryz.func46, a46_ok⟩, ⟨⟨_, Tryz.func47, a47_ok⟩, ⟨⟨_, Tryz.func48, a48_ok⟩, ⟨⟨_, Tryz.func49, a49_ok⟩, ⟨⟨_, Tryz.func50, a50_ok⟩, ⟨⟨_, Tryz.func51, a51_ok⟩, ⟨⟨_, Tryz.func52, a52_ok⟩, ⟨⟨_, Tryz.func53, a53_ok⟩, ⟨⟨_, Tryz.func54, a54_ok⟩, h⟩⟩⟩⟩⟩⟩⟩⟩⟩⟩⟩⟩⟩⟩⟩⟩⟩⟩⟩⟩
theorem rows3 {r : List (Nat × AFunc)} (h : RowsOk r) : RowsOk ((55, a55) :: (58, a58) :: (59, a59) :: (61, a61) :: (62, a62) :: (63, a63) :: (64, a64) :: (65, a65) :: (71, a71) :: (72, a72) :: (73, a73) :: (74, a74) :: (75, a75) :: (76, a76) :: (77, a77) :: (78, a78) :: (79, a79) :: (80, a80) :: (81, a81) :: (82, a82) :: r) :=
  ⟨⟨_, Tryz.func55, a55_ok⟩, ⟨⟨_, Tryz.func58, a58_ok⟩, ⟨⟨_, Tryz.func59, a59_ok⟩, ⟨⟨_, Tryz.func61, a61_ok⟩, ⟨⟨_, Tryz.func62, a62_ok⟩, ⟨⟨_, Tryz.func63, a63_ok⟩, ⟨⟨_, Tryz.func64, a64_ok⟩, ⟨⟨_, Tryz.func65, a65_ok⟩, ⟨⟨_, Tryz.func71, a71_ok⟩, ⟨⟨_, Tryz.func72, a72_ok⟩, ⟨⟨_, Tryz.func73, a73_ok⟩, ⟨⟨_, Tryz.func74, a74_ok⟩, ⟨⟨_, Tryz.func75, a75_ok⟩, ⟨⟨_, Tryz.func76, a76_ok⟩, ⟨⟨_, Tryz.func77, a77_ok⟩, ⟨⟨_, Tryz.func78, a78_ok⟩, ⟨⟨_, Tryz.func79, a79_ok⟩, ⟨⟨_, Tryz.func80, a80_ok⟩, ⟨⟨_, Tryz.func81, a81_ok⟩, ⟨⟨_, Tryz.func82, a82_ok⟩, h⟩⟩⟩⟩⟩⟩⟩⟩⟩⟩⟩⟩⟩⟩⟩⟩⟩⟩⟩⟩
theorem rows4 {r : List (Nat × AFunc)} (h : RowsOk r) : RowsOk ((83, a83) :: (84, a84) :: (86, a86) :: (87, a87) :: (88, a88) :: (89, a89) :: (90, a90) :: (91, a91) :: (92, a92) :: (93, a93) :: (94, a94) :: (95, a95) :: (96, a96) :: (97, a97) :: (98, a98) :: (99, a99) :: (100, a100) :: (101, a101) :: (103, a103) :: (104, a104) :: r) :=
  ⟨⟨_, Tryz.func83, a83_ok⟩, ⟨⟨_, Tryz.func84, a84_ok⟩, ⟨⟨_, Tryz.func86, a86_ok⟩, ⟨⟨_, Tryz.func87, a87_ok⟩, ⟨⟨_, Tryz.func88, a88_ok⟩, ⟨⟨_, Tryz.func89, a89_ok⟩, ⟨⟨_, Tryz.func90, a90_ok⟩, ⟨⟨_, Tryz.func91, a91_ok⟩, ⟨⟨_, Tryz.func92, a92_ok⟩, ⟨⟨_, Tryz.func93, a93_ok⟩, ⟨⟨_, Tryz.func94, a94_ok⟩, ⟨⟨_, Tryz.func95, a95_ok⟩, ⟨⟨_, Tryz.func96, a96_ok⟩, ⟨⟨_, Tryz.func97, a97_ok⟩, ⟨⟨_, Tryz.func98, a98_ok⟩, ⟨⟨_, Tryz.func99, a99_ok⟩, ⟨⟨_, Tryz.func100, a100_ok⟩, ⟨⟨_, Tryz.func101, a101_ok⟩, ⟨⟨_, Tryz.func103, a103_ok⟩, ⟨⟨_, Tryz.func104, a104_ok⟩, h⟩⟩⟩⟩⟩⟩⟩⟩⟩⟩⟩⟩⟩⟩⟩⟩⟩⟩⟩⟩
theorem rows5 {r : List (Nat × AFunc)} (h : RowsOk r) : RowsOk ((105, a105) :: (106, a106) :: (107, a107) :: (108, a108) :: (110, a110) :: (111, a111) :: (112, a112) :: (113, a113) :: (114, a114) :: (115, a115) :: (116, a116) :: (117, a117) :: (120, a120) :: (121, a121) :: (122, a122) :: (123, a123) :: (124, a124) :: (125, a125) :: (126, a126) :: (127, a127) :: r) :=
  ⟨⟨_, Tryz.func105, a105_ok⟩, ⟨⟨_, Tryz.func106, a106_ok⟩, ⟨⟨_, Tryz.func107, a107_ok⟩, ⟨⟨_, Tryz.func108, a108_ok⟩, ⟨⟨_, Tryz.func110, a110_ok⟩, ⟨⟨_, Tryz.func111, a111_ok⟩, ⟨⟨_, Tryz.func112, a112_ok⟩, ⟨⟨_, Tryz.func113, a113_ok⟩, ⟨⟨_, Tryz.func114, a114_ok⟩, ⟨⟨_, Tryz.func115, a115_ok⟩, ⟨⟨_, Tryz.func116, a116_ok⟩, ⟨⟨_, Tryz.func117, a117_ok⟩, ⟨⟨_, Tryz.func120, a120_ok⟩, ⟨⟨_, Tryz.func121, a121_ok⟩, ⟨⟨_, Tryz.func122, a122_ok⟩, ⟨⟨_, Tryz.func123, a123_ok⟩, ⟨⟨_, Tryz.func124, a124_ok⟩, ⟨⟨_, Tryz.func125, a125_ok⟩, ⟨⟨_, Tryz.func126, a126_ok⟩, ⟨⟨_, Tryz.func127, a127_ok⟩, h⟩⟩⟩⟩⟩⟩⟩⟩⟩⟩⟩⟩⟩⟩⟩⟩⟩⟩⟩⟩
theorem rows6 {r : List (Nat × AFunc)} (h : RowsOk r) : RowsOk ((128, a128) :: (129, a129) :: (130, a130) :: (131, a131) :: (132, a132) :: (133, a133) :: (134, a134) :: (138, a138) :: (139, a139) :: (140, a140) :: (142, a142) :: (143, a143) :: (144, a144) :: (145, a145) :: (146, a146) :: (147, a147) :: (148, a148) :: (149, a149) :: (150, a150) :: (151, a151) :: r) :=
  ⟨⟨_, Tryz.func128, a128_ok⟩, ⟨⟨_, Tryz.func129, a129_ok⟩, ⟨⟨_, Tryz.func130, a130_ok⟩, ⟨⟨_, Tryz.func131, a131_ok⟩, ⟨⟨_, Tryz.func132, a132_ok⟩, ⟨⟨_, Tryz.func133, a133_ok⟩, ⟨⟨_, Tryz.func134, a134_ok⟩, ⟨⟨_, Tryz.func138, a138_ok⟩, ⟨⟨_, Tryz.func139, a139_ok⟩, ⟨⟨_, Tryz.func140, a140_ok⟩, ⟨⟨_, Tryz.func142, a142_ok⟩, ⟨⟨_, Tryz.func143, a143_ok⟩, ⟨⟨_, Tryz.func144, a144_ok⟩, ⟨⟨_, Tryz.func145, a145_ok⟩, ⟨⟨_, Tryz.func146, a146_ok⟩, ⟨⟨_, Tryz.func147, a147_ok⟩, ⟨⟨_, Tryz.func148, a148_ok⟩, ⟨⟨_, Tryz.func149, a149_ok⟩, ⟨⟨_, Tryz.func150, a150_ok⟩, ⟨⟨_, Tryz.func151, a151_ok⟩, h⟩⟩⟩⟩⟩⟩⟩⟩⟩⟩⟩⟩⟩⟩⟩⟩⟩⟩⟩⟩
theorem rows7 {r : List (Nat × AFunc)} (h : RowsOk r) : RowsOk ((156, a156) :: (161, a161) :: (162, a162) :: (163, a163) :: r) :=
  ⟨⟨_, Tryz.func156, a156_ok⟩, ⟨⟨_, Tryz.func161, a161_ok⟩, ⟨⟨_, Tryz.func162, a162_ok⟩, ⟨⟨_, Tryz.func163, a163_ok⟩, h⟩⟩⟩⟩
theorem tab_row (f : Nat) (af : AFunc) (h : tab f = some af) : ∃ fn, Tryz.prog.funcs[f]? = some fn ∧ funcC Tryz.prog fn = some af := look_row ((rows1 (rows2 (rows3 (rows4 (rows5 (rows6 (rows7 (show RowsOk [] from trivial))))))))) h
end Abs
end Go.Proofs.YtdebiolekbldiaaGreatDoor
