/- live() of the layer: the machine with what it knows; the calls in which its run is cut. -/
import Derived.Test.YthgcjbniipfnbaaGreatDoorB4g
import Derived.Test.YthgcjbniipfnbaaGreatDoorA38
namespace Go.Proofs.YthgcjbniipfnbaaGreatDoor
namespace Abs
noncomputable section
set_option linter.unusedVariables false
set_option maxRecDepth 1000000
def rO:Obj:=.cells ((rootsN.map iN).map uv) .ro
def pN:List Int:=[1,10,100,1000,10000,100000,1000000,10000000,100000000,1000000000,10000000000,100000000000,1000000000000,10000000000000,100000000000000,1000000000000000,10000000000000000,100000000000000000,1000000000000000000,10000000000000000000]
def pL:List V:=pN.map fun n=>.int .u64 n
def pO:Obj:=.cells pL .ro
def gl2:List (Nat × List V):=(1,pL)::gl
def cfgI:Cfg:={ F:=tab,S:=sumB,I:=fun f=>Nat.beq f 205 }
def q1:Nat × Obj:=(63,.cells [.int .i64 0,.int .i64 7,.str [47,97],.str [],.int .i64 5,.int .i64 0,.str [104,105],.str [],.int .i64 0,.int .i64 0,.int .i64 0,.int .i64 0,.str [],.slice none 0 0] (.tip [] 0 none))
def q2:Nat × Obj:=(64,.cells [.int .i64 5,.int .i64 10,.str [47],.str [],.int .i64 0,.int .i64 0,.str [],.str [115],.int .i64 0,.int .i64 0,.int .i64 0,.int .i64 0,.str [],.slice none 0 0] (.tip [] 0 none))
def q3:Nat × Obj:=(71,.cells [.slice (some (69,0)) 100 100,.slice (some (70,0)) 50 50,.bool false,.bool false,.slice none 0 0] (.tip [] 0 none))
def q4:Nat × Obj:=(72,.cells [.ptr (some (71,0)),.bool false,.bool false,.int .i64 0,.int .i64 0,.int .i64 0,.ptr (some (86,0)),.ptr (some (110,0))] (.tip [] 0 none))
def q5:Nat × Obj:=(77,.cells [.ptr (some (71,0)),.bool false,.bool false,.int .i64 0,.int .i64 0,.int .i64 0,.oslice 104 0 1 1 2,.oslice 106 0 1 1 2,.int .i64 2,.ptr none,.map (some 76),.ptr none,.int .i64 0,.int .i64 0,.int .i64 0] (.tip [] 0 none))
def q6:Nat × Obj:=(86,.cells [.ptr (some (77,0)),.str [],.map (some 85),.int .i64 1] (.tip [] 0 none))
def q7:Nat × Obj:=(104,.cells [.int .i64 4,.int .i64 96] (.tip [] 0 none))
def q8:Nat × Obj:=(106,.cells [.int .i64 4,.int .i64 46] (.tip [] 0 none))
def q9:Nat × Obj:=(110,.cells [.ptr (some (86,0)),.ptr (some (108,0)),.map (some 109)] (.tip [] 0 none))
def q10:Nat × Obj:=(111,.cells [.ptr (some (72,0))] (.tip [] 0 none))
def q11:Nat × Obj:=(71,.cells [.slice (some (69,0)) 100 100,.slice (some (70,0)) 50 50,.bool false,.bool false,.oslice 461 0 4 4 3] (.tip [] 0 none))
def q12:Nat × Obj:=(77,.cells [.ptr (some (71,0)),.bool false,.bool false,.int .i64 0,.int .i64 0,.int .i64 0,.oslice 450 0 1 1 2,.oslice 106 0 1 1 2,.int .i64 2,.ptr none,.map (some 76),.ptr none,.int .i64 0,.int .i64 0,.int .i64 6] (.tip [] 0 none))
def q13:Nat × Obj:=(86,.cells [.ptr (some (77,0)),.str (nb 44 0xa59d319159c4e4ce2fb8cabfdf4839f87e7ec16cdb0460dfd44a602ce9fb352c000000000002002e00070001),.map (some 85),.int .i64 1] (.tip [] 0 none))
def q14:Nat × Obj:=(461,.cells [.int .i64 0,.int .i64 4,.str (nb 19 0x200000000010900000000690005014c),.int .i64 0,.int .i64 5,.str (nb 36 0x1000000000009010000006900050000000200000000010900000000690005024c),.int .i64 0,.int .i64 6,.str (nb 46 0x100000000000901000000690005000000020000000001090000000069000531016100000000640006034c),.int .i64 0,.int .i64 7,.str (nb 46 0x100000000000901000000690005000000020000000101090000000069000531016100000000640006034c)] (.tip [362,244,176] 0 none))
def q15:Nat × Obj:=(112,.cells [.int .i64 0,.int .i64 0,.str [47,97],.str [],.int .i64 0,.int .i64 0,.str [],.str [],.int .i64 0,.int .i64 0,.int .i64 0,.int .i64 0,.str [],.slice none 0 0] (.tip [] 0 none))
def q16:Nat × Obj:=(113,.cells [.int .i64 0,.int .i64 0,.str [47,97],.str [],.int .i64 0,.int .i64 0,.str [],.str [],.int .i64 0,.int .i64 0,.int .i64 0,.int .i64 0,.str [],.slice none 0 0] (.tip [] 0 none))
def q17:Nat × Obj:=(114,.cells [.int .i64 0,.int .i64 0,.str [],.slice none 0 0] (.tip [] 0 none))
def q18:Nat × Obj:=(115,.cells [.func (.func 63) [] [],.func (.func 64) [] [],.func (.func 65) [] [],.func (.func 66) [] [],.func (.func 67) [] [],.func (.func 68) [] [],.func (.func 69) [] [],.func (.func 70) [] [],.func (.func 71) [] [],.func (.func 72) [] [],.func (.func 73) [] [],.func (.func 74) [] [],.func (.func 75) [] [],.func (.func 76) [] []] (.tip [] 0 none))
def q19:Nat × Obj:=(116,.cells [.int .i64 0,.int .i64 0,.str [47,97],.str [],.int .i64 0,.int .i64 0,.str [],.str [],.int .i64 0,.int .i64 0,.int .i64 0,.int .i64 0,.str [],.slice none 0 0] (.tip [] 0 none))
def q20:Nat × Obj:=(117,.cells [.int .i64 0,.int .i64 0,.str [],.slice none 0 0] (.tip [] 0 none))
def q21:Nat × Obj:=(118,.cells [.int .i64 0,.str [47,97],.str [],.int .i64 0,.int .i64 0,.str []] (.tip [] 0 none))
def q22:Nat × Obj:=(119,.cells [.int .i64 0,.int .i64 0,.str [],.slice none 0 0] (.tip [] 0 none))
def q23:Nat × Obj:=(120,.cells [.int .i64 0,.int .i64 0,.str [],.slice none 0 0] (.tip [] 0 none))
def q24:Nat × Obj:=(121,.cells [.int .i64 0,.str [47,97],.str [],.int .i64 0,.int .i64 0,.str []] (.tip [] 0 none))
def q25:Nat × Obj:=(122,.cells [.int .i64 0,.int .i64 0,.str [],.slice none 0 0] (.tip [] 0 none))
def q26:Nat × Obj:=(123,.cells [.int .i64 0,.int .i64 0,.str [],.slice none 0 0] (.tip [] 0 none))
def q27:Nat × Obj:=(125,.cells [.int .i64 0,.str [47,97],.str [],.int .i64 0,.int .i64 0,.str []] (.tip [] 0 none))
def q28:Nat × Obj:=(126,.cells [.str []] (.tip [] 0 none))
def q29:Nat × Obj:=(127,.cells [.int .i64 0,.int .i64 0,.str [],.slice none 0 0] (.tip [] 0 none))
def q30:Nat × Obj:=(128,.cells [.func (.func 192) [] [],.func (.func 193) [] [],.func (.func 194) [] [],.func (.func 195) [] [],.func (.func 196) [] [],.func (.func 197) [] [],.func (.func 198) [] [],.func (.func 199) [] [],.func (.func 200) [] [],.func (.func 201) [] [],.func (.func 202) [] []] (.tip [] 0 none))
def q31:Nat × Obj:=(129,.cells [.int .i64 0] (.tip [] 0 none))
def q32:Nat × Obj:=(132,.cells [.int .i64 0,.int .i64 0,.str [],.slice none 0 0] (.tip [] 0 none))
def q33:Nat × Obj:=(133,.cells [.int .i64 0,.int .i64 0,.str [],.slice none 0 0] (.tip [] 0 none))
def lv1:Cut:=⟨18,[.int .i64 100,.int .i64 50,.agg [.bool false,.bool false,.int .i64 0,.int .i64 0,.int .i64 0]],67,[(8,rO),(1,pO),q1,q2],.ptr (some (111,0)),112,[(8,rO),(1,pO),q1,q2,q3,q4,(76,.map [] [] 0),q5,q6,q7,q8,q9,q10]⟩
def lv2:Cut:=⟨17,[.ptr (some (111,0)),.str [99,114,101,97,116,101,32,47,97]],112,[(8,rO),(1,pO),q1,q2,q3,q4,(76,.map [] [] 0),q5,q6,q7,q8,q9,q10],.str [111,107,32,48,32,45],464,[(8,rO),(1,pO),q1,q2,q11,q4,(76,.map [] [] 0),q12,q13,q9,q10,q14]⟩
def lv3:Cut:=⟨296,[.ptr (some (130,0)),.int .i64 0,.int .i64 1],365,[(8,rO),(1,pO),q1,q2,(71,.cells [.slice (some (69,0)) 100 100,.slice (some (70,0)) 50 50,.bool false,.bool false,.oslice 362 0 3 3 3] (.tip [] 0 none)),q4,(76,.map [] [] 0),(77,.cells [.ptr (some (71,0)),.bool false,.bool false,.int .i64 0,.int .i64 0,.int .i64 0,.oslice 351 0 1 1 2,.oslice 106 0 1 1 2,.int .i64 2,.ptr none,.map (some 76),.ptr none,.int .i64 0,.int .i64 0,.int .i64 4] (.tip [] 0 none)),q6,q8,q9,q10,q15,q16,q17,q18,q19,q20,q21,q22,q23,q24,q25,q26,q27,q28,q29,q30,q31,(130,.cells [.ptr (some (77,0)),.str (nb 44 0x90d2de62bfb48cd092e1b301a98223162bcac007fdaf7564bf780e66cb546b34000000000002002e00060001)] (.tip [] 0 none)),q32,q33,(351,.cells [.int .i64 7,.int .i64 93] (.tip [] 0 none)),(362,.cells [.int .i64 0,.int .i64 4,.str (nb 19 0x200000000010900000000690005014c),.int .i64 0,.int .i64 5,.str (nb 36 0x1000000000009010000006900050000000200000000010900000000690005024c),.int .i64 0,.int .i64 6,.str (nb 46 0x100000000000901000000690005000000020000000001090000000069000531016100000000640006034c)] (.tip [244,176] 0 none))],.tuple [],464,[(8,rO),(1,pO),q1,q2,q11,q4,(76,.map [] [] 0),q12,q6,q9,q10,q15,q16,q17,q18,q19,q20,q21,q22,q23,q24,q25,q26,q27,q28,q29,q30,q31,(130,.cells [.ptr (some (77,0)),.str (nb 44 0xa59d319159c4e4ce2fb8cabfdf4839f87e7ec16cdb0460dfd44a602ce9fb352c000000000002002e00070001)] (.tip [] 0 none)),q32,q33,q14]⟩
def lv4:Cut:=⟨17,[.ptr (some (111,0)),.str [115,116,97,116,32,47,97]],464,[(8,rO),(1,pO),q1,q2,q11,q4,(76,.map [] [] 0),q12,q13,q9,q10,q14],.str (nb 16 0x31332035366336393636362030206b6f),575,[(8,rO),(1,pO),q1,q2,q11,q4,(76,.map [] [] 0),(77,.cells [.ptr (some (71,0)),.bool false,.bool false,.int .i64 0,.int .i64 0,.int .i64 0,.oslice 450 0 1 1 2,.oslice 106 0 1 1 2,.int .i64 2,.ptr none,.map (some 76),.ptr none,.int .i64 0,.int .i64 0,.int .i64 9] (.tip [] 0 none)),q13,q9,q10,q14]⟩
end
end Abs
end Go.Proofs.YthgcjbniipfnbaaGreatDoor
