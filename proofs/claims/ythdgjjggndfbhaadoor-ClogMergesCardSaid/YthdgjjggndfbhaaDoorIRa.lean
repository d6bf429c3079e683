/- Functions of these statements, as the abstract machine's code: each is what the machine reads off the program. -/
import Derived.Test.YthdgjjggndfbhaaDoorProg
import Derived.KernelRfl
import Derived.Test.YthdgjjggndfbhaaDoorA18
namespace Go.Proofs.YthdgjjggndfbhaaDoor
namespace Abs
set_option linter.unusedVariables false
set_option maxRecDepth 100000
/-- permafrost/permafrostlaw13.ClogEncodes -/
def a3 : AFunc := ⟨1, [.tmp 2],
  .seq (.ops [⟨(some 1), none, .box (.t 0)⟩,
    ⟨(some 2), none, .mv (.c (.bool false))⟩])
  (.seq (.seq (.ops [⟨(some 7), none, .load (some 2) (.t 1)⟩,
    ⟨(some 8), none, .call (.c (.func (.func 8) [] [])) [(.t 7)]⟩,
    ⟨(some 9), none, .not (.t 8)⟩])
  (.cond (.t 9)
   (.seq (.ops [⟨(some 10), none, .call (.c (.func (.func 9) [] [])) []⟩,
     ⟨(some 2), none, .mv (.t 10)⟩])
   (.ret))
   (.skip)))
  (.seq (.ops [⟨(some 12), none, .load (some 2) (.t 1)⟩,
    ⟨(some 13), none, .call (.c (.func (.func 11) [] [])) [(.t 12)]⟩,
    ⟨(some 14), none, .call (.c (.func (.func 10) [] [])) [(.t 13)]⟩,
    ⟨(some 11), none, .mv (.t 14)⟩,
    ⟨(some 15), none, .extract 0 (.t 11)⟩,
    ⟨(some 16), none, .extract 1 (.t 11)⟩,
    ⟨(some 3), none, .mv (.t 15)⟩,
    ⟨(some 4), none, .mv (.t 16)⟩])
  (.seq (.ops [⟨(some 18), none, .load (some 2) (.t 1)⟩,
    ⟨(some 19), none, .call (.c (.func (.func 12) [] [])) [(.t 18)]⟩,
    ⟨(some 17), none, .mv (.t 19)⟩,
    ⟨(some 20), none, .extract 0 (.t 17)⟩,
    ⟨(some 21), none, .extract 1 (.t 17)⟩,
    ⟨(some 5), none, .mv (.t 20)⟩,
    ⟨(some 6), none, .mv (.t 21)⟩])
  (.seq (.draw [⟨⟨(some 22), none, .mv (.t 3)⟩, 0, []⟩,
    ⟨⟨(some 23), none, .mv (.t 5)⟩, 1, []⟩,
    ⟨⟨(some 24), none, .bin .eql (.t 22) (.t 23)⟩, 2, [0, 1]⟩,
    ⟨⟨(some 25), none, .mv (.t 24)⟩, 3, [0, 1, 2]⟩,
    ⟨⟨(some 26), (some (25, true)), .mv (.t 4)⟩, 4, [0, 1, 2, 3]⟩,
    ⟨⟨(some 27), (some (25, true)), .mv (.t 6)⟩, 5, [0, 1, 2, 3]⟩,
    ⟨⟨(some 28), (some (25, true)), .bin .eql (.t 26) (.t 27)⟩, 6, [0, 1, 2, 3, 4, 5]⟩,
    ⟨⟨(some 29), none, .pick (.t 25) (.t 28) (.c (.bool false))⟩, 7, [0, 1, 2, 3, 4, 5, 6]⟩,
    ⟨⟨(some 30), none, .mv (.t 29)⟩, 8, [0, 1, 2, 3, 4, 5, 6, 7]⟩,
    ⟨⟨(some 31), (some (30, true)), .load (some 2) (.t 1)⟩, 9, [0, 1, 2, 3, 4, 5, 6, 7, 8]⟩,
    ⟨⟨(some 34), (some (30, true)), .load (some 2) (.t 1)⟩, 12, [0, 1, 2, 3, 4, 5, 6, 7, 8]⟩,
    ⟨⟨(some 32), (some (30, true)), .call (.c (.func (.func 11) [] [])) [(.t 31)]⟩, 10, [0, 1, 2, 3, 4, 5, 6, 7, 8, 9]⟩,
    ⟨⟨(some 33), (some (30, true)), .call (.c (.func (.func 13) [] [])) [(.t 32)]⟩, 11, [0, 1, 2, 3, 4, 5, 6, 7, 8, 9, 11]⟩,
    ⟨⟨(some 35), (some (30, true)), .call (.c (.func (.func 14) [] [])) [(.t 34)]⟩, 13, [0, 1, 2, 3, 4, 5, 6, 7, 8, 9, 10, 11, 12]⟩,
    ⟨⟨(some 36), (some (30, true)), .bin .eql (.t 33) (.t 35)⟩, 14, [0, 1, 2, 3, 4, 5, 6, 7, 8, 9, 10, 11, 12, 13]⟩,
    ⟨⟨(some 37), none, .pick (.t 30) (.t 36) (.c (.bool false))⟩, 15, [0, 1, 2, 3, 4, 5, 6, 7, 8, 9, 10, 11, 12, 13, 14]⟩,
    ⟨⟨(some 38), none, .mv (.t 37)⟩, 16, [0, 1, 2, 3, 4, 5, 6, 7, 8, 9, 10, 11, 12, 13, 14, 15]⟩,
    ⟨⟨(some 39), (some (38, true)), .call (.c (.func (.func 9) [] [])) []⟩, 17, [0, 1, 2, 3, 4, 5, 6, 7, 8, 9, 10, 11, 12, 13, 14, 15, 16]⟩,
    ⟨⟨(some 40), none, .pick (.t 38) (.t 39) (.c (.bool false))⟩, 18, [0, 1, 2, 3, 4, 5, 6, 7, 8, 9, 10, 11, 12, 13, 14, 15, 16, 17]⟩,
    ⟨⟨(some 2), none, .mv (.t 40)⟩, 19, [0, 1, 2, 3, 4, 5, 6, 7, 8, 9, 10, 11, 12, 13, 14, 15, 16, 17, 18]⟩])
  (.ret)))))⟩
theorem a3_ok : funcC Tryd.prog Tryd.f3 = some a3 := by kernel_rfl
/-- permafrost/permafrostlaw13.ClogDecodes -/
def a4 : AFunc := ⟨1, [.tmp 2],
  .seq (.ops [⟨(some 2), none, .mv (.c (.bool false))⟩])
  (.seq (.seq (.ops [⟨(some 12), none, .mv (.t 0)⟩,
    ⟨(some 13), none, .lenStr (.t 12)⟩,
    ⟨(some 14), none, .bin .gtr (.t 13) (.c (.int .i64 (1100)))⟩])
  (.cond (.t 14)
   (.seq (.ops [⟨(some 15), none, .call (.c (.func (.func 9) [] [])) []⟩,
     ⟨(some 2), none, .mv (.t 15)⟩])
   (.ret))
   (.skip)))
  (.seq (.ops [⟨(some 16), none, .mv (.t 0)⟩,
    ⟨(some 17), none, .mv (.t 0)⟩,
    ⟨(some 18), none, .call (.c (.func (.func 15) [] [])) [(.t 17)]⟩,
    ⟨(some 19), none, .bin .add (.t 16) (.t 18)⟩,
    ⟨(some 3), none, .mv (.t 19)⟩])
  (.seq (.ops [⟨(some 21), none, .mv (.t 0)⟩,
    ⟨(some 22), none, .call (.c (.func (.func 16) [] [])) [(.t 21)]⟩,
    ⟨(some 20), none, .mv (.t 22)⟩,
    ⟨(some 23), none, .extract 0 (.t 20)⟩,
    ⟨(some 24), none, .extract 1 (.t 20)⟩,
    ⟨(some 4), none, .alloc none [(.int .i64 (0)), (.slice none 0 0)]⟩,
    ⟨none, none, .store 2 (.t 4) (.t 23)⟩,
    ⟨(some 5), none, .mv (.t 24)⟩])
  (.seq (.ops [⟨(some 26), none, .mv (.t 0)⟩,
    ⟨(some 27), none, .call (.c (.func (.func 17) [] [])) [(.t 26)]⟩,
    ⟨(some 25), none, .mv (.t 27)⟩,
    ⟨(some 28), none, .extract 0 (.t 25)⟩,
    ⟨(some 29), none, .extract 1 (.t 25)⟩,
    ⟨(some 6), none, .alloc none [(.int .i64 (0)), (.slice none 0 0)]⟩,
    ⟨none, none, .store 2 (.t 6) (.t 28)⟩,
    ⟨(some 7), none, .mv (.t 29)⟩])
  (.seq (.ops [⟨(some 31), none, .mv (.t 3)⟩,
    ⟨(some 32), none, .call (.c (.func (.func 16) [] [])) [(.t 31)]⟩,
    ⟨(some 30), none, .mv (.t 32)⟩,
    ⟨(some 33), none, .extract 0 (.t 30)⟩,
    ⟨(some 34), none, .extract 1 (.t 30)⟩,
    ⟨(some 8), none, .alloc none [(.int .i64 (0)), (.slice none 0 0)]⟩,
    ⟨none, none, .store 2 (.t 8) (.t 33)⟩,
    ⟨(some 9), none, .mv (.t 34)⟩])
  (.seq (.ops [⟨(some 36), none, .mv (.t 3)⟩,
    ⟨(some 37), none, .call (.c (.func (.func 17) [] [])) [(.t 36)]⟩,
    ⟨(some 35), none, .mv (.t 37)⟩,
    ⟨(some 38), none, .extract 0 (.t 35)⟩,
    ⟨(some 39), none, .extract 1 (.t 35)⟩,
    ⟨(some 10), none, .alloc none [(.int .i64 (0)), (.slice none 0 0)]⟩,
    ⟨none, none, .store 2 (.t 10) (.t 38)⟩,
    ⟨(some 11), none, .mv (.t 39)⟩])
  (.seq (.draw [⟨⟨(some 40), none, .fieldAddr 0 (.t 4)⟩, 0, []⟩,
    ⟨⟨(some 41), none, .load none (.t 40)⟩, 1, [0]⟩,
    ⟨⟨(some 42), none, .fieldAddr 0 (.t 6)⟩, 2, []⟩,
    ⟨⟨(some 43), none, .load none (.t 42)⟩, 3, [2]⟩,
    ⟨⟨(some 44), none, .bin .eql (.t 41) (.t 43)⟩, 4, [0, 1, 2, 3]⟩,
    ⟨⟨(some 45), none, .mv (.t 44)⟩, 5, [0, 1, 2, 3, 4]⟩,
    ⟨⟨(some 46), (some (45, true)), .fieldAddr 1 (.t 4)⟩, 6, [0, 1, 2, 3, 4, 5]⟩,
    ⟨⟨(some 47), (some (45, true)), .load none (.t 46)⟩, 7, [0, 1, 2, 3, 4, 5, 6]⟩,
    ⟨⟨(some 49), (some (45, true)), .fieldAddr 1 (.t 6)⟩, 9, [0, 1, 2, 3, 4, 5]⟩,
    ⟨⟨(some 50), (some (45, true)), .load none (.t 49)⟩, 10, [0, 1, 2, 3, 4, 5, 8]⟩,
    ⟨⟨(some 48), (some (45, true)), .call (.c (.func (.func 19) [] [])) [(.t 47)]⟩, 8, [0, 1, 2, 3, 4, 5, 6, 7]⟩,
    ⟨⟨(some 51), (some (45, true)), .call (.c (.func (.func 18) [] [])) [(.t 48), (.t 50)]⟩, 11, [0, 1, 2, 3, 4, 5, 6, 7, 8, 9, 10]⟩,
    ⟨⟨(some 52), none, .pick (.t 45) (.t 51) (.c (.bool false))⟩, 12, [0, 1, 2, 3, 4, 5, 6, 7, 8, 9, 10, 11]⟩,
    ⟨⟨(some 53), none, .mv (.t 52)⟩, 13, [0, 1, 2, 3, 4, 5, 6, 7, 8, 9, 10, 11, 12]⟩,
    ⟨⟨(some 54), (some (53, true)), .mv (.t 5)⟩, 14, [0, 1, 2, 3, 4, 5, 6, 7, 8, 9, 10, 11, 12, 13]⟩,
    ⟨⟨(some 55), (some (53, true)), .mv (.t 7)⟩, 15, [0, 1, 2, 3, 4, 5, 6, 7, 8, 9, 10, 11, 12, 13]⟩,
    ⟨⟨(some 56), (some (53, true)), .bin .eql (.t 54) (.t 55)⟩, 16, [0, 1, 2, 3, 4, 5, 6, 7, 8, 9, 10, 11, 12, 13, 14, 15]⟩,
    ⟨⟨(some 57), none, .pick (.t 53) (.t 56) (.c (.bool false))⟩, 17, [0, 1, 2, 3, 4, 5, 6, 7, 8, 9, 10, 11, 12, 13, 14, 15, 16]⟩,
    ⟨⟨(some 58), none, .mv (.t 57)⟩, 18, [0, 1, 2, 3, 4, 5, 6, 7, 8, 9, 10, 11, 12, 13, 14, 15, 16, 17]⟩,
    ⟨⟨(some 59), (some (58, true)), .fieldAddr 0 (.t 8)⟩, 19, [0, 1, 2, 3, 4, 5, 6, 7, 8, 9, 10, 11, 12, 13, 14, 15, 16, 17, 18]⟩,
    ⟨⟨(some 60), (some (58, true)), .load none (.t 59)⟩, 20, [0, 1, 2, 3, 4, 5, 6, 7, 8, 9, 10, 11, 12, 13, 14, 15, 16, 17, 18, 19]⟩,
    ⟨⟨(some 61), (some (58, true)), .fieldAddr 0 (.t 10)⟩, 21, [0, 1, 2, 3, 4, 5, 6, 7, 8, 9, 10, 11, 12, 13, 14, 15, 16, 17, 18]⟩,
    ⟨⟨(some 62), (some (58, true)), .load none (.t 61)⟩, 22, [0, 1, 2, 3, 4, 5, 6, 7, 8, 9, 10, 11, 12, 13, 14, 15, 16, 17, 18, 21]⟩,
    ⟨⟨(some 63), (some (58, true)), .bin .eql (.t 60) (.t 62)⟩, 23, [0, 1, 2, 3, 4, 5, 6, 7, 8, 9, 10, 11, 12, 13, 14, 15, 16, 17, 18, 19, 20, 21, 22]⟩,
    ⟨⟨(some 64), none, .pick (.t 58) (.t 63) (.c (.bool false))⟩, 24, [0, 1, 2, 3, 4, 5, 6, 7, 8, 9, 10, 11, 12, 13, 14, 15, 16, 17, 18, 19, 20, 21, 22, 23]⟩,
    ⟨⟨(some 65), none, .mv (.t 64)⟩, 25, [0, 1, 2, 3, 4, 5, 6, 7, 8, 9, 10, 11, 12, 13, 14, 15, 16, 17, 18, 19, 20, 21, 22, 23, 24]⟩,
    ⟨⟨(some 66), (some (65, true)), .fieldAddr 1 (.t 8)⟩, 26, [0, 1, 2, 3, 4, 5, 6, 7, 8, 9, 10, 11, 12, 13, 14, 15, 16, 17, 18, 19, 20, 21, 22, 23, 24, 25]⟩,
    ⟨⟨(some 67), (some (65, true)), .load none (.t 66)⟩, 27, [0, 1, 2, 3, 4, 5, 6, 7, 8, 9, 10, 11, 12, 13, 14, 15, 16, 17, 18, 19, 20, 21, 22, 23, 24, 25, 26]⟩,
    ⟨⟨(some 69), (some (65, true)), .fieldAddr 1 (.t 10)⟩, 29, [0, 1, 2, 3, 4, 5, 6, 7, 8, 9, 10, 11, 12, 13, 14, 15, 16, 17, 18, 19, 20, 21, 22, 23, 24, 25]⟩,
    ⟨⟨(some 70), (some (65, true)), .load none (.t 69)⟩, 30, [0, 1, 2, 3, 4, 5, 6, 7, 8, 9, 10, 11, 12, 13, 14, 15, 16, 17, 18, 19, 20, 21, 22, 23, 24, 25, 28]⟩,
    ⟨⟨(some 68), (some (65, true)), .call (.c (.func (.func 19) [] [])) [(.t 67)]⟩, 28, [0, 1, 2, 3, 4, 5, 6, 7, 8, 9, 10, 11, 12, 13, 14, 15, 16, 17, 18, 19, 20, 21, 22, 23, 24, 25, 26, 27]⟩,
    ⟨⟨(some 71), (some (65, true)), .call (.c (.func (.func 18) [] [])) [(.t 68), (.t 70)]⟩, 31, [0, 1, 2, 3, 4, 5, 6, 7, 8, 9, 10, 11, 12, 13, 14, 15, 16, 17, 18, 19, 20, 21, 22, 23, 24, 25, 26, 27, 28, 29, 30]⟩,
    ⟨⟨(some 72), none, .pick (.t 65) (.t 71) (.c (.bool false))⟩, 32, [0, 1, 2, 3, 4, 5, 6, 7, 8, 9, 10, 11, 12, 13, 14, 15, 16, 17, 18, 19, 20, 21, 22, 23, 24, 25, 26, 27, 28, 29, 30, 31]⟩,
    ⟨⟨(some 73), none, .mv (.t 72)⟩, 33, [0, 1, 2, 3, 4, 5, 6, 7, 8, 9, 10, 11, 12, 13, 14, 15, 16, 17, 18, 19, 20, 21, 22, 23, 24, 25, 26, 27, 28, 29, 30, 31, 32]⟩,
    ⟨⟨(some 74), (some (73, true)), .mv (.t 9)⟩, 34, [0, 1, 2, 3, 4, 5, 6, 7, 8, 9, 10, 11, 12, 13, 14, 15, 16, 17, 18, 19, 20, 21, 22, 23, 24, 25, 26, 27, 28, 29, 30, 31, 32, 33]⟩,
    ⟨⟨(some 75), (some (73, true)), .mv (.t 11)⟩, 35, [0, 1, 2, 3, 4, 5, 6, 7, 8, 9, 10, 11, 12, 13, 14, 15, 16, 17, 18, 19, 20, 21, 22, 23, 24, 25, 26, 27, 28, 29, 30, 31, 32, 33]⟩,
    ⟨⟨(some 76), (some (73, true)), .bin .eql (.t 74) (.t 75)⟩, 36, [0, 1, 2, 3, 4, 5, 6, 7, 8, 9, 10, 11, 12, 13, 14, 15, 16, 17, 18, 19, 20, 21, 22, 23, 24, 25, 26, 27, 28, 29, 30, 31, 32, 33, 34, 35]⟩,
    ⟨⟨(some 77), none, .pick (.t 73) (.t 76) (.c (.bool false))⟩, 37, [0, 1, 2, 3, 4, 5, 6, 7, 8, 9, 10, 11, 12, 13, 14, 15, 16, 17, 18, 19, 20, 21, 22, 23, 24, 25, 26, 27, 28, 29, 30, 31, 32, 33, 34, 35, 36]⟩,
    ⟨⟨(some 78), none, .mv (.t 77)⟩, 38, [0, 1, 2, 3, 4, 5, 6, 7, 8, 9, 10, 11, 12, 13, 14, 15, 16, 17, 18, 19, 20, 21, 22, 23, 24, 25, 26, 27, 28, 29, 30, 31, 32, 33, 34, 35, 36, 37]⟩,
    ⟨⟨(some 79), (some (78, true)), .call (.c (.func (.func 9) [] [])) []⟩, 39, [0, 1, 2, 3, 4, 5, 6, 7, 8, 9, 10, 11, 12, 13, 14, 15, 16, 17, 18, 19, 20, 21, 22, 23, 24, 25, 26, 27, 28, 29, 30, 31, 32, 33, 34, 35, 36, 37, 38]⟩,
    ⟨⟨(some 80), none, .pick (.t 78) (.t 79) (.c (.bool false))⟩, 40, [0, 1, 2, 3, 4, 5, 6, 7, 8, 9, 10, 11, 12, 13, 14, 15, 16, 17, 18, 19, 20, 21, 22, 23, 24, 25, 26, 27, 28, 29, 30, 31, 32, 33, 34, 35, 36, 37, 38, 39]⟩,
    ⟨⟨(some 2), none, .mv (.t 80)⟩, 41, [0, 1, 2, 3, 4, 5, 6, 7, 8, 9, 10, 11, 12, 13, 14, 15, 16, 17, 18, 19, 20, 21, 22, 23, 24, 25, 26, 27, 28, 29, 30, 31, 32, 33, 34, 35, 36, 37, 38, 39, 40]⟩])
  (.ret))))))))⟩
theorem a4_ok : funcC Tryd.prog Tryd.f4 = some a4 := by kernel_rfl
/-- permafrost/permafrostlaw13.ClogMerges -/
def a5 : AFunc := ⟨1, [.tmp 2],
  .seq (.ops [⟨(some 2), none, .mv (.c (.bool false))⟩])
  (.seq (.seq (.ops [⟨(some 5), none, .mv (.t 0)⟩,
    ⟨(some 6), none, .lenSl (.t 5)⟩,
    ⟨(some 7), none, .bin .gtr (.t 6) (.c (.int .i64 (20)))⟩])
  (.cond (.t 7)
   (.seq (.ops [⟨(some 8), none, .call (.c (.func (.func 9) [] [])) []⟩,
     ⟨(some 2), none, .mv (.t 8)⟩])
   (.ret))
   (.skip)))
  (.seq (.ops [⟨(some 3), none, .mv (.c (.slice none 0 0))⟩])
  (.seq (.seq (.ops [⟨(some 4), none, .mv (.c (.int .i64 (0)))⟩])
  (.block 0 (.loop (.seq (.seq (.ops [⟨(some 9), none, .mv (.t 4)⟩,
      ⟨(some 10), none, .mv (.t 0)⟩,
      ⟨(some 11), none, .lenSl (.t 10)⟩,
      ⟨(some 12), none, .bin .lss (.t 9) (.t 11)⟩])
    (.cond (.t 12)
     (.skip)
     (.exit 0)))
    (.seq (.block 1 (.seq (.seq (.ops [⟨(some 15), none, .mv (.t 0)⟩,
       ⟨(some 16), none, .mv (.t 4)⟩,
       ⟨(some 17), none, .idxSl 2 (.t 15) (.t 16)⟩,
       ⟨(some 18), none, .load (some 2) (.t 17)⟩,
       ⟨(some 19), none, .call (.c (.func (.func 8) [] [])) [(.t 18)]⟩,
       ⟨(some 20), none, .not (.t 19)⟩])
     (.cond (.t 20)
      (.seq (.ops [⟨(some 21), none, .call (.c (.func (.func 9) [] [])) []⟩,
        ⟨(some 2), none, .mv (.t 21)⟩])
      (.ret))
      (.skip)))
     (.ops [⟨(some 22), none, .mv (.t 3)⟩,
       ⟨(some 23), none, .mv (.t 0)⟩,
       ⟨(some 24), none, .mv (.t 4)⟩,
       ⟨(some 25), none, .idxSl 2 (.t 23) (.t 24)⟩,
       ⟨(some 26), none, .load (some 2) (.t 25)⟩,
       ⟨(some 27), none, .call (.c (.func (.func 11) [] [])) [(.t 26)]⟩,
       ⟨(some 28), none, .buildSl none [(.int .i64 (0)), (.slice none 0 0)] 1 [(0, 2, (.t 27))]⟩,
       ⟨(some 29), none, .append 2 32 none (.t 22) (.t 28)⟩,
       ⟨(some 3), none, .mv (.t 29)⟩])))
    (.ops [⟨(some 13), none, .mv (.t 4)⟩,
      ⟨(some 14), none, .bin .add (.t 13) (.c (.int .i64 (1)))⟩,
      ⟨(some 4), none, .mv (.t 14)⟩]))))))
  (.seq (.ops [⟨(some 30), none, .mv (.t 3)⟩,
    ⟨(some 31), none, .call (.c (.func (.func 20) [] [])) [(.t 30)]⟩,
    ⟨(some 32), none, .call (.c (.func (.func 19) [] [])) [(.t 31)]⟩,
    ⟨(some 33), none, .mv (.t 0)⟩,
    ⟨(some 34), none, .call (.c (.func (.func 21) [] [])) [(.t 33)]⟩,
    ⟨(some 35), none, .call (.c (.func (.func 18) [] [])) [(.t 32), (.t 34)]⟩,
    ⟨(some 36), none, .mv (.t 35)⟩,
    ⟨(some 37), (some (36, true)), .call (.c (.func (.func 9) [] [])) []⟩,
    ⟨(some 38), none, .pick (.t 36) (.t 37) (.c (.bool false))⟩,
    ⟨(some 2), none, .mv (.t 38)⟩])
  (.ret)))))⟩
theorem a5_ok : funcC Tryd.prog Tryd.f5 = some a5 := by kernel_rfl
/-- permafrost/permafrostlaw13.ClogTail -/
def a6 : AFunc := ⟨3, [.tmp 6],
  .seq (.ops [⟨(some 3), none, .box (.t 0)⟩,
    ⟨(some 6), none, .mv (.c (.bool false))⟩])
  (.seq (.seq (.ops [⟨(some 12), none, .load (some 2) (.t 3)⟩,
    ⟨(some 13), none, .call (.c (.func (.func 8) [] [])) [(.t 12)]⟩,
    ⟨(some 14), none, .not (.t 13)⟩,
    ⟨(some 15), none, .mv (.t 14)⟩,
    ⟨(some 16), (some (15, false)), .mv (.t 1)⟩,
    ⟨(some 17), (some (15, false)), .bin .lss (.t 16) (.c (.int .i64 (1)))⟩,
    ⟨(some 18), none, .pick (.t 15) (.c (.bool true)) (.t 17)⟩,
    ⟨(some 19), none, .mv (.t 18)⟩,
    ⟨(some 20), (some (19, false)), .mv (.t 1)⟩,
    ⟨(some 21), (some (19, false)), .bin .gtr (.t 20) (.c (.int .i64 (32)))⟩,
    ⟨(some 22), none, .pick (.t 19) (.c (.bool true)) (.t 21)⟩,
    ⟨(some 23), none, .mv (.t 22)⟩,
    ⟨(some 24), (some (23, false)), .mv (.t 2)⟩,
    ⟨(some 25), (some (23, false)), .bin .eql (.t 24) (.c (.int .u8 (0)))⟩,
    ⟨(some 26), none, .pick (.t 23) (.c (.bool true)) (.t 25)⟩])
  (.cond (.t 26)
   (.seq (.ops [⟨(some 27), none, .call (.c (.func (.func 9) [] [])) []⟩,
     ⟨(some 6), none, .mv (.t 27)⟩])
   (.ret))
   (.skip)))
  (.seq (.ops [⟨(some 29), none, .load (some 2) (.t 3)⟩,
    ⟨(some 30), none, .call (.c (.func (.func 11) [] [])) [(.t 29)]⟩,
    ⟨(some 31), none, .call (.c (.func (.func 10) [] [])) [(.t 30)]⟩,
    ⟨(some 28), none, .mv (.t 31)⟩,
    ⟨(some 32), none, .extract 0 (.t 28)⟩,
    ⟨(some 33), none, .extract 1 (.t 28)⟩,
    ⟨(some 7), none, .mv (.t 32)⟩,
    ⟨(some 8), none, .mv (.t 33)⟩])
  (.seq (.seq (.ops [⟨(some 34), none, .mv (.t 8)⟩,
    ⟨(some 35), none, .bin .neq (.t 34) (.c (.int .i64 (0)))⟩,
    ⟨(some 36), none, .mv (.t 35)⟩,
    ⟨(some 37), (some (36, false)), .mv (.t 7)⟩,
    ⟨(some 38), (some (36, false)), .lenStr (.t 37)⟩,
    ⟨(some 39), (some (36, false)), .bin .lss (.t 38) (.c (.int .i64 (41)))⟩,
    ⟨(some 40), none, .pick (.t 36) (.c (.bool true)) (.t 39)⟩])
  (.cond (.t 40)
   (.seq (.ops [⟨(some 41), none, .mv (.t 8)⟩,
     ⟨(some 42), none, .bin .neq (.t 41) (.c (.int .i64 (0)))⟩,
     ⟨(some 43), none, .mv (.t 42)⟩,
     ⟨(some 44), (some (43, true)), .mv (.t 7)⟩,
     ⟨(some 45), (some (43, true)), .bin .eql (.t 44) (.c (.str []))⟩,
     ⟨(some 46), none, .pick (.t 43) (.t 45) (.c (.bool false))⟩,
     ⟨(some 47), none, .mv (.t 46)⟩,
     ⟨(some 48), (some (47, true)), .call (.c (.func (.func 9) [] [])) []⟩,
     ⟨(some 49), none, .pick (.t 47) (.t 48) (.c (.bool false))⟩,
     ⟨(some 6), none, .mv (.t 49)⟩])
   (.ret))
   (.skip)))
  (.seq (.ops [⟨(some 50), none, .mv (.t 7)⟩,
    ⟨(some 51), none, .toBytes (.t 50)⟩,
    ⟨(some 9), none, .mv (.t 51)⟩])
  (.seq (.ops [⟨(some 52), none, .mv (.t 9)⟩,
    ⟨(some 53), none, .mv (.t 9)⟩,
    ⟨(some 54), none, .lenSl (.t 53)⟩,
    ⟨(some 55), none, .mv (.t 1)⟩,
    ⟨(some 56), none, .bin .sub (.t 54) (.t 55)⟩,
    ⟨(some 57), none, .mv (.t 9)⟩,
    ⟨(some 58), none, .mv (.t 9)⟩,
    ⟨(some 59), none, .lenSl (.t 58)⟩,
    ⟨(some 60), none, .mv (.t 1)⟩,
    ⟨(some 61), none, .bin .sub (.t 59) (.t 60)⟩,
    ⟨(some 62), none, .idxSl 1 (.t 57) (.t 61)⟩,
    ⟨(some 63), none, .load none (.t 62)⟩,
    ⟨(some 64), none, .mv (.t 2)⟩,
    ⟨(some 65), none, .bin .xor (.t 63) (.t 64)⟩,
    ⟨(some 66), none, .idxSl 1 (.t 52) (.t 56)⟩,
    ⟨none, none, .store 1 (.t 66) (.t 65)⟩])
  (.seq (.ops [⟨(some 68), none, .mv (.t 9)⟩,
    ⟨(some 69), none, .toStr (.t 68)⟩,
    ⟨(some 70), none, .call (.c (.func (.func 16) [] [])) [(.t 69)]⟩,
    ⟨(some 67), none, .mv (.t 70)⟩,
    ⟨(some 71), none, .extract 0 (.t 67)⟩,
    ⟨(some 72), none, .extract 1 (.t 67)⟩,
    ⟨(some 10), none, .alloc none [(.int .i64 (0)), (.slice none 0 0)]⟩,
    ⟨none, none, .store 2 (.t 10) (.t 71)⟩,
    ⟨(some 11), none, .mv (.t 72)⟩])
  (.seq (.ops [⟨(some 73), none, .mv (.t 11)⟩,
    ⟨(some 74), none, .bin .eql (.t 73) (.c (.int .i64 (4)))⟩,
    ⟨(some 75), none, .mv (.t 74)⟩,
    ⟨(some 76), (some (75, true)), .fieldAddr 1 (.t 10)⟩,
    ⟨(some 77), (some (75, true)), .load none (.t 76)⟩,
    ⟨(some 78), (some (75, true)), .lenSl (.t 77)⟩,
    ⟨(some 79), (some (75, true)), .bin .eql (.t 78) (.c (.int .i64 (0)))⟩,
    ⟨(some 80), none, .pick (.t 75) (.t 79) (.c (.bool false))⟩,
    ⟨(some 81), none, .mv (.t 80)⟩,
    ⟨(some 82), (some (81, true)), .call (.c (.func (.func 9) [] [])) []⟩,
    ⟨(some 83), none, .pick (.t 81) (.t 82) (.c (.bool false))⟩,
    ⟨(some 6), none, .mv (.t 83)⟩])
  (.ret))))))))⟩
theorem a6_ok : funcC Tryd.prog Tryd.f6 = some a6 := by kernel_rfl
/-- permafrost/permafrostlaw13.ClogBack -/
def a7 : AFunc := ⟨1, [.tmp 2],
  .seq (.ops [⟨(some 1), none, .box (.t 0)⟩,
    ⟨(some 2), none, .mv (.c (.bool false))⟩])
  (.seq (.seq (.ops [⟨(some 7), none, .load (some 2) (.t 1)⟩,
    ⟨(some 8), none, .call (.c (.func (.func 8) [] [])) [(.t 7)]⟩,
    ⟨(some 9), none, .not (.t 8)⟩])
  (.cond (.t 9)
   (.seq (.ops [⟨(some 10), none, .call (.c (.func (.func 9) [] [])) []⟩,
     ⟨(some 2), none, .mv (.t 10)⟩])
   (.ret))
   (.skip)))
  (.seq (.ops [⟨(some 12), none, .load (some 2) (.t 1)⟩,
    ⟨(some 13), none, .call (.c (.func (.func 11) [] [])) [(.t 12)]⟩,
    ⟨(some 14), none, .call (.c (.func (.func 10) [] [])) [(.t 13)]⟩,
    ⟨(some 11), none, .mv (.t 14)⟩,
    ⟨(some 15), none, .extract 0 (.t 11)⟩,
    ⟨(some 16), none, .extract 1 (.t 11)⟩,
    ⟨(some 3), none, .mv (.t 15)⟩,
    ⟨(some 4), none, .mv (.t 16)⟩])
  (.seq (.seq (.ops [⟨(some 17), none, .mv (.t 4)⟩,
    ⟨(some 18), none, .bin .neq (.t 17) (.c (.int .i64 (0)))⟩])
  (.cond (.t 18)
   (.seq (.ops [⟨(some 19), none, .mv (.t 3)⟩,
     ⟨(some 20), none, .bin .eql (.t 19) (.c (.str []))⟩,
     ⟨(some 21), none, .mv (.t 20)⟩,
     ⟨(some 22), (some (21, true)), .call (.c (.func (.func 9) [] [])) []⟩,
     ⟨(some 23), none, .pick (.t 21) (.t 22) (.c (.bool false))⟩,
     ⟨(some 2), none, .mv (.t 23)⟩])
   (.ret))
   (.skip)))
  (.seq (.ops [⟨(some 25), none, .mv (.t 3)⟩,
    ⟨(some 26), none, .call (.c (.func (.func 16) [] [])) [(.t 25)]⟩,
    ⟨(some 24), none, .mv (.t 26)⟩,
    ⟨(some 27), none, .extract 0 (.t 24)⟩,
    ⟨(some 28), none, .extract 1 (.t 24)⟩,
    ⟨(some 5), none, .alloc none [(.int .i64 (0)), (.slice none 0 0)]⟩,
    ⟨none, none, .store 2 (.t 5) (.t 27)⟩,
    ⟨(some 6), none, .mv (.t 28)⟩])
  (.seq (.draw [⟨⟨(some 29), none, .fieldAddr 0 (.t 5)⟩, 0, []⟩,
    ⟨⟨(some 30), none, .load none (.t 29)⟩, 1, [0]⟩,
    ⟨⟨(some 31), none, .fieldAddr 0 (.t 1)⟩, 2, []⟩,
    ⟨⟨(some 32), none, .load none (.t 31)⟩, 3, [2]⟩,
    ⟨⟨(some 33), none, .bin .eql (.t 30) (.t 32)⟩, 4, [0, 1, 2, 3]⟩,
    ⟨⟨(some 34), none, .mv (.t 33)⟩, 5, [0, 1, 2, 3, 4]⟩,
    ⟨⟨(some 35), (some (34, true)), .fieldAddr 1 (.t 5)⟩, 6, [0, 1, 2, 3, 4, 5]⟩,
    ⟨⟨(some 36), (some (34, true)), .load none (.t 35)⟩, 7, [0, 1, 2, 3, 4, 5, 6]⟩,
    ⟨⟨(some 38), (some (34, true)), .fieldAddr 1 (.t 1)⟩, 9, [0, 1, 2, 3, 4, 5]⟩,
    ⟨⟨(some 39), (some (34, true)), .load none (.t 38)⟩, 10, [0, 1, 2, 3, 4, 5, 8]⟩,
    ⟨⟨(some 37), (some (34, true)), .call (.c (.func (.func 19) [] [])) [(.t 36)]⟩, 8, [0, 1, 2, 3, 4, 5, 6, 7]⟩,
    ⟨⟨(some 40), (some (34, true)), .call (.c (.func (.func 18) [] [])) [(.t 37), (.t 39)]⟩, 11, [0, 1, 2, 3, 4, 5, 6, 7, 8, 9, 10]⟩,
    ⟨⟨(some 41), none, .pick (.t 34) (.t 40) (.c (.bool false))⟩, 12, [0, 1, 2, 3, 4, 5, 6, 7, 8, 9, 10, 11]⟩,
    ⟨⟨(some 42), none, .mv (.t 41)⟩, 13, [0, 1, 2, 3, 4, 5, 6, 7, 8, 9, 10, 11, 12]⟩,
    ⟨⟨(some 43), (some (42, true)), .mv (.t 6)⟩, 14, [0, 1, 2, 3, 4, 5, 6, 7, 8, 9, 10, 11, 12, 13]⟩,
    ⟨⟨(some 44), (some (42, true)), .bin .eql (.t 43) (.c (.int .i64 (0)))⟩, 15, [0, 1, 2, 3, 4, 5, 6, 7, 8, 9, 10, 11, 12, 13, 14]⟩,
    ⟨⟨(some 45), none, .pick (.t 42) (.t 44) (.c (.bool false))⟩, 16, [0, 1, 2, 3, 4, 5, 6, 7, 8, 9, 10, 11, 12, 13, 14, 15]⟩,
    ⟨⟨(some 46), none, .mv (.t 45)⟩, 17, [0, 1, 2, 3, 4, 5, 6, 7, 8, 9, 10, 11, 12, 13, 14, 15, 16]⟩,
    ⟨⟨(some 47), (some (46, true)), .mv (.t 3)⟩, 18, [0, 1, 2, 3, 4, 5, 6, 7, 8, 9, 10, 11, 12, 13, 14, 15, 16, 17]⟩,
    ⟨⟨(some 48), (some (46, true)), .lenStr (.t 47)⟩, 19, [0, 1, 2, 3, 4, 5, 6, 7, 8, 9, 10, 11, 12, 13, 14, 15, 16, 17, 18]⟩,
    ⟨⟨(some 49), (some (46, true)), .fieldAddr 1 (.t 1)⟩, 20, [0, 1, 2, 3, 4, 5, 6, 7, 8, 9, 10, 11, 12, 13, 14, 15, 16, 17]⟩,
    ⟨⟨(some 50), (some (46, true)), .load none (.t 49)⟩, 21, [0, 1, 2, 3, 4, 5, 6, 7, 8, 9, 10, 11, 12, 13, 14, 15, 16, 17, 20]⟩,
    ⟨⟨(some 51), (some (46, true)), .lenSl (.t 50)⟩, 22, [0, 1, 2, 3, 4, 5, 6, 7, 8, 9, 10, 11, 12, 13, 14, 15, 16, 17, 20, 21]⟩,
    ⟨⟨(some 52), (some (46, true)), .bin .mul (.c (.int .i64 (38))) (.t 51)⟩, 23, [0, 1, 2, 3, 4, 5, 6, 7, 8, 9, 10, 11, 12, 13, 14, 15, 16, 17, 20, 21, 22]⟩,
    ⟨⟨(some 53), (some (46, true)), .bin .add (.c (.int .i64 (41))) (.t 52)⟩, 24, [0, 1, 2, 3, 4, 5, 6, 7, 8, 9, 10, 11, 12, 13, 14, 15, 16, 17, 20, 21, 22, 23]⟩,
    ⟨⟨(some 54), (some (46, true)), .bin .geq (.t 48) (.t 53)⟩, 25, [0, 1, 2, 3, 4, 5, 6, 7, 8, 9, 10, 11, 12, 13, 14, 15, 16, 17, 18, 19, 20, 21, 22, 23, 24]⟩,
    ⟨⟨(some 55), none, .pick (.t 46) (.t 54) (.c (.bool false))⟩, 26, [0, 1, 2, 3, 4, 5, 6, 7, 8, 9, 10, 11, 12, 13, 14, 15, 16, 17, 18, 19, 20, 21, 22, 23, 24, 25]⟩,
    ⟨⟨(some 56), none, .mv (.t 55)⟩, 27, [0, 1, 2, 3, 4, 5, 6, 7, 8, 9, 10, 11, 12, 13, 14, 15, 16, 17, 18, 19, 20, 21, 22, 23, 24, 25, 26]⟩,
    ⟨⟨(some 57), (some (56, true)), .call (.c (.func (.func 9) [] [])) []⟩, 28, [0, 1, 2, 3, 4, 5, 6, 7, 8, 9, 10, 11, 12, 13, 14, 15, 16, 17, 18, 19, 20, 21, 22, 23, 24, 25, 26, 27]⟩,
    ⟨⟨(some 58), none, .pick (.t 56) (.t 57) (.c (.bool false))⟩, 29, [0, 1, 2, 3, 4, 5, 6, 7, 8, 9, 10, 11, 12, 13, 14, 15, 16, 17, 18, 19, 20, 21, 22, 23, 24, 25, 26, 27, 28]⟩,
    ⟨⟨(some 2), none, .mv (.t 58)⟩, 30, [0, 1, 2, 3, 4, 5, 6, 7, 8, 9, 10, 11, 12, 13, 14, 15, 16, 17, 18, 19, 20, 21, 22, 23, 24, 25, 26, 27, 28, 29]⟩])
  (.ret))))))⟩
theorem a7_ok : funcC Tryd.prog Tryd.f7 = some a7 := by kernel_rfl
/-- permafrost/permafrostref13.Small -/
def a8 : AFunc := ⟨1, [.tmp 2],
  .seq (.ops [⟨(some 1), none, .box (.t 0)⟩,
    ⟨(some 2), none, .mv (.c (.bool false))⟩])
  (.seq (.seq (.ops [⟨(some 3), none, .mv (.c (.int .i64 (0)))⟩])
  (.block 0 (.loop (.seq (.seq (.ops [⟨(some 4), none, .mv (.t 3)⟩,
      ⟨(some 5), none, .fieldAddr 1 (.t 1)⟩,
      ⟨(some 6), none, .load none (.t 5)⟩,
      ⟨(some 7), none, .lenSl (.t 6)⟩,
      ⟨(some 8), none, .bin .lss (.t 4) (.t 7)⟩])
    (.cond (.t 8)
     (.skip)
     (.exit 0)))
    (.seq (.block 1 (.seq (.ops [⟨(some 11), none, .fieldAddr 1 (.t 1)⟩,
       ⟨(some 12), none, .load none (.t 11)⟩,
       ⟨(some 13), none, .mv (.t 3)⟩,
       ⟨(some 14), none, .idxSl 4 (.t 12) (.t 13)⟩,
       ⟨(some 15), none, .fieldAddr 1 (.t 14)⟩,
       ⟨(some 16), none, .load none (.t 15)⟩,
       ⟨(some 17), none, .lenStr (.t 16)⟩,
       ⟨(some 18), none, .bin .gtr (.t 17) (.c (.int .i64 (100)))⟩,
       ⟨(some 19), none, .mv (.t 18)⟩,
       ⟨(some 20), (some (19, false)), .fieldAddr 1 (.t 1)⟩,
       ⟨(some 21), (some (19, false)), .load none (.t 20)⟩,
       ⟨(some 22), (some (19, false)), .mv (.t 3)⟩,
       ⟨(some 23), (some (19, false)), .idxSl 4 (.t 21) (.t 22)⟩,
       ⟨(some 24), (some (19, false)), .fieldAddr 0 (.t 23)⟩,
       ⟨(some 25), (some (19, false)), .load none (.t 24)⟩,
       ⟨(some 26), (some (19, false)), .lenStr (.t 25)⟩,
       ⟨(some 27), (some (19, false)), .bin .gtr (.t 26) (.c (.int .i64 (100)))⟩,
       ⟨(some 28), none, .pick (.t 19) (.c (.bool true)) (.t 27)⟩])
     (.cond (.t 28)
      (.seq (.ops [⟨(some 2), none, .mv (.c (.bool false))⟩])
      (.ret))
      (.skip))))
    (.ops [⟨(some 9), none, .mv (.t 3)⟩,
      ⟨(some 10), none, .bin .add (.t 9) (.c (.int .i64 (1)))⟩,
      ⟨(some 3), none, .mv (.t 10)⟩]))))))
  (.seq (.ops [⟨(some 29), none, .fieldAddr 1 (.t 1)⟩,
    ⟨(some 30), none, .load none (.t 29)⟩,
    ⟨(some 31), none, .lenSl (.t 30)⟩,
    ⟨(some 32), none, .bin .leq (.t 31) (.c (.int .i64 (40)))⟩,
    ⟨(some 2), none, .mv (.t 32)⟩])
  (.ret)))⟩
theorem a8_ok : funcC Tryd.prog Tryd.f8 = some a8 := by kernel_rfl
/-- permafrost/permafrostlaw13.live -/
def a9 : AFunc := ⟨0, [.tmp 0],
  .seq (.ops [⟨(some 0), none, .mv (.c (.bool false))⟩])
  (.seq (.ops [⟨(some 1), none, .mv (.c (.str [48, 49, 50, 51, 52, 53, 54, 55, 56, 57, 97, 98, 99, 100, 101, 102, 48, 49, 50, 51, 52, 53, 54, 55, 56, 57, 97, 98, 99, 100, 101, 102]))⟩])
  (.seq (.ops [⟨(some 13), none, .mv (.t 1)⟩,
    ⟨(some 14), none, .build [(.str []), (.str []), (.int .i64 (0)), (.int .i64 (0))] [(0, 1, (.c (.str [107]))), (1, 1, (.t 13)), (2, 1, (.c (.int .i64 (5)))), (3, 1, (.c (.int .i64 (9))))]⟩,
    ⟨(some 15), none, .buildSl none [(.str []), (.str []), (.int .i64 (0)), (.int .i64 (0))] 1 [(0, 4, (.t 14))]⟩,
    ⟨(some 16), none, .build [(.int .i64 (0)), (.slice none 0 0)] [(0, 1, (.c (.int .i64 (3)))), (1, 1, (.t 15))]⟩,
    ⟨(some 2), none, .alloc none [(.int .i64 (0)), (.slice none 0 0)]⟩,
    ⟨none, none, .store 2 (.t 2) (.t 16)⟩])
  (.seq (.ops [⟨(some 17), none, .mv (.t 1)⟩,
    ⟨(some 18), none, .build [(.str []), (.str []), (.int .i64 (0)), (.int .i64 (0))] [(0, 1, (.c (.str [107]))), (1, 1, (.t 17)), (2, 1, (.c (.int .i64 (6)))), (3, 1, (.c (.int .i64 (9))))]⟩,
    ⟨(some 19), none, .mv (.t 1)⟩,
    ⟨(some 20), none, .build [(.str []), (.str []), (.int .i64 (0)), (.int .i64 (0))] [(0, 1, (.c (.str [108]))), (1, 1, (.t 19)), (2, 1, (.c (.int .i64 (7)))), (3, 1, (.c (.int .i64 (1))))]⟩,
    ⟨(some 21), none, .buildSl none [(.str []), (.str []), (.int .i64 (0)), (.int .i64 (0)), (.str []), (.str []), (.int .i64 (0)), (.int .i64 (0))] 2 [(0, 4, (.t 18)), (4, 4, (.t 20))]⟩,
    ⟨(some 22), none, .build [(.int .i64 (0)), (.slice none 0 0)] [(0, 1, (.c (.int .i64 (2)))), (1, 1, (.t 21))]⟩,
    ⟨(some 3), none, .alloc none [(.int .i64 (0)), (.slice none 0 0)]⟩,
    ⟨none, none, .store 2 (.t 3) (.t 22)⟩])
  (.seq (.ops [⟨(some 24), none, .load (some 2) (.t 2)⟩,
    ⟨(some 25), none, .call (.c (.func (.func 10) [] [])) [(.t 24)]⟩,
    ⟨(some 23), none, .mv (.t 25)⟩,
    ⟨(some 26), none, .extract 0 (.t 23)⟩,
    ⟨(some 27), none, .extract 1 (.t 23)⟩,
    ⟨(some 4), none, .mv (.t 26)⟩,
    ⟨(some 5), none, .mv (.t 27)⟩])
  (.seq (.ops [⟨(some 29), none, .mv (.t 4)⟩,
    ⟨(some 30), none, .call (.c (.func (.func 16) [] [])) [(.t 29)]⟩,
    ⟨(some 28), none, .mv (.t 30)⟩,
    ⟨(some 31), none, .extract 0 (.t 28)⟩,
    ⟨(some 32), none, .extract 1 (.t 28)⟩,
    ⟨(some 6), none, .alloc none [(.int .i64 (0)), (.slice none 0 0)]⟩,
    ⟨none, none, .store 2 (.t 6) (.t 31)⟩,
    ⟨(some 7), none, .mv (.t 32)⟩])
  (.seq (.ops [⟨(some 34), none, .call (.c (.func (.func 16) [] [])) [(.c (.str [115, 104, 111, 114, 116]))]⟩,
    ⟨(some 33), none, .mv (.t 34)⟩,
    ⟨(some 35), none, .extract 0 (.t 33)⟩,
    ⟨(some 36), none, .extract 1 (.t 33)⟩,
    ⟨(some 8), none, .alloc none [(.int .i64 (0)), (.slice none 0 0)]⟩,
    ⟨none, none, .store 2 (.t 8) (.t 35)⟩,
    ⟨(some 9), none, .mv (.t 36)⟩])
  (.seq (.ops [⟨(some 37), none, .load (some 2) (.t 2)⟩,
    ⟨(some 38), none, .load (some 2) (.t 3)⟩,
    ⟨(some 39), none, .buildSl none [(.int .i64 (0)), (.slice none 0 0), (.int .i64 (0)), (.slice none 0 0)] 2 [(0, 2, (.t 37)), (2, 2, (.t 38))]⟩,
    ⟨(some 40), none, .call (.c (.func (.func 20) [] [])) [(.t 39)]⟩,
    ⟨(some 10), none, .mv (.t 40)⟩])
  (.seq (.ops [⟨(some 42), none, .build [(.int .i64 (0)), (.slice none 0 0)] []⟩,
    ⟨(some 43), none, .call (.c (.func (.func 10) [] [])) [(.t 42)]⟩,
    ⟨(some 41), none, .mv (.t 43)⟩,
    ⟨(some 44), none, .extract 0 (.t 41)⟩,
    ⟨(some 45), none, .extract 1 (.t 41)⟩,
    ⟨(some 11), none, .mv (.t 44)⟩,
    ⟨(some 12), none, .mv (.t 45)⟩])
  (.seq (.draw [⟨⟨(some 46), none, .mv (.t 4)⟩, 0, []⟩,
    ⟨⟨(some 47), none, .lenStr (.t 46)⟩, 1, [0]⟩,
    ⟨⟨(some 48), none, .bin .eql (.t 47) (.c (.int .i64 (79)))⟩, 2, [0, 1]⟩,
    ⟨⟨(some 49), none, .mv (.t 48)⟩, 3, [0, 1, 2]⟩,
    ⟨⟨(some 50), (some (49, true)), .mv (.t 11)⟩, 4, [0, 1, 2, 3]⟩,
    ⟨⟨(some 51), (some (49, true)), .lenStr (.t 50)⟩, 5, [0, 1, 2, 3, 4]⟩,
    ⟨⟨(some 52), (some (49, true)), .bin .eql (.t 51) (.c (.int .i64 (41)))⟩, 6, [0, 1, 2, 3, 4, 5]⟩,
    ⟨⟨(some 53), none, .pick (.t 49) (.t 52) (.c (.bool false))⟩, 7, [0, 1, 2, 3, 4, 5, 6]⟩,
    ⟨⟨(some 54), none, .mv (.t 53)⟩, 8, [0, 1, 2, 3, 4, 5, 6, 7]⟩,
    ⟨⟨(some 55), (some (54, true)), .mv (.t 5)⟩, 9, [0, 1, 2, 3, 4, 5, 6, 7, 8]⟩,
    ⟨⟨(some 56), (some (54, true)), .bin .eql (.t 55) (.c (.int .i64 (0)))⟩, 10, [0, 1, 2, 3, 4, 5, 6, 7, 8, 9]⟩,
    ⟨⟨(some 57), none, .pick (.t 54) (.t 56) (.c (.bool false))⟩, 11, [0, 1, 2, 3, 4, 5, 6, 7, 8, 9, 10]⟩,
    ⟨⟨(some 58), none, .mv (.t 57)⟩, 12, [0, 1, 2, 3, 4, 5, 6, 7, 8, 9, 10, 11]⟩,
    ⟨⟨(some 59), (some (58, true)), .fieldAddr 0 (.t 6)⟩, 13, [0, 1, 2, 3, 4, 5, 6, 7, 8, 9, 10, 11, 12]⟩,
    ⟨⟨(some 60), (some (58, true)), .load none (.t 59)⟩, 14, [0, 1, 2, 3, 4, 5, 6, 7, 8, 9, 10, 11, 12, 13]⟩,
    ⟨⟨(some 61), (some (58, true)), .bin .eql (.t 60) (.c (.int .i64 (3)))⟩, 15, [0, 1, 2, 3, 4, 5, 6, 7, 8, 9, 10, 11, 12, 13, 14]⟩,
    ⟨⟨(some 62), none, .pick (.t 58) (.t 61) (.c (.bool false))⟩, 16, [0, 1, 2, 3, 4, 5, 6, 7, 8, 9, 10, 11, 12, 13, 14, 15]⟩,
    ⟨⟨(some 63), none, .mv (.t 62)⟩, 17, [0, 1, 2, 3, 4, 5, 6, 7, 8, 9, 10, 11, 12, 13, 14, 15, 16]⟩,
    ⟨⟨(some 64), (some (63, true)), .fieldAddr 1 (.t 6)⟩, 18, [0, 1, 2, 3, 4, 5, 6, 7, 8, 9, 10, 11, 12, 13, 14, 15, 16, 17]⟩,
    ⟨⟨(some 65), (some (63, true)), .load none (.t 64)⟩, 19, [0, 1, 2, 3, 4, 5, 6, 7, 8, 9, 10, 11, 12, 13, 14, 15, 16, 17, 18]⟩,
    ⟨⟨(some 67), (some (63, true)), .fieldAddr 1 (.t 2)⟩, 21, [0, 1, 2, 3, 4, 5, 6, 7, 8, 9, 10, 11, 12, 13, 14, 15, 16, 17]⟩,
    ⟨⟨(some 68), (some (63, true)), .load none (.t 67)⟩, 22, [0, 1, 2, 3, 4, 5, 6, 7, 8, 9, 10, 11, 12, 13, 14, 15, 16, 17, 20]⟩,
    ⟨⟨(some 66), (some (63, true)), .call (.c (.func (.func 19) [] [])) [(.t 65)]⟩, 20, [0, 1, 2, 3, 4, 5, 6, 7, 8, 9, 10, 11, 12, 13, 14, 15, 16, 17, 18, 19]⟩,
    ⟨⟨(some 69), (some (63, true)), .call (.c (.func (.func 19) [] [])) [(.t 68)]⟩, 23, [0, 1, 2, 3, 4, 5, 6, 7, 8, 9, 10, 11, 12, 13, 14, 15, 16, 17, 18, 19, 20, 21, 22]⟩,
    ⟨⟨(some 70), (some (63, true)), .call (.c (.func (.func 18) [] [])) [(.t 66), (.t 69)]⟩, 24, [0, 1, 2, 3, 4, 5, 6, 7, 8, 9, 10, 11, 12, 13, 14, 15, 16, 17, 18, 19, 20, 21, 22, 23]⟩,
    ⟨⟨(some 71), none, .pick (.t 63) (.t 70) (.c (.bool false))⟩, 25, [0, 1, 2, 3, 4, 5, 6, 7, 8, 9, 10, 11, 12, 13, 14, 15, 16, 17, 18, 19, 20, 21, 22, 23, 24]⟩,
    ⟨⟨(some 72), none, .mv (.t 71)⟩, 26, [0, 1, 2, 3, 4, 5, 6, 7, 8, 9, 10, 11, 12, 13, 14, 15, 16, 17, 18, 19, 20, 21, 22, 23, 24, 25]⟩,
    ⟨⟨(some 73), (some (72, true)), .mv (.t 7)⟩, 27, [0, 1, 2, 3, 4, 5, 6, 7, 8, 9, 10, 11, 12, 13, 14, 15, 16, 17, 18, 19, 20, 21, 22, 23, 24, 25, 26]⟩,
    ⟨⟨(some 74), (some (72, true)), .bin .eql (.t 73) (.c (.int .i64 (0)))⟩, 28, [0, 1, 2, 3, 4, 5, 6, 7, 8, 9, 10, 11, 12, 13, 14, 15, 16, 17, 18, 19, 20, 21, 22, 23, 24, 25, 26, 27]⟩,
    ⟨⟨(some 75), none, .pick (.t 72) (.t 74) (.c (.bool false))⟩, 29, [0, 1, 2, 3, 4, 5, 6, 7, 8, 9, 10, 11, 12, 13, 14, 15, 16, 17, 18, 19, 20, 21, 22, 23, 24, 25, 26, 27, 28]⟩,
    ⟨⟨(some 76), none, .mv (.t 75)⟩, 30, [0, 1, 2, 3, 4, 5, 6, 7, 8, 9, 10, 11, 12, 13, 14, 15, 16, 17, 18, 19, 20, 21, 22, 23, 24, 25, 26, 27, 28, 29]⟩,
    ⟨⟨(some 77), (some (76, true)), .mv (.t 9)⟩, 31, [0, 1, 2, 3, 4, 5, 6, 7, 8, 9, 10, 11, 12, 13, 14, 15, 16, 17, 18, 19, 20, 21, 22, 23, 24, 25, 26, 27, 28, 29, 30]⟩,
    ⟨⟨(some 78), (some (76, true)), .bin .eql (.t 77) (.c (.int .i64 (2)))⟩, 32, [0, 1, 2, 3, 4, 5, 6, 7, 8, 9, 10, 11, 12, 13, 14, 15, 16, 17, 18, 19, 20, 21, 22, 23, 24, 25, 26, 27, 28, 29, 30, 31]⟩,
    ⟨⟨(some 79), none, .pick (.t 76) (.t 78) (.c (.bool false))⟩, 33, [0, 1, 2, 3, 4, 5, 6, 7, 8, 9, 10, 11, 12, 13, 14, 15, 16, 17, 18, 19, 20, 21, 22, 23, 24, 25, 26, 27, 28, 29, 30, 31, 32]⟩,
    ⟨⟨(some 80), none, .mv (.t 79)⟩, 34, [0, 1, 2, 3, 4, 5, 6, 7, 8, 9, 10, 11, 12, 13, 14, 15, 16, 17, 18, 19, 20, 21, 22, 23, 24, 25, 26, 27, 28, 29, 30, 31, 32, 33]⟩,
    ⟨⟨(some 81), (some (80, true)), .mv (.t 10)⟩, 35, [0, 1, 2, 3, 4, 5, 6, 7, 8, 9, 10, 11, 12, 13, 14, 15, 16, 17, 18, 19, 20, 21, 22, 23, 24, 25, 26, 27, 28, 29, 30, 31, 32, 33, 34]⟩,
    ⟨⟨(some 83), (some (80, true)), .mv (.t 1)⟩, 37, [0, 1, 2, 3, 4, 5, 6, 7, 8, 9, 10, 11, 12, 13, 14, 15, 16, 17, 18, 19, 20, 21, 22, 23, 24, 25, 26, 27, 28, 29, 30, 31, 32, 33, 34]⟩,
    ⟨⟨(some 84), (some (80, true)), .build [(.str []), (.str []), (.int .i64 (0)), (.int .i64 (0))] [(0, 1, (.c (.str [108]))), (1, 1, (.t 83)), (2, 1, (.c (.int .i64 (7)))), (3, 1, (.c (.int .i64 (1))))]⟩, 38, [0, 1, 2, 3, 4, 5, 6, 7, 8, 9, 10, 11, 12, 13, 14, 15, 16, 17, 18, 19, 20, 21, 22, 23, 24, 25, 26, 27, 28, 29, 30, 31, 32, 33, 34, 36]⟩,
    ⟨⟨(some 85), (some (80, true)), .mv (.t 1)⟩, 39, [0, 1, 2, 3, 4, 5, 6, 7, 8, 9, 10, 11, 12, 13, 14, 15, 16, 17, 18, 19, 20, 21, 22, 23, 24, 25, 26, 27, 28, 29, 30, 31, 32, 33, 34]⟩,
    ⟨⟨(some 86), (some (80, true)), .build [(.str []), (.str []), (.int .i64 (0)), (.int .i64 (0))] [(0, 1, (.c (.str [107]))), (1, 1, (.t 85)), (2, 1, (.c (.int .i64 (5)))), (3, 1, (.c (.int .i64 (9))))]⟩, 40, [0, 1, 2, 3, 4, 5, 6, 7, 8, 9, 10, 11, 12, 13, 14, 15, 16, 17, 18, 19, 20, 21, 22, 23, 24, 25, 26, 27, 28, 29, 30, 31, 32, 33, 34, 38]⟩,
    ⟨⟨(some 87), (some (80, true)), .buildSl none [(.str []), (.str []), (.int .i64 (0)), (.int .i64 (0)), (.str []), (.str []), (.int .i64 (0)), (.int .i64 (0))] 2 [(0, 4, (.t 84)), (4, 4, (.t 86))]⟩, 41, [0, 1, 2, 3, 4, 5, 6, 7, 8, 9, 10, 11, 12, 13, 14, 15, 16, 17, 18, 19, 20, 21, 22, 23, 24, 25, 26, 27, 28, 29, 30, 31, 32, 33, 34, 36, 37, 38, 39]⟩,
    ⟨⟨(some 82), (some (80, true)), .call (.c (.func (.func 19) [] [])) [(.t 81)]⟩, 36, [0, 1, 2, 3, 4, 5, 6, 7, 8, 9, 10, 11, 12, 13, 14, 15, 16, 17, 18, 19, 20, 21, 22, 23, 24, 25, 26, 27, 28, 29, 30, 31, 32, 33, 34, 35]⟩,
    ⟨⟨(some 88), (some (80, true)), .call (.c (.func (.func 18) [] [])) [(.t 82), (.t 87)]⟩, 42, [0, 1, 2, 3, 4, 5, 6, 7, 8, 9, 10, 11, 12, 13, 14, 15, 16, 17, 18, 19, 20, 21, 22, 23, 24, 25, 26, 27, 28, 29, 30, 31, 32, 33, 34, 35, 36, 37, 38, 39, 40, 41]⟩,
    ⟨⟨(some 89), none, .pick (.t 80) (.t 88) (.c (.bool false))⟩, 43, [0, 1, 2, 3, 4, 5, 6, 7, 8, 9, 10, 11, 12, 13, 14, 15, 16, 17, 18, 19, 20, 21, 22, 23, 24, 25, 26, 27, 28, 29, 30, 31, 32, 33, 34, 35, 36, 37, 38, 39, 40, 41, 42]⟩,
    ⟨⟨(some 90), none, .mv (.t 89)⟩, 44, [0, 1, 2, 3, 4, 5, 6, 7, 8, 9, 10, 11, 12, 13, 14, 15, 16, 17, 18, 19, 20, 21, 22, 23, 24, 25, 26, 27, 28, 29, 30, 31, 32, 33, 34, 35, 36, 37, 38, 39, 40, 41, 42, 43]⟩,
    ⟨⟨(some 91), (some (90, true)), .build [(.int .i64 (0)), (.slice none 0 0)] [(0, 1, (.c (.int .i64 (-1))))]⟩, 45, [0, 1, 2, 3, 4, 5, 6, 7, 8, 9, 10, 11, 12, 13, 14, 15, 16, 17, 18, 19, 20, 21, 22, 23, 24, 25, 26, 27, 28, 29, 30, 31, 32, 33, 34, 35, 36, 37, 38, 39, 40, 41, 42, 43, 44]⟩,
    ⟨⟨(some 92), (some (90, true)), .call (.c (.func (.func 13) [] [])) [(.t 91)]⟩, 46, [0, 1, 2, 3, 4, 5, 6, 7, 8, 9, 10, 11, 12, 13, 14, 15, 16, 17, 18, 19, 20, 21, 22, 23, 24, 25, 26, 27, 28, 29, 30, 31, 32, 33, 34, 35, 36, 37, 38, 39, 40, 41, 42, 43, 44, 45]⟩,
    ⟨⟨(some 93), (some (90, true)), .bin .eql (.t 92) (.c (.int .i64 (1)))⟩, 47, [0, 1, 2, 3, 4, 5, 6, 7, 8, 9, 10, 11, 12, 13, 14, 15, 16, 17, 18, 19, 20, 21, 22, 23, 24, 25, 26, 27, 28, 29, 30, 31, 32, 33, 34, 35, 36, 37, 38, 39, 40, 41, 42, 43, 44, 45, 46]⟩,
    ⟨⟨(some 94), none, .pick (.t 90) (.t 93) (.c (.bool false))⟩, 48, [0, 1, 2, 3, 4, 5, 6, 7, 8, 9, 10, 11, 12, 13, 14, 15, 16, 17, 18, 19, 20, 21, 22, 23, 24, 25, 26, 27, 28, 29, 30, 31, 32, 33, 34, 35, 36, 37, 38, 39, 40, 41, 42, 43, 44, 45, 46, 47]⟩,
    ⟨⟨(some 0), none, .mv (.t 94)⟩, 49, [0, 1, 2, 3, 4, 5, 6, 7, 8, 9, 10, 11, 12, 13, 14, 15, 16, 17, 18, 19, 20, 21, 22, 23, 24, 25, 26, 27, 28, 29, 30, 31, 32, 33, 34, 35, 36, 37, 38, 39, 40, 41, 42, 43, 44, 45, 46, 47, 48]⟩])
  (.ret))))))))))⟩
theorem a9_ok : funcC Tryd.prog Tryd.f9 = some a9 := by kernel_rfl
/-- permafrost/clog.Encode -/
def a10 : AFunc := ⟨1, [.tmp 2, .tmp 3],
  .seq (.ops [⟨(some 1), none, .box (.t 0)⟩,
    ⟨(some 2), none, .mv (.c (.str []))⟩,
    ⟨(some 3), none, .mv (.c (.int .i64 (0)))⟩])
  (.seq (.seq (.ops [⟨(some 8), none, .load (some 2) (.t 1)⟩,
    ⟨(some 9), none, .call (.c (.func (.func 13) [] [])) [(.t 8)]⟩,
    ⟨(some 4), none, .mv (.t 9)⟩])
  (.seq (.ops [⟨(some 10), none, .mv (.t 4)⟩,
    ⟨(some 11), none, .bin .neq (.t 10) (.c (.int .i64 (0)))⟩])
  (.cond (.t 11)
   (.seq (.ops [⟨(some 12), none, .mv (.t 4)⟩,
     ⟨(some 2), none, .mv (.c (.str []))⟩,
     ⟨(some 3), none, .mv (.t 12)⟩])
   (.ret))
   (.skip))))
  (.seq (.ops [⟨(some 5), none, .alloc (some 57) [(.ptr none), (.slice none 0 0)]⟩])
  (.seq (.draw [⟨⟨(some 13), none, .fieldAddr 0 (.t 1)⟩, 0, []⟩,
    ⟨⟨(some 14), none, .load none (.t 13)⟩, 1, [0]⟩,
    ⟨⟨(some 17), none, .fieldAddr 1 (.t 1)⟩, 4, []⟩,
    ⟨⟨(some 18), none, .load none (.t 17)⟩, 5, [2]⟩,
    ⟨⟨(some 19), none, .lenSl (.t 18)⟩, 6, [2, 3]⟩,
    ⟨⟨(some 15), none, .call (.c (.func (.func 23) [] [])) [(.t 14), (.c (.int .i64 (6)))]⟩, 2, [0, 1]⟩,
    ⟨⟨(some 16), none, .bin .add (.c (.str [80, 76])) (.t 15)⟩, 3, [0, 1, 5]⟩,
    ⟨⟨(some 20), none, .call (.c (.func (.func 23) [] [])) [(.t 19), (.c (.int .i64 (1)))]⟩, 7, [0, 1, 2, 3, 4, 5]⟩,
    ⟨⟨(some 21), none, .bin .add (.t 16) (.t 20)⟩, 8, [0, 1, 2, 3, 4, 5, 6, 7]⟩,
    ⟨⟨(some 22), none, .call (.c (.func (.func 22) [] [])) [(.t 5), (.t 21)]⟩, 9, [0, 1, 2, 3, 4, 5, 6, 7, 8]⟩])
  (.seq (.seq (.ops [⟨(some 23), none, .fieldAddr 1 (.t 1)⟩,
    ⟨(some 24), none, .load none (.t 23)⟩,
    ⟨(some 25), none, .lenSl (.t 24)⟩,
    ⟨(some 26), none, .mv (.c (.int .i64 (0)))⟩])
  (.block 0 (.loop (.seq (.ops [⟨(some 27), none, .bin .lss (.t 26) (.t 25)⟩])
    (.seq (.cond (.t 27)
     (.skip)
     (.exit 0))
    (.seq (.block 1 (.seq (.ops [⟨(some 28), none, .idxSl 4 (.t 24) (.t 26)⟩,
       ⟨(some 29), none, .load (some 4) (.t 28)⟩,
       ⟨(some 7), none, .alloc none [(.str []), (.str []), (.int .i64 (0)), (.int .i64 (0))]⟩,
       ⟨none, none, .store 4 (.t 7) (.t 29)⟩])
     (.draw [⟨⟨(some 30), none, .fieldAddr 0 (.t 7)⟩, 0, []⟩,
       ⟨⟨(some 31), none, .load none (.t 30)⟩, 1, [0]⟩,
       ⟨⟨(some 33), none, .fieldAddr 1 (.t 7)⟩, 3, []⟩,
       ⟨⟨(some 34), none, .load none (.t 33)⟩, 4, [2]⟩,
       ⟨⟨(some 36), none, .fieldAddr 2 (.t 7)⟩, 6, []⟩,
       ⟨⟨(some 37), none, .load none (.t 36)⟩, 7, [4]⟩,
       ⟨⟨(some 40), none, .fieldAddr 3 (.t 7)⟩, 10, []⟩,
       ⟨⟨(some 41), none, .load none (.t 40)⟩, 11, [6]⟩,
       ⟨⟨(some 32), none, .call (.c (.func (.func 24) [] [])) [(.t 31), (.c (.int .i64 (1)))]⟩, 2, [0, 1]⟩,
       ⟨⟨(some 35), none, .bin .add (.t 32) (.t 34)⟩, 5, [0, 1, 2, 3, 8]⟩,
       ⟨⟨(some 38), none, .call (.c (.func (.func 23) [] [])) [(.t 37), (.c (.int .i64 (2)))]⟩, 8, [0, 1, 4, 5, 8]⟩,
       ⟨⟨(some 39), none, .bin .add (.t 35) (.t 38)⟩, 9, [0, 1, 2, 3, 4, 5, 8, 9, 10]⟩,
       ⟨⟨(some 42), none, .call (.c (.func (.func 23) [] [])) [(.t 41), (.c (.int .i64 (2)))]⟩, 12, [0, 1, 4, 5, 6, 7, 8, 10]⟩,
       ⟨⟨(some 43), none, .bin .add (.t 39) (.t 42)⟩, 13, [0, 1, 2, 3, 4, 5, 6, 7, 8, 9, 10, 11, 12]⟩,
       ⟨⟨(some 44), none, .call (.c (.func (.func 22) [] [])) [(.t 5), (.t 43)]⟩, 14, [0, 1, 2, 3, 4, 5, 6, 7, 8, 9, 10, 11, 12, 13]⟩])))
    (.ops [⟨(some 45), none, .bin .add (.t 26) (.c (.int .i64 (1)))⟩,
      ⟨(some 26), none, .mv (.t 45)⟩])))))))
  (.seq (.ops [⟨(some 46), none, .call (.c (.func (.func 25) [] [])) [(.t 5)]⟩,
    ⟨(some 47), none, .call (.c (.func (.func 25) [] [])) [(.t 5)]⟩,
    ⟨(some 48), none, .call (.c (.func (.func 26) [] [])) [(.t 47)]⟩,
    ⟨(some 49), none, .bin .add (.t 46) (.t 48)⟩,
    ⟨(some 2), none, .mv (.t 49)⟩,
    ⟨(some 3), none, .mv (.c (.int .i64 (0)))⟩])
  (.ret))))))⟩
theorem a10_ok : funcC Tryd.prog Tryd.f10 = some a10 := by kernel_rfl
/-- permafrost/permafrostlaw13.own -/
def a11 : AFunc := ⟨1, [.cell 2 (some 2)],
  .seq (.ops [⟨(some 1), none, .box (.t 0)⟩,
    ⟨(some 2), none, .alloc none [(.int .i64 (0)), (.slice none 0 0)]⟩])
  (.seq (.ops [⟨(some 5), none, .fieldAddr 0 (.t 1)⟩,
    ⟨(some 6), none, .load none (.t 5)⟩,
    ⟨(some 7), none, .build [(.int .i64 (0)), (.slice none 0 0)] [(0, 1, (.t 6))]⟩,
    ⟨(some 3), none, .alloc none [(.int .i64 (0)), (.slice none 0 0)]⟩,
    ⟨none, none, .store 2 (.t 3) (.t 7)⟩])
  (.seq (.seq (.ops [⟨(some 4), none, .mv (.c (.int .i64 (0)))⟩])
  (.block 0 (.loop (.seq (.seq (.ops [⟨(some 8), none, .mv (.t 4)⟩,
      ⟨(some 9), none, .fieldAddr 1 (.t 1)⟩,
      ⟨(some 10), none, .load none (.t 9)⟩,
      ⟨(some 11), none, .lenSl (.t 10)⟩,
      ⟨(some 12), none, .bin .lss (.t 8) (.t 11)⟩])
    (.cond (.t 12)
     (.skip)
     (.exit 0)))
    (.seq (.block 1 (.draw [⟨⟨(some 15), none, .fieldAddr 1 (.t 3)⟩, 0, []⟩,
       ⟨⟨(some 16), none, .load none (.t 15)⟩, 1, [0]⟩,
       ⟨⟨(some 17), none, .fieldAddr 1 (.t 1)⟩, 2, []⟩,
       ⟨⟨(some 18), none, .load none (.t 17)⟩, 3, [2]⟩,
       ⟨⟨(some 19), none, .mv (.t 4)⟩, 4, []⟩,
       ⟨⟨(some 20), none, .idxSl 4 (.t 18) (.t 19)⟩, 5, [2, 3, 4]⟩,
       ⟨⟨(some 21), none, .fieldAddr 0 (.t 20)⟩, 6, [2, 3, 4, 5]⟩,
       ⟨⟨(some 22), none, .load none (.t 21)⟩, 7, [2, 3, 4, 5, 6]⟩,
       ⟨⟨(some 23), none, .fieldAddr 1 (.t 1)⟩, 8, []⟩,
       ⟨⟨(some 24), none, .load none (.t 23)⟩, 9, [8]⟩,
       ⟨⟨(some 25), none, .mv (.t 4)⟩, 10, []⟩,
       ⟨⟨(some 26), none, .idxSl 4 (.t 24) (.t 25)⟩, 11, [8, 9, 10]⟩,
       ⟨⟨(some 27), none, .fieldAddr 1 (.t 26)⟩, 12, [8, 9, 10, 11]⟩,
       ⟨⟨(some 28), none, .load none (.t 27)⟩, 13, [8, 9, 10, 11, 12]⟩,
       ⟨⟨(some 29), none, .fieldAddr 1 (.t 1)⟩, 14, []⟩,
       ⟨⟨(some 30), none, .load none (.t 29)⟩, 15, [14]⟩,
       ⟨⟨(some 31), none, .mv (.t 4)⟩, 16, []⟩,
       ⟨⟨(some 32), none, .idxSl 4 (.t 30) (.t 31)⟩, 17, [14, 15, 16]⟩,
       ⟨⟨(some 33), none, .fieldAddr 2 (.t 32)⟩, 18, [14, 15, 16, 17]⟩,
       ⟨⟨(some 34), none, .load none (.t 33)⟩, 19, [14, 15, 16, 17, 18]⟩,
       ⟨⟨(some 35), none, .fieldAddr 1 (.t 1)⟩, 20, []⟩,
       ⟨⟨(some 36), none, .load none (.t 35)⟩, 21, [20]⟩,
       ⟨⟨(some 37), none, .mv (.t 4)⟩, 22, []⟩,
       ⟨⟨(some 38), none, .idxSl 4 (.t 36) (.t 37)⟩, 23, [20, 21, 22]⟩,
       ⟨⟨(some 39), none, .fieldAddr 3 (.t 38)⟩, 24, [20, 21, 22, 23]⟩,
       ⟨⟨(some 40), none, .load none (.t 39)⟩, 25, [20, 21, 22, 23, 24]⟩,
       ⟨⟨(some 41), none, .build [(.str []), (.str []), (.int .i64 (0)), (.int .i64 (0))] [(0, 1, (.t 22)), (1, 1, (.t 28)), (2, 1, (.t 34)), (3, 1, (.t 40))]⟩, 26, [2, 3, 4, 5, 6, 7, 8, 9, 10, 11, 12, 13, 14, 15, 16, 17, 18, 19, 20, 21, 22, 23, 24, 25]⟩,
       ⟨⟨(some 42), none, .buildSl none [(.str []), (.str []), (.int .i64 (0)), (.int .i64 (0))] 1 [(0, 4, (.t 41))]⟩, 27, [2, 3, 4, 5, 6, 7, 8, 9, 10, 11, 12, 13, 14, 15, 16, 17, 18, 19, 20, 21, 22, 23, 24, 25, 26]⟩,
       ⟨⟨(some 43), none, .append 4 48 none (.t 16) (.t 42)⟩, 28, [0, 1, 2, 3, 4, 5, 6, 7, 8, 9, 10, 11, 12, 13, 14, 15, 16, 17, 18, 19, 20, 21, 22, 23, 24, 25, 26, 27]⟩,
       ⟨⟨(some 44), none, .fieldAddr 1 (.t 3)⟩, 29, [0, 1, 2, 3, 4, 5, 6, 7, 8, 9, 10, 11, 12, 13, 14, 15, 16, 17, 18, 19, 20, 21, 22, 23, 24, 25, 26, 27, 28]⟩,
       ⟨⟨none, none, .store 1 (.t 44) (.t 43)⟩, 30, [0, 1, 2, 3, 4, 5, 6, 7, 8, 9, 10, 11, 12, 13, 14, 15, 16, 17, 18, 19, 20, 21, 22, 23, 24, 25, 26, 27, 28, 29]⟩]))
    (.ops [⟨(some 13), none, .mv (.t 4)⟩,
      ⟨(some 14), none, .bin .add (.t 13) (.c (.int .i64 (1)))⟩,
      ⟨(some 4), none, .mv (.t 14)⟩]))))))
  (.seq (.ops [⟨(some 45), none, .load (some 2) (.t 3)⟩,
    ⟨none, none, .store 2 (.t 2) (.t 45)⟩])
  (.ret))))⟩
theorem a11_ok : funcC Tryd.prog Tryd.f11 = some a11 := by kernel_rfl
/-- permafrost/permafrostref13.Encode -/
def a12 : AFunc := ⟨1, [.tmp 2, .tmp 3],
  .seq (.ops [⟨(some 1), none, .box (.t 0)⟩,
    ⟨(some 2), none, .mv (.c (.str []))⟩,
    ⟨(some 3), none, .mv (.c (.int .i64 (0)))⟩])
  (.seq (.ops [⟨(some 7), none, .load (some 2) (.t 1)⟩,
    ⟨(some 8), none, .call (.c (.func (.func 14) [] [])) [(.t 7)]⟩,
    ⟨(some 4), none, .mv (.t 8)⟩])
  (.seq (.seq (.ops [⟨(some 9), none, .mv (.t 4)⟩,
    ⟨(some 10), none, .bin .neq (.t 9) (.c (.int .i64 (0)))⟩])
  (.cond (.t 10)
   (.seq (.ops [⟨(some 11), none, .mv (.t 4)⟩,
     ⟨(some 2), none, .mv (.c (.str []))⟩,
     ⟨(some 3), none, .mv (.t 11)⟩])
   (.ret))
   (.skip)))
  (.seq (.draw [⟨⟨(some 12), none, .fieldAddr 0 (.t 1)⟩, 0, []⟩,
    ⟨⟨(some 13), none, .load none (.t 12)⟩, 1, [0]⟩,
    ⟨⟨(some 16), none, .fieldAddr 1 (.t 1)⟩, 4, []⟩,
    ⟨⟨(some 17), none, .load none (.t 16)⟩, 5, [2]⟩,
    ⟨⟨(some 18), none, .lenSl (.t 17)⟩, 6, [2, 3]⟩,
    ⟨⟨(some 14), none, .call (.c (.func (.func 27) [] [])) [(.t 13), (.c (.int .i64 (6)))]⟩, 2, [0, 1]⟩,
    ⟨⟨(some 15), none, .bin .add (.c (.str [80, 76])) (.t 14)⟩, 3, [0, 1, 5]⟩,
    ⟨⟨(some 19), none, .call (.c (.func (.func 27) [] [])) [(.t 18), (.c (.int .i64 (1)))]⟩, 7, [0, 1, 2, 3, 4, 5]⟩,
    ⟨⟨(some 20), none, .bin .add (.t 15) (.t 19)⟩, 8, [0, 1, 2, 3, 4, 5, 6, 7]⟩,
    ⟨⟨(some 5), none, .mv (.t 20)⟩, 9, [0, 1, 2, 3, 4, 5, 6, 7, 8]⟩])
  (.seq (.seq (.ops [⟨(some 6), none, .mv (.c (.int .i64 (0)))⟩])
  (.block 0 (.loop (.seq (.seq (.ops [⟨(some 21), none, .mv (.t 6)⟩,
      ⟨(some 22), none, .fieldAddr 1 (.t 1)⟩,
      ⟨(some 23), none, .load none (.t 22)⟩,
      ⟨(some 24), none, .lenSl (.t 23)⟩,
      ⟨(some 25), none, .bin .lss (.t 21) (.t 24)⟩])
    (.cond (.t 25)
     (.skip)
     (.exit 0)))
    (.seq (.block 1 (.draw [⟨⟨(some 28), none, .mv (.t 5)⟩, 0, []⟩,
       ⟨⟨(some 29), none, .fieldAddr 1 (.t 1)⟩, 1, []⟩,
       ⟨⟨(some 30), none, .load none (.t 29)⟩, 2, [1]⟩,
       ⟨⟨(some 31), none, .mv (.t 6)⟩, 3, []⟩,
       ⟨⟨(some 32), none, .idxSl 4 (.t 30) (.t 31)⟩, 4, [1, 2, 3]⟩,
       ⟨⟨(some 33), none, .fieldAddr 0 (.t 32)⟩, 5, [1, 2, 3, 4]⟩,
       ⟨⟨(some 34), none, .load none (.t 33)⟩, 6, [1, 2, 3, 4, 5]⟩,
       ⟨⟨(some 37), none, .fieldAddr 1 (.t 1)⟩, 9, []⟩,
       ⟨⟨(some 38), none, .load none (.t 37)⟩, 10, [7]⟩,
       ⟨⟨(some 39), none, .mv (.t 6)⟩, 11, []⟩,
       ⟨⟨(some 40), none, .idxSl 4 (.t 38) (.t 39)⟩, 12, [7, 8, 9]⟩,
       ⟨⟨(some 41), none, .fieldAddr 1 (.t 40)⟩, 13, [7, 8, 9, 10]⟩,
       ⟨⟨(some 42), none, .load none (.t 41)⟩, 14, [7, 8, 9, 10, 11]⟩,
       ⟨⟨(some 44), none, .fieldAddr 1 (.t 1)⟩, 16, []⟩,
       ⟨⟨(some 45), none, .load none (.t 44)⟩, 17, [13]⟩,
       ⟨⟨(some 46), none, .mv (.t 6)⟩, 18, []⟩,
       ⟨⟨(some 47), none, .idxSl 4 (.t 45) (.t 46)⟩, 19, [13, 14, 15]⟩,
       ⟨⟨(some 48), none, .fieldAddr 2 (.t 47)⟩, 20, [13, 14, 15, 16]⟩,
       ⟨⟨(some 49), none, .load none (.t 48)⟩, 21, [13, 14, 15, 16, 17]⟩,
       ⟨⟨(some 52), none, .fieldAddr 1 (.t 1)⟩, 24, []⟩,
       ⟨⟨(some 53), none, .load none (.t 52)⟩, 25, [19]⟩,
       ⟨⟨(some 54), none, .mv (.t 6)⟩, 26, []⟩,
       ⟨⟨(some 55), none, .idxSl 4 (.t 53) (.t 54)⟩, 27, [19, 20, 21]⟩,
       ⟨⟨(some 56), none, .fieldAddr 3 (.t 55)⟩, 28, [19, 20, 21, 22]⟩,
       ⟨⟨(some 57), none, .load none (.t 56)⟩, 29, [19, 20, 21, 22, 23]⟩,
       ⟨⟨(some 35), none, .call (.c (.func (.func 28) [] [])) [(.t 34), (.c (.int .i64 (1)))]⟩, 7, [1, 2, 3, 4, 5, 6]⟩,
       ⟨⟨(some 36), none, .bin .add (.t 28) (.t 35)⟩, 8, [0, 1, 2, 3, 4, 5, 6, 25]⟩,
       ⟨⟨(some 43), none, .bin .add (.t 36) (.t 42)⟩, 15, [0, 1, 2, 3, 4, 5, 6, 7, 8, 9, 10, 11, 12, 25, 26]⟩,
       ⟨⟨(some 50), none, .call (.c (.func (.func 27) [] [])) [(.t 49), (.c (.int .i64 (2)))]⟩, 22, [1, 2, 3, 4, 5, 6, 13, 14, 15, 16, 17, 18, 25]⟩,
       ⟨⟨(some 51), none, .bin .add (.t 43) (.t 50)⟩, 23, [0, 1, 2, 3, 4, 5, 6, 7, 8, 9, 10, 11, 12, 13, 14, 15, 16, 17, 18, 25, 26, 27, 28]⟩,
       ⟨⟨(some 58), none, .call (.c (.func (.func 27) [] [])) [(.t 57), (.c (.int .i64 (2)))]⟩, 30, [1, 2, 3, 4, 5, 6, 13, 14, 15, 16, 17, 18, 19, 20, 21, 22, 23, 24, 25, 28]⟩,
       ⟨⟨(some 59), none, .bin .add (.t 51) (.t 58)⟩, 31, [0, 1, 2, 3, 4, 5, 6, 7, 8, 9, 10, 11, 12, 13, 14, 15, 16, 17, 18, 19, 20, 21, 22, 23, 24, 25, 26, 27, 28, 29, 30]⟩,
       ⟨⟨(some 5), none, .mv (.t 59)⟩, 32, [0, 1, 2, 3, 4, 5, 6, 7, 8, 9, 10, 11, 12, 13, 14, 15, 16, 17, 18, 19, 20, 21, 22, 23, 24, 25, 26, 27, 28, 29, 30, 31]⟩]))
    (.ops [⟨(some 26), none, .mv (.t 6)⟩,
      ⟨(some 27), none, .bin .add (.t 26) (.c (.int .i64 (1)))⟩,
      ⟨(some 6), none, .mv (.t 27)⟩]))))))
  (.seq (.ops [⟨(some 60), none, .mv (.t 5)⟩,
    ⟨(some 61), none, .mv (.t 5)⟩,
    ⟨(some 62), none, .call (.c (.func (.func 15) [] [])) [(.t 61)]⟩,
    ⟨(some 63), none, .bin .add (.t 60) (.t 62)⟩,
    ⟨(some 2), none, .mv (.t 63)⟩,
    ⟨(some 3), none, .mv (.c (.int .i64 (0)))⟩])
  (.ret))))))⟩
theorem a12_ok : funcC Tryd.prog Tryd.f12 = some a12 := by kernel_rfl
/-- permafrost/clog.Check -/
def a13 : AFunc := ⟨1, [.tmp 2],
  .seq (.ops [⟨(some 1), none, .box (.t 0)⟩,
    ⟨(some 2), none, .mv (.c (.int .i64 (0)))⟩])
  (.seq (.ops [⟨(some 3), none, .mv (.c (.func (.func 29) [] []))⟩])
  (.seq (.seq (.ops [⟨(some 4), none, .fieldAddr 0 (.t 1)⟩,
    ⟨(some 5), none, .load none (.t 4)⟩,
    ⟨(some 6), none, .call (.c (.func (.func 30) [] [])) [(.t 5), (.c (.int .i64 (1099511627776)))]⟩,
    ⟨(some 7), none, .not (.t 6)⟩,
    ⟨(some 8), none, .mv (.t 7)⟩,
    ⟨(some 9), (some (8, false)), .fieldAddr 1 (.t 1)⟩,
    ⟨(some 10), (some (8, false)), .load none (.t 9)⟩,
    ⟨(some 11), (some (8, false)), .lenSl (.t 10)⟩,
    ⟨(some 12), (some (8, false)), .bin .gtr (.t 11) (.c (.int .i64 (7)))⟩,
    ⟨(some 13), none, .pick (.t 8) (.c (.bool true)) (.t 12)⟩,
    ⟨(some 14), none, .mv (.t 13)⟩,
    ⟨(some 15), (some (14, false)), .fieldAddr 1 (.t 1)⟩,
    ⟨(some 16), (some (14, false)), .load none (.t 15)⟩,
    ⟨(some 17), (some (14, false)), .mv (.t 3)⟩,
    ⟨(some 18), (some (14, false)), .call (.c (.func (.func 31) [] [])) [(.t 16), (.t 17)]⟩,
    ⟨(some 19), none, .pick (.t 14) (.c (.bool true)) (.t 18)⟩])
  (.cond (.t 19)
   (.seq (.ops [⟨(some 2), none, .mv (.c (.int .i64 (1)))⟩])
   (.ret))
   (.skip)))
  (.seq (.ops [⟨(some 2), none, .mv (.c (.int .i64 (0)))⟩])
  (.ret))))⟩
theorem a13_ok : funcC Tryd.prog Tryd.f13 = some a13 := by kernel_rfl
/-- permafrost/permafrostref13.Check -/
def a14 : AFunc := ⟨1, [.tmp 2],
  .seq (.ops [⟨(some 1), none, .box (.t 0)⟩,
    ⟨(some 2), none, .mv (.c (.int .i64 (0)))⟩])
  (.seq (.seq (.ops [⟨(some 5), none, .fieldAddr 0 (.t 1)⟩,
    ⟨(some 6), none, .load none (.t 5)⟩,
    ⟨(some 7), none, .bin .lss (.t 6) (.c (.int .i64 (0)))⟩,
    ⟨(some 8), none, .mv (.t 7)⟩,
    ⟨(some 9), (some (8, false)), .fieldAddr 0 (.t 1)⟩,
    ⟨(some 10), (some (8, false)), .load none (.t 9)⟩,
    ⟨(some 11), (some (8, false)), .bin .gtr (.t 10) (.c (.int .i64 (1099511627776)))⟩,
    ⟨(some 12), none, .pick (.t 8) (.c (.bool true)) (.t 11)⟩,
    ⟨(some 13), none, .mv (.t 12)⟩,
    ⟨(some 14), (some (13, false)), .fieldAddr 1 (.t 1)⟩,
    ⟨(some 15), (some (13, false)), .load none (.t 14)⟩,
    ⟨(some 16), (some (13, false)), .lenSl (.t 15)⟩,
    ⟨(some 17), (some (13, false)), .bin .gtr (.t 16) (.c (.int .i64 (7)))⟩,
    ⟨(some 18), none, .pick (.t 13) (.c (.bool true)) (.t 17)⟩])
  (.cond (.t 18)
   (.seq (.ops [⟨(some 2), none, .mv (.c (.int .i64 (1)))⟩])
   (.ret))
   (.skip)))
  (.seq (.seq (.ops [⟨(some 3), none, .mv (.c (.int .i64 (0)))⟩])
  (.block 0 (.loop (.seq (.seq (.ops [⟨(some 19), none, .mv (.t 3)⟩,
      ⟨(some 20), none, .fieldAddr 1 (.t 1)⟩,
      ⟨(some 21), none, .load none (.t 20)⟩,
      ⟨(some 22), none, .lenSl (.t 21)⟩,
      ⟨(some 23), none, .bin .lss (.t 19) (.t 22)⟩])
    (.cond (.t 23)
     (.skip)
     (.exit 0)))
    (.seq (.block 1 (.seq (.ops [⟨(some 26), none, .fieldAddr 1 (.t 1)⟩,
       ⟨(some 27), none, .load none (.t 26)⟩,
       ⟨(some 28), none, .mv (.t 3)⟩,
       ⟨(some 29), none, .idxSl 4 (.t 27) (.t 28)⟩,
       ⟨(some 30), none, .load (some 4) (.t 29)⟩,
       ⟨(some 4), none, .alloc none [(.str []), (.str []), (.int .i64 (0)), (.int .i64 (0))]⟩,
       ⟨none, none, .store 4 (.t 4) (.t 30)⟩])
     (.seq (.ops [⟨(some 31), none, .fieldAddr 0 (.t 4)⟩,
       ⟨(some 32), none, .load none (.t 31)⟩,
       ⟨(some 33), none, .lenStr (.t 32)⟩,
       ⟨(some 34), none, .bin .lss (.t 33) (.c (.int .i64 (1)))⟩,
       ⟨(some 35), none, .mv (.t 34)⟩,
       ⟨(some 36), (some (35, false)), .fieldAddr 0 (.t 4)⟩,
       ⟨(some 37), (some (35, false)), .load none (.t 36)⟩,
       ⟨(some 38), (some (35, false)), .lenStr (.t 37)⟩,
       ⟨(some 39), (some (35, false)), .bin .gtr (.t 38) (.c (.int .i64 (60)))⟩,
       ⟨(some 40), none, .pick (.t 35) (.c (.bool true)) (.t 39)⟩,
       ⟨(some 41), none, .mv (.t 40)⟩,
       ⟨(some 42), (some (41, false)), .fieldAddr 1 (.t 4)⟩,
       ⟨(some 43), (some (41, false)), .load none (.t 42)⟩,
       ⟨(some 44), (some (41, false)), .lenStr (.t 43)⟩,
       ⟨(some 45), (some (41, false)), .bin .neq (.t 44) (.c (.int .i64 (32)))⟩,
       ⟨(some 46), none, .pick (.t 41) (.c (.bool true)) (.t 45)⟩,
       ⟨(some 47), none, .mv (.t 46)⟩,
       ⟨(some 48), (some (47, false)), .fieldAddr 2 (.t 4)⟩,
       ⟨(some 49), (some (47, false)), .load none (.t 48)⟩,
       ⟨(some 50), (some (47, false)), .bin .lss (.t 49) (.c (.int .i64 (0)))⟩,
       ⟨(some 51), none, .pick (.t 47) (.c (.bool true)) (.t 50)⟩,
       ⟨(some 52), none, .mv (.t 51)⟩,
       ⟨(some 53), (some (52, false)), .fieldAddr 2 (.t 4)⟩,
       ⟨(some 54), (some (52, false)), .load none (.t 53)⟩,
       ⟨(some 55), (some (52, false)), .bin .gtr (.t 54) (.c (.int .i64 (960)))⟩,
       ⟨(some 56), none, .pick (.t 52) (.c (.bool true)) (.t 55)⟩,
       ⟨(some 57), none, .mv (.t 56)⟩,
       ⟨(some 58), (some (57, false)), .fieldAddr 3 (.t 4)⟩,
       ⟨(some 59), (some (57, false)), .load none (.t 58)⟩,
       ⟨(some 60), (some (57, false)), .bin .lss (.t 59) (.c (.int .i64 (0)))⟩,
       ⟨(some 61), none, .pick (.t 57) (.c (.bool true)) (.t 60)⟩,
       ⟨(some 62), none, .mv (.t 61)⟩,
       ⟨(some 63), (some (62, false)), .fieldAddr 3 (.t 4)⟩,
       ⟨(some 64), (some (62, false)), .load none (.t 63)⟩,
       ⟨(some 65), (some (62, false)), .bin .gtr (.t 64) (.c (.int .i64 (511)))⟩,
       ⟨(some 66), none, .pick (.t 62) (.c (.bool true)) (.t 65)⟩])
     (.cond (.t 66)
      (.seq (.ops [⟨(some 2), none, .mv (.c (.int .i64 (1)))⟩])
      (.ret))
      (.skip)))))
    (.ops [⟨(some 24), none, .mv (.t 3)⟩,
      ⟨(some 25), none, .bin .add (.t 24) (.c (.int .i64 (1)))⟩,
      ⟨(some 3), none, .mv (.t 25)⟩]))))))
  (.seq (.ops [⟨(some 2), none, .mv (.c (.int .i64 (0)))⟩])
  (.ret))))⟩
theorem a14_ok : funcC Tryd.prog Tryd.f14 = some a14 := by kernel_rfl
/-- permafrost/permafrostref02.Of -/
def a15 : AFunc := ⟨1, [.tmp 2],
  .seq (.ops [⟨(some 2), none, .mv (.c (.str []))⟩])
  (.seq (.ops [⟨(some 10), none, .call (.c (.func (.func 32) [] [])) [(.c (.int .i64 (64)))]⟩,
    ⟨(some 3), none, .mv (.t 10)⟩])
  (.seq (.ops [⟨(some 4), none, .mv (.c (.slice none 0 0))⟩])
  (.seq (.ops [⟨(some 5), none, .mv (.c (.slice none 0 0))⟩])
  (.seq (.seq (.ops [⟨(some 6), none, .mv (.c (.int .i64 (0)))⟩])
  (.block 0 (.loop (.seq (.seq (.ops [⟨(some 11), none, .mv (.t 6)⟩,
      ⟨(some 12), none, .bin .lss (.t 11) (.c (.int .i64 (64)))⟩])
    (.cond (.t 12)
     (.skip)
     (.exit 0)))
    (.seq (.block 1 (.seq (.ops [⟨(some 15), none, .mv (.t 4)⟩,
       ⟨(some 16), none, .mv (.t 3)⟩,
       ⟨(some 17), none, .mv (.t 6)⟩,
       ⟨(some 18), none, .idxSl 1 (.t 16) (.t 17)⟩,
       ⟨(some 19), none, .load none (.t 18)⟩,
       ⟨(some 20), none, .call (.c (.func (.func 33) [] [])) [(.t 19), (.c (.int .i64 (3)))]⟩,
       ⟨(some 21), none, .buildSl none [(.int .i64 (0))] 1 [(0, 1, (.t 20))]⟩,
       ⟨(some 22), none, .append 1 8 none (.t 15) (.t 21)⟩,
       ⟨(some 4), none, .mv (.t 22)⟩])
     (.seq (.ops [⟨(some 23), none, .mv (.t 6)⟩,
       ⟨(some 24), none, .bin .lss (.t 23) (.c (.int .i64 (8)))⟩])
     (.cond (.t 24)
      (.ops [⟨(some 25), none, .mv (.t 5)⟩,
        ⟨(some 26), none, .mv (.t 3)⟩,
        ⟨(some 27), none, .mv (.t 6)⟩,
        ⟨(some 28), none, .idxSl 1 (.t 26) (.t 27)⟩,
        ⟨(some 29), none, .load none (.t 28)⟩,
        ⟨(some 30), none, .call (.c (.func (.func 33) [] [])) [(.t 29), (.c (.int .i64 (2)))]⟩,
        ⟨(some 31), none, .buildSl none [(.int .i64 (0))] 1 [(0, 1, (.t 30))]⟩,
        ⟨(some 32), none, .append 1 8 none (.t 25) (.t 31)⟩,
        ⟨(some 5), none, .mv (.t 32)⟩])
      (.skip)))))
    (.ops [⟨(some 13), none, .mv (.t 6)⟩,
      ⟨(some 14), none, .bin .add (.t 13) (.c (.int .i64 (1)))⟩,
      ⟨(some 6), none, .mv (.t 14)⟩]))))))
  (.seq (.ops [⟨(some 33), none, .mv (.t 0)⟩,
    ⟨(some 34), none, .call (.c (.func (.func 34) [] [])) [(.t 33)]⟩,
    ⟨(some 0), none, .mv (.t 34)⟩])
  (.seq (.seq (.ops [⟨(some 7), none, .mv (.c (.int .i64 (0)))⟩])
  (.block 2 (.loop (.seq (.seq (.ops [⟨(some 35), none, .mv (.t 7)⟩,
      ⟨(some 36), none, .mv (.t 0)⟩,
      ⟨(some 37), none, .lenStr (.t 36)⟩,
      ⟨(some 38), none, .bin .lss (.t 35) (.t 37)⟩])
    (.cond (.t 38)
     (.skip)
     (.exit 2)))
    (.seq (.block 3 (.ops [⟨(some 41), none, .mv (.t 5)⟩,
       ⟨(some 42), none, .mv (.t 0)⟩,
       ⟨(some 43), none, .mv (.t 7)⟩,
       ⟨(some 44), none, .mv (.t 7)⟩,
       ⟨(some 45), none, .bin .add (.t 44) (.c (.int .i64 (64)))⟩,
       ⟨(some 46), none, .sliceStr (.t 42) (some (.t 43)) (some (.t 45))⟩,
       ⟨(some 47), none, .mv (.t 4)⟩,
       ⟨(some 48), none, .call (.c (.func (.func 35) [] [])) [(.t 41), (.t 46), (.t 47)]⟩,
       ⟨(some 5), none, .mv (.t 48)⟩]))
    (.ops [⟨(some 39), none, .mv (.t 7)⟩,
      ⟨(some 40), none, .bin .add (.t 39) (.c (.int .i64 (64)))⟩,
      ⟨(some 7), none, .mv (.t 40)⟩]))))))
  (.seq (.ops [⟨(some 8), none, .mv (.c (.slice none 0 0))⟩])
  (.seq (.seq (.ops [⟨(some 9), none, .mv (.c (.int .i64 (0)))⟩])
  (.block 4 (.loop (.seq (.seq (.ops [⟨(some 49), none, .mv (.t 9)⟩,
      ⟨(some 50), none, .bin .lss (.t 49) (.c (.int .i64 (8)))⟩])
    (.cond (.t 50)
     (.skip)
     (.exit 4)))
    (.seq (.block 5 (.draw [⟨⟨(some 53), none, .mv (.t 8)⟩, 0, []⟩,
       ⟨⟨(some 54), none, .mv (.t 5)⟩, 1, []⟩,
       ⟨⟨(some 55), none, .mv (.t 9)⟩, 2, []⟩,
       ⟨⟨(some 56), none, .idxSl 1 (.t 54) (.t 55)⟩, 3, [1, 2]⟩,
       ⟨⟨(some 57), none, .load none (.t 56)⟩, 4, [1, 2, 3]⟩,
       ⟨⟨(some 58), none, .bin .shr (.t 57) (.c (.int .u64 (24)))⟩, 5, [1, 2, 3, 4]⟩,
       ⟨⟨(some 59), none, .toInt .u8 (.t 58)⟩, 6, [1, 2, 3, 4, 5]⟩,
       ⟨⟨(some 60), none, .mv (.t 5)⟩, 7, []⟩,
       ⟨⟨(some 61), none, .mv (.t 9)⟩, 8, []⟩,
       ⟨⟨(some 62), none, .idxSl 1 (.t 60) (.t 61)⟩, 9, [7, 8]⟩,
       ⟨⟨(some 63), none, .load none (.t 62)⟩, 10, [7, 8, 9]⟩,
       ⟨⟨(some 64), none, .bin .shr (.t 63) (.c (.int .u64 (16)))⟩, 11, [7, 8, 9, 10]⟩,
       ⟨⟨(some 65), none, .toInt .u8 (.t 64)⟩, 12, [7, 8, 9, 10, 11]⟩,
       ⟨⟨(some 66), none, .mv (.t 5)⟩, 13, []⟩,
       ⟨⟨(some 67), none, .mv (.t 9)⟩, 14, []⟩,
       ⟨⟨(some 68), none, .idxSl 1 (.t 66) (.t 67)⟩, 15, [13, 14]⟩,
       ⟨⟨(some 69), none, .load none (.t 68)⟩, 16, [13, 14, 15]⟩,
       ⟨⟨(some 70), none, .bin .shr (.t 69) (.c (.int .u64 (8)))⟩, 17, [13, 14, 15, 16]⟩,
       ⟨⟨(some 71), none, .toInt .u8 (.t 70)⟩, 18, [13, 14, 15, 16, 17]⟩,
       ⟨⟨(some 72), none, .mv (.t 5)⟩, 19, []⟩,
       ⟨⟨(some 73), none, .mv (.t 9)⟩, 20, []⟩,
       ⟨⟨(some 74), none, .idxSl 1 (.t 72) (.t 73)⟩, 21, [19, 20]⟩,
       ⟨⟨(some 75), none, .load none (.t 74)⟩, 22, [19, 20, 21]⟩,
       ⟨⟨(some 76), none, .toInt .u8 (.t 75)⟩, 23, [19, 20, 21, 22]⟩,
       ⟨⟨(some 77), none, .buildSl (some 5) [(.int .u8 (0)), (.int .u8 (0)), (.int .u8 (0)), (.int .u8 (0))] 4 [(0, 1, (.t 59)), (1, 1, (.t 65)), (2, 1, (.t 71)), (3, 1, (.t 76))]⟩, 24, [1, 2, 3, 4, 5, 6, 7, 8, 9, 10, 11, 12, 13, 14, 15, 16, 17, 18, 19, 20, 21, 22, 23]⟩,
       ⟨⟨(some 78), none, .append 1 1 (some 5) (.t 53) (.t 77)⟩, 25, [0, 1, 2, 3, 4, 5, 6, 7, 8, 9, 10, 11, 12, 13, 14, 15, 16, 17, 18, 19, 20, 21, 22, 23, 24]⟩,
       ⟨⟨(some 8), none, .mv (.t 78)⟩, 26, [0, 1, 2, 3, 4, 5, 6, 7, 8, 9, 10, 11, 12, 13, 14, 15, 16, 17, 18, 19, 20, 21, 22, 23, 24, 25]⟩]))
    (.ops [⟨(some 51), none, .mv (.t 9)⟩,
      ⟨(some 52), none, .bin .add (.t 51) (.c (.int .i64 (1)))⟩,
      ⟨(some 9), none, .mv (.t 52)⟩]))))))
  (.seq (.ops [⟨(some 79), none, .mv (.t 8)⟩,
    ⟨(some 80), none, .toStr (.t 79)⟩,
    ⟨(some 2), none, .mv (.t 80)⟩])
  (.ret))))))))))⟩
theorem a15_ok : funcC Tryd.prog Tryd.f15 = some a15 := by kernel_rfl
/-- permafrost/clog.Decode -/
def a16 : AFunc := ⟨1, [.cell 2 (some 2), .tmp 3],
  .seq (.ops [⟨(some 2), none, .alloc none [(.int .i64 (0)), (.slice none 0 0)]⟩,
    ⟨(some 3), none, .mv (.c (.int .i64 (0)))⟩])
  (.seq (.seq (.ops [⟨(some 9), none, .mv (.t 0)⟩,
    ⟨(some 10), none, .lenStr (.t 9)⟩,
    ⟨(some 11), none, .bin .lss (.t 10) (.c (.int .i64 (41)))⟩])
  (.cond (.t 11)
   (.seq (.ops [⟨(some 12), none, .build [(.int .i64 (0)), (.slice none 0 0)] []⟩,
     ⟨none, none, .store 2 (.t 2) (.t 12)⟩,
     ⟨(some 3), none, .mv (.c (.int .i64 (2)))⟩])
   (.ret))
   (.skip)))
  (.seq (.draw [⟨⟨(some 13), none, .mv (.t 0)⟩, 0, []⟩,
    ⟨⟨(some 14), none, .mv (.t 0)⟩, 1, []⟩,
    ⟨⟨(some 15), none, .lenStr (.t 14)⟩, 2, [1]⟩,
    ⟨⟨(some 16), none, .bin .sub (.t 15) (.c (.int .i64 (32)))⟩, 3, [1, 2]⟩,
    ⟨⟨(some 17), none, .sliceStr (.t 13) none (some (.t 16))⟩, 4, [0, 1, 2, 3]⟩,
    ⟨⟨(some 18), none, .mv (.t 0)⟩, 5, []⟩,
    ⟨⟨(some 19), none, .mv (.t 0)⟩, 6, []⟩,
    ⟨⟨(some 20), none, .lenStr (.t 19)⟩, 7, [6]⟩,
    ⟨⟨(some 21), none, .bin .sub (.t 20) (.c (.int .i64 (32)))⟩, 8, [6, 7]⟩,
    ⟨⟨(some 22), none, .sliceStr (.t 18) (some (.t 21)) none⟩, 9, [5, 6, 7, 8]⟩,
    ⟨⟨(some 4), none, .mv (.t 17)⟩, 10, [0, 1, 2, 3, 4]⟩,
    ⟨⟨(some 5), none, .mv (.t 22)⟩, 11, [0, 1, 2, 3, 4, 5, 6, 7, 8, 9, 10]⟩])
  (.seq (.seq (.ops [⟨(some 23), none, .mv (.t 4)⟩,
    ⟨(some 24), none, .call (.c (.func (.func 26) [] [])) [(.t 23)]⟩,
    ⟨(some 25), none, .mv (.t 5)⟩,
    ⟨(some 26), none, .bin .neq (.t 24) (.t 25)⟩])
  (.cond (.t 26)
   (.seq (.ops [⟨(some 27), none, .build [(.int .i64 (0)), (.slice none 0 0)] []⟩,
     ⟨none, none, .store 2 (.t 2) (.t 27)⟩,
     ⟨(some 3), none, .mv (.c (.int .i64 (4)))⟩])
   (.ret))
   (.skip)))
  (.seq (.ops [⟨(some 28), none, .mv (.t 4)⟩,
    ⟨(some 29), none, .call (.c (.func (.func 36) [] [])) [(.t 28)]⟩,
    ⟨(some 6), none, .mv (.t 29)⟩])
  (.seq (.ops [⟨(some 30), none, .mv (.t 6)⟩,
    ⟨(some 31), none, .call (.c (.func (.func 37) [] [])) [(.t 30), (.c (.int .i64 (2)))]⟩,
    ⟨(some 32), none, .bin .eql (.t 31) (.c (.str [80, 76]))⟩,
    ⟨(some 7), none, .mv (.t 32)⟩])
  (.seq (.ops [⟨(some 33), none, .mv (.t 6)⟩,
    ⟨(some 34), none, .call (.c (.func (.func 38) [] [])) [(.t 33), (.c (.int .i64 (6)))]⟩,
    ⟨(some 35), none, .build [(.int .i64 (0)), (.slice none 0 0)] [(0, 1, (.t 34))]⟩,
    ⟨(some 8), none, .alloc none [(.int .i64 (0)), (.slice none 0 0)]⟩,
    ⟨none, none, .store 2 (.t 8) (.t 35)⟩])
  (.seq (.seq (.ops [⟨(some 36), none, .mv (.t 6)⟩,
    ⟨(some 37), none, .call (.c (.func (.func 38) [] [])) [(.t 36), (.c (.int .i64 (1)))]⟩,
    ⟨(some 38), none, .mv (.c (.int .i64 (0)))⟩])
  (.block 0 (.loop (.seq (.ops [⟨(some 39), none, .bin .lss (.t 38) (.t 37)⟩])
    (.seq (.cond (.t 39)
     (.skip)
     (.exit 0))
    (.seq (.block 1 (.draw [⟨⟨(some 40), none, .fieldAddr 1 (.t 8)⟩, 0, []⟩,
       ⟨⟨(some 41), none, .load none (.t 40)⟩, 1, [0]⟩,
       ⟨⟨(some 42), none, .mv (.t 6)⟩, 2, []⟩,
       ⟨⟨(some 44), none, .mv (.t 6)⟩, 4, []⟩,
       ⟨⟨(some 46), none, .mv (.t 6)⟩, 6, []⟩,
       ⟨⟨(some 48), none, .mv (.t 6)⟩, 8, []⟩,
       ⟨⟨(some 43), none, .call (.c (.func (.func 39) [] [])) [(.t 42), (.c (.int .i64 (1)))]⟩, 3, [2]⟩,
       ⟨⟨(some 45), none, .call (.c (.func (.func 37) [] [])) [(.t 44), (.c (.int .i64 (32)))]⟩, 5, [2, 3, 6]⟩,
       ⟨⟨(some 47), none, .call (.c (.func (.func 38) [] [])) [(.t 46), (.c (.int .i64 (2)))]⟩, 7, [2, 3, 4, 6, 7]⟩,
       ⟨⟨(some 49), none, .call (.c (.func (.func 38) [] [])) [(.t 48), (.c (.int .i64 (2)))]⟩, 9, [2, 3, 4, 5, 6, 7, 8]⟩,
       ⟨⟨(some 50), none, .build [(.str []), (.str []), (.int .i64 (0)), (.int .i64 (0))] [(0, 1, (.t 43)), (1, 1, (.t 45)), (2, 1, (.t 47)), (3, 1, (.t 49))]⟩, 10, [2, 3, 4, 5, 6, 7, 8, 9]⟩,
       ⟨⟨(some 51), none, .buildSl none [(.str []), (.str []), (.int .i64 (0)), (.int .i64 (0))] 1 [(0, 4, (.t 50))]⟩, 11, [2, 3, 4, 5, 6, 7, 8, 9, 10]⟩,
       ⟨⟨(some 52), none, .append 4 48 none (.t 41) (.t 51)⟩, 12, [0, 1, 2, 3, 4, 5, 6, 7, 8, 9, 10, 11]⟩,
       ⟨⟨(some 53), none, .fieldAddr 1 (.t 8)⟩, 13, [0, 1, 2, 3, 4, 5, 6, 7, 8, 9, 10, 11, 12]⟩,
       ⟨⟨none, none, .store 1 (.t 53) (.t 52)⟩, 14, [0, 1, 2, 3, 4, 5, 6, 7, 8, 9, 10, 11, 12, 13]⟩]))
    (.ops [⟨(some 54), none, .bin .add (.t 38) (.c (.int .i64 (1)))⟩,
      ⟨(some 38), none, .mv (.t 54)⟩])))))))
  (.seq (.seq (.ops [⟨(some 55), none, .mv (.t 7)⟩,
    ⟨(some 56), none, .not (.t 55)⟩,
    ⟨(some 57), none, .mv (.t 56)⟩,
    ⟨(some 58), (some (57, false)), .mv (.t 6)⟩,
    ⟨(some 59), (some (57, false)), .call (.c (.func (.func 40) [] [])) [(.t 58)]⟩,
    ⟨(some 60), (some (57, false)), .bin .neq (.t 59) (.c (.int .i64 (0)))⟩,
    ⟨(some 61), none, .pick (.t 57) (.c (.bool true)) (.t 60)⟩,
    ⟨(some 62), none, .mv (.t 61)⟩,
    ⟨(some 63), (some (62, false)), .load (some 2) (.t 8)⟩,
    ⟨(some 64), (some (62, false)), .call (.c (.func (.func 13) [] [])) [(.t 63)]⟩,
    ⟨(some 65), (some (62, false)), .bin .neq (.t 64) (.c (.int .i64 (0)))⟩,
    ⟨(some 66), none, .pick (.t 62) (.c (.bool true)) (.t 65)⟩])
  (.cond (.t 66)
   (.seq (.ops [⟨(some 67), none, .build [(.int .i64 (0)), (.slice none 0 0)] []⟩,
     ⟨none, none, .store 2 (.t 2) (.t 67)⟩,
     ⟨(some 3), none, .mv (.c (.int .i64 (3)))⟩])
   (.ret))
   (.skip)))
  (.seq (.ops [⟨(some 68), none, .load (some 2) (.t 8)⟩,
    ⟨none, none, .store 2 (.t 2) (.t 68)⟩,
    ⟨(some 3), none, .mv (.c (.int .i64 (0)))⟩])
  (.ret))))))))))⟩
theorem a16_ok : funcC Tryd.prog Tryd.f16 = some a16 := by kernel_rfl
/-- permafrost/permafrostref13.Decode -/
def a17 : AFunc := ⟨1, [.cell 2 (some 2), .tmp 3],
  .seq (.ops [⟨(some 2), none, .alloc none [(.int .i64 (0)), (.slice none 0 0)]⟩,
    ⟨(some 3), none, .mv (.c (.int .i64 (0)))⟩])
  (.seq (.seq (.ops [⟨(some 12), none, .mv (.t 0)⟩,
    ⟨(some 13), none, .lenStr (.t 12)⟩,
    ⟨(some 14), none, .bin .lss (.t 13) (.c (.int .i64 (41)))⟩])
  (.cond (.t 14)
   (.seq (.ops [⟨(some 15), none, .build [(.int .i64 (0)), (.slice none 0 0)] []⟩,
     ⟨none, none, .store 2 (.t 2) (.t 15)⟩,
     ⟨(some 3), none, .mv (.c (.int .i64 (2)))⟩])
   (.ret))
   (.skip)))
  (.seq (.ops [⟨(some 16), none, .mv (.t 0)⟩,
    ⟨(some 17), none, .lenStr (.t 16)⟩,
    ⟨(some 18), none, .bin .sub (.t 17) (.c (.int .i64 (32)))⟩,
    ⟨(some 4), none, .mv (.t 18)⟩])
  (.seq (.seq (.draw [⟨⟨(some 19), none, .mv (.t 0)⟩, 0, []⟩,
    ⟨⟨(some 20), none, .mv (.t 4)⟩, 1, []⟩,
    ⟨⟨(some 21), none, .sliceStr (.t 19) none (some (.t 20))⟩, 2, [0, 1]⟩,
    ⟨⟨(some 23), none, .mv (.t 0)⟩, 4, []⟩,
    ⟨⟨(some 24), none, .mv (.t 4)⟩, 5, []⟩,
    ⟨⟨(some 25), none, .sliceStr (.t 23) (some (.t 24)) none⟩, 6, [3, 4]⟩,
    ⟨⟨(some 22), none, .call (.c (.func (.func 15) [] [])) [(.t 21)]⟩, 3, [0, 1, 2]⟩,
    ⟨⟨(some 26), none, .bin .neq (.t 22) (.t 25)⟩, 7, [0, 1, 2, 3, 4, 5, 6]⟩])
  (.cond (.t 26)
   (.seq (.ops [⟨(some 27), none, .build [(.int .i64 (0)), (.slice none 0 0)] []⟩,
     ⟨none, none, .store 2 (.t 2) (.t 27)⟩,
     ⟨(some 3), none, .mv (.c (.int .i64 (4)))⟩])
   (.ret))
   (.skip)))
  (.seq (.ops [⟨(some 28), none, .mv (.t 0)⟩,
    ⟨(some 29), none, .mv (.t 4)⟩,
    ⟨(some 30), none, .sliceStr (.t 28) (some (.c (.int .i64 (2)))) (some (.t 29))⟩,
    ⟨(some 31), none, .build [(.str []), (.int .i64 (0))] [(0, 1, (.t 30))]⟩,
    ⟨(some 32), none, .box (.t 31)⟩,
    ⟨(some 5), none, .mv (.t 32)⟩])
  (.seq (.ops [⟨(some 33), none, .build [(.int .i64 (0)), (.slice none 0 0)] []⟩,
    ⟨(some 6), none, .alloc none [(.int .i64 (0)), (.slice none 0 0)]⟩,
    ⟨none, none, .store 2 (.t 6) (.t 33)⟩])
  (.seq (.ops [⟨(some 34), none, .mv (.t 5)⟩,
    ⟨(some 35), none, .call (.c (.func (.func 41) [] [])) [(.t 34), (.c (.int .i64 (6)))]⟩,
    ⟨(some 36), none, .fieldAddr 0 (.t 6)⟩,
    ⟨none, none, .store 1 (.t 36) (.t 35)⟩])
  (.seq (.ops [⟨(some 37), none, .mv (.t 5)⟩,
    ⟨(some 38), none, .call (.c (.func (.func 41) [] [])) [(.t 37), (.c (.int .i64 (1)))]⟩,
    ⟨(some 7), none, .mv (.t 38)⟩])
  (.seq (.seq (.ops [⟨(some 8), none, .mv (.c (.int .i64 (0)))⟩])
  (.block 0 (.loop (.seq (.seq (.ops [⟨(some 39), none, .mv (.t 8)⟩,
      ⟨(some 40), none, .mv (.t 7)⟩,
      ⟨(some 41), none, .bin .lss (.t 39) (.t 40)⟩])
    (.cond (.t 41)
     (.skip)
     (.exit 0)))
    (.seq (.block 1 (.seq (.ops [⟨(some 44), none, .build [(.str []), (.str []), (.int .i64 (0)), (.int .i64 (0))] []⟩,
       ⟨(some 9), none, .alloc none [(.str []), (.str []), (.int .i64 (0)), (.int .i64 (0))]⟩,
       ⟨none, none, .store 4 (.t 9) (.t 44)⟩])
     (.seq (.ops [⟨(some 45), none, .mv (.t 5)⟩,
       ⟨(some 46), none, .call (.c (.func (.func 42) [] [])) [(.t 45), (.c (.int .i64 (1)))]⟩,
       ⟨(some 47), none, .fieldAddr 0 (.t 9)⟩,
       ⟨none, none, .store 1 (.t 47) (.t 46)⟩])
     (.seq (.ops [⟨(some 48), none, .mv (.t 5)⟩,
       ⟨(some 49), none, .call (.c (.func (.func 43) [] [])) [(.t 48), (.c (.int .i64 (32)))]⟩,
       ⟨(some 50), none, .fieldAddr 1 (.t 9)⟩,
       ⟨none, none, .store 1 (.t 50) (.t 49)⟩])
     (.seq (.ops [⟨(some 51), none, .mv (.t 5)⟩,
       ⟨(some 52), none, .call (.c (.func (.func 41) [] [])) [(.t 51), (.c (.int .i64 (2)))]⟩,
       ⟨(some 53), none, .fieldAddr 2 (.t 9)⟩,
       ⟨none, none, .store 1 (.t 53) (.t 52)⟩])
     (.seq (.ops [⟨(some 54), none, .mv (.t 5)⟩,
       ⟨(some 55), none, .call (.c (.func (.func 41) [] [])) [(.t 54), (.c (.int .i64 (2)))]⟩,
       ⟨(some 56), none, .fieldAddr 3 (.t 9)⟩,
       ⟨none, none, .store 1 (.t 56) (.t 55)⟩])
     (.ops [⟨(some 57), none, .fieldAddr 1 (.t 6)⟩,
       ⟨(some 58), none, .load none (.t 57)⟩,
       ⟨(some 59), none, .load (some 4) (.t 9)⟩,
       ⟨(some 60), none, .buildSl none [(.str []), (.str []), (.int .i64 (0)), (.int .i64 (0))] 1 [(0, 4, (.t 59))]⟩,
       ⟨(some 61), none, .append 4 48 none (.t 58) (.t 60)⟩,
       ⟨(some 62), none, .fieldAddr 1 (.t 6)⟩,
       ⟨none, none, .store 1 (.t 62) (.t 61)⟩])))))))
    (.ops [⟨(some 42), none, .mv (.t 8)⟩,
      ⟨(some 43), none, .bin .add (.t 42) (.c (.int .i64 (1)))⟩,
      ⟨(some 8), none, .mv (.t 43)⟩]))))))
  (.seq (.ops [⟨(some 64), none, .load (some 2) (.t 6)⟩,
    ⟨(some 65), none, .call (.c (.func (.func 12) [] [])) [(.t 64)]⟩,
    ⟨(some 63), none, .mv (.t 65)⟩,
    ⟨(some 66), none, .extract 0 (.t 63)⟩,
    ⟨(some 67), none, .extract 1 (.t 63)⟩,
    ⟨(some 10), none, .mv (.t 66)⟩,
    ⟨(some 11), none, .mv (.t 67)⟩])
  (.seq (.seq (.ops [⟨(some 68), none, .mv (.t 5)⟩,
    ⟨(some 69), none, .call (.c (.func (.func 44) [] [])) [(.t 68)]⟩,
    ⟨(some 70), none, .bin .neq (.t 69) (.c (.int .i64 (0)))⟩,
    ⟨(some 71), none, .mv (.t 70)⟩,
    ⟨(some 72), (some (71, false)), .mv (.t 11)⟩,
    ⟨(some 73), (some (71, false)), .bin .neq (.t 72) (.c (.int .i64 (0)))⟩,
    ⟨(some 74), none, .pick (.t 71) (.c (.bool true)) (.t 73)⟩,
    ⟨(some 75), none, .mv (.t 74)⟩,
    ⟨(some 76), (some (75, false)), .mv (.t 10)⟩,
    ⟨(some 77), (some (75, false)), .mv (.t 0)⟩,
    ⟨(some 78), (some (75, false)), .bin .neq (.t 76) (.t 77)⟩,
    ⟨(some 79), none, .pick (.t 75) (.c (.bool true)) (.t 78)⟩])
  (.cond (.t 79)
   (.seq (.ops [⟨(some 80), none, .build [(.int .i64 (0)), (.slice none 0 0)] []⟩,
     ⟨none, none, .store 2 (.t 2) (.t 80)⟩,
     ⟨(some 3), none, .mv (.c (.int .i64 (3)))⟩])
   (.ret))
   (.skip)))
  (.seq (.ops [⟨(some 81), none, .load (some 2) (.t 6)⟩,
    ⟨none, none, .store 2 (.t 2) (.t 81)⟩,
    ⟨(some 3), none, .mv (.c (.int .i64 (0)))⟩])
  (.ret))))))))))))⟩
theorem a17_ok : funcC Tryd.prog Tryd.f17 = some a17 := by kernel_rfl
/-- permafrost/permafrostref13.Same -/
def a18 : AFunc := ⟨2, [.tmp 4],
  .seq (.ops [⟨(some 4), none, .mv (.c (.bool false))⟩])
  (.seq (.seq (.ops [⟨(some 6), none, .mv (.t 0)⟩,
    ⟨(some 7), none, .lenSl (.t 6)⟩,
    ⟨(some 8), none, .mv (.t 1)⟩,
    ⟨(some 9), none, .lenSl (.t 8)⟩,
    ⟨(some 10), none, .bin .neq (.t 7) (.t 9)⟩])
  (.cond (.t 10)
   (.seq (.ops [⟨(some 4), none, .mv (.c (.bool false))⟩])
   (.ret))
   (.skip)))
  (.seq (.seq (.ops [⟨(some 5), none, .mv (.c (.int .i64 (0)))⟩])
  (.block 0 (.loop (.seq (.seq (.ops [⟨(some 11), none, .mv (.t 5)⟩,
      ⟨(some 12), none, .mv (.t 0)⟩,
      ⟨(some 13), none, .lenSl (.t 12)⟩,
      ⟨(some 14), none, .bin .lss (.t 11) (.t 13)⟩])
    (.cond (.t 14)
     (.skip)
     (.exit 0)))
    (.seq (.block 1 (.seq (.draw [⟨⟨(some 17), none, .mv (.t 0)⟩, 0, []⟩,
       ⟨⟨(some 18), none, .mv (.t 5)⟩, 1, []⟩,
       ⟨⟨(some 19), none, .idxSl 4 (.t 17) (.t 18)⟩, 2, [0, 1]⟩,
       ⟨⟨(some 20), none, .load (some 4) (.t 19)⟩, 3, [0, 1, 2]⟩,
       ⟨⟨(some 21), none, .mv (.t 1)⟩, 4, []⟩,
       ⟨⟨(some 22), none, .mv (.t 5)⟩, 5, []⟩,
       ⟨⟨(some 23), none, .idxSl 4 (.t 21) (.t 22)⟩, 6, [4, 5]⟩,
       ⟨⟨(some 24), none, .load (some 4) (.t 23)⟩, 7, [4, 5, 6]⟩,
       ⟨⟨(some 25), none, .eq true (.struct [(0, none, (.flat .str)), (1, none, (.flat .str)), (2, none, (.flat .int)), (3, none, (.flat .int))]) (.t 20) (.t 24)⟩, 8, [0, 1, 2, 3, 4, 5, 6, 7]⟩])
     (.cond (.t 25)
      (.seq (.ops [⟨(some 4), none, .mv (.c (.bool false))⟩])
      (.ret))
      (.skip))))
    (.ops [⟨(some 15), none, .mv (.t 5)⟩,
      ⟨(some 16), none, .bin .add (.t 15) (.c (.int .i64 (1)))⟩,
      ⟨(some 5), none, .mv (.t 16)⟩]))))))
  (.seq (.ops [⟨(some 4), none, .mv (.c (.bool true))⟩])
  (.ret))))⟩
theorem a18_ok : funcC Tryd.prog Tryd.f18 = some a18 := by kernel_rfl
/-- permafrost/permafrostlaw13.told -/
def a19 : AFunc := ⟨1, [.tmp 2],
  .seq (.ops [⟨(some 2), none, .mv (.c (.slice none 0 0))⟩])
  (.seq (.ops [⟨(some 3), none, .mv (.c (.slice none 0 0))⟩])
  (.seq (.seq (.ops [⟨(some 4), none, .mv (.c (.int .i64 (0)))⟩])
  (.block 0 (.loop (.seq (.seq (.ops [⟨(some 5), none, .mv (.t 4)⟩,
      ⟨(some 6), none, .mv (.t 0)⟩,
      ⟨(some 7), none, .lenSl (.t 6)⟩,
      ⟨(some 8), none, .bin .lss (.t 5) (.t 7)⟩])
    (.cond (.t 8)
     (.skip)
     (.exit 0)))
    (.seq (.block 1 (.draw [⟨⟨(some 11), none, .mv (.t 3)⟩, 0, []⟩,
       ⟨⟨(some 12), none, .mv (.t 0)⟩, 1, []⟩,
       ⟨⟨(some 13), none, .mv (.t 4)⟩, 2, []⟩,
       ⟨⟨(some 14), none, .idxSl 4 (.t 12) (.t 13)⟩, 3, [1, 2]⟩,
       ⟨⟨(some 15), none, .fieldAddr 0 (.t 14)⟩, 4, [1, 2, 3]⟩,
       ⟨⟨(some 16), none, .load none (.t 15)⟩, 5, [1, 2, 3, 4]⟩,
       ⟨⟨(some 17), none, .mv (.t 0)⟩, 6, []⟩,
       ⟨⟨(some 18), none, .mv (.t 4)⟩, 7, []⟩,
       ⟨⟨(some 19), none, .idxSl 4 (.t 17) (.t 18)⟩, 8, [6, 7]⟩,
       ⟨⟨(some 20), none, .fieldAddr 1 (.t 19)⟩, 9, [6, 7, 8]⟩,
       ⟨⟨(some 21), none, .load none (.t 20)⟩, 10, [6, 7, 8, 9]⟩,
       ⟨⟨(some 22), none, .mv (.t 0)⟩, 11, []⟩,
       ⟨⟨(some 23), none, .mv (.t 4)⟩, 12, []⟩,
       ⟨⟨(some 24), none, .idxSl 4 (.t 22) (.t 23)⟩, 13, [11, 12]⟩,
       ⟨⟨(some 25), none, .fieldAddr 2 (.t 24)⟩, 14, [11, 12, 13]⟩,
       ⟨⟨(some 26), none, .load none (.t 25)⟩, 15, [11, 12, 13, 14]⟩,
       ⟨⟨(some 27), none, .mv (.t 0)⟩, 16, []⟩,
       ⟨⟨(some 28), none, .mv (.t 4)⟩, 17, []⟩,
       ⟨⟨(some 29), none, .idxSl 4 (.t 27) (.t 28)⟩, 18, [16, 17]⟩,
       ⟨⟨(some 30), none, .fieldAddr 3 (.t 29)⟩, 19, [16, 17, 18]⟩,
       ⟨⟨(some 31), none, .load none (.t 30)⟩, 20, [16, 17, 18, 19]⟩,
       ⟨⟨(some 32), none, .build [(.str []), (.str []), (.int .i64 (0)), (.int .i64 (0))] [(0, 1, (.t 16)), (1, 1, (.t 21)), (2, 1, (.t 26)), (3, 1, (.t 31))]⟩, 21, [1, 2, 3, 4, 5, 6, 7, 8, 9, 10, 11, 12, 13, 14, 15, 16, 17, 18, 19, 20]⟩,
       ⟨⟨(some 33), none, .buildSl none [(.str []), (.str []), (.int .i64 (0)), (.int .i64 (0))] 1 [(0, 4, (.t 32))]⟩, 22, [1, 2, 3, 4, 5, 6, 7, 8, 9, 10, 11, 12, 13, 14, 15, 16, 17, 18, 19, 20, 21]⟩,
       ⟨⟨(some 34), none, .append 4 48 none (.t 11) (.t 33)⟩, 23, [0, 1, 2, 3, 4, 5, 6, 7, 8, 9, 10, 11, 12, 13, 14, 15, 16, 17, 18, 19, 20, 21, 22]⟩,
       ⟨⟨(some 3), none, .mv (.t 34)⟩, 24, [0, 1, 2, 3, 4, 5, 6, 7, 8, 9, 10, 11, 12, 13, 14, 15, 16, 17, 18, 19, 20, 21, 22, 23]⟩]))
    (.ops [⟨(some 9), none, .mv (.t 4)⟩,
      ⟨(some 10), none, .bin .add (.t 9) (.c (.int .i64 (1)))⟩,
      ⟨(some 4), none, .mv (.t 10)⟩]))))))
  (.seq (.ops [⟨(some 35), none, .mv (.t 3)⟩,
    ⟨(some 2), none, .mv (.t 35)⟩])
  (.ret))))⟩
theorem a19_ok : funcC Tryd.prog Tryd.f19 = some a19 := by kernel_rfl
/-- permafrost/clog.Merge -/
def a20 : AFunc := ⟨1, [.tmp 2],
  .seq (.ops [⟨(some 2), none, .mv (.c (.slice none 0 0))⟩])
  (.seq (.ops [⟨(some 13), none, .makeMap⟩,
    ⟨(some 3), none, .mv (.t 13)⟩])
  (.seq (.seq (.ops [⟨(some 14), none, .mv (.t 0)⟩,
    ⟨(some 15), none, .lenSl (.t 14)⟩,
    ⟨(some 16), none, .mv (.c (.int .i64 (0)))⟩])
  (.block 0 (.loop (.seq (.ops [⟨(some 17), none, .bin .lss (.t 16) (.t 15)⟩])
    (.seq (.cond (.t 17)
     (.skip)
     (.exit 0))
    (.seq (.block 1 (.seq (.ops [⟨(some 18), none, .idxSl 2 (.t 14) (.t 16)⟩,
       ⟨(some 19), none, .load (some 2) (.t 18)⟩,
       ⟨(some 5), none, .alloc none [(.int .i64 (0)), (.slice none 0 0)]⟩,
       ⟨none, none, .store 2 (.t 5) (.t 19)⟩])
     (.seq (.seq (.ops [⟨(some 20), none, .load (some 2) (.t 5)⟩,
       ⟨(some 21), none, .call (.c (.func (.func 13) [] [])) [(.t 20)]⟩,
       ⟨(some 22), none, .bin .neq (.t 21) (.c (.int .i64 (0)))⟩])
     (.cond (.t 22)
      (.exit 1)
      (.skip)))
     (.seq (.ops [⟨(some 23), none, .fieldAddr 1 (.t 5)⟩,
       ⟨(some 24), none, .load none (.t 23)⟩,
       ⟨(some 25), none, .lenSl (.t 24)⟩,
       ⟨(some 26), none, .mv (.c (.int .i64 (0)))⟩])
     (.block 2 (.loop (.seq (.ops [⟨(some 27), none, .bin .lss (.t 26) (.t 25)⟩])
       (.seq (.cond (.t 27)
        (.skip)
        (.exit 2))
       (.seq (.block 3 (.seq (.ops [⟨(some 28), none, .idxSl 4 (.t 24) (.t 26)⟩,
          ⟨(some 29), none, .load (some 4) (.t 28)⟩,
          ⟨(some 7), none, .alloc none [(.str []), (.str []), (.int .i64 (0)), (.int .i64 (0))]⟩,
          ⟨none, none, .store 4 (.t 7) (.t 29)⟩])
        (.seq (.ops [⟨(some 31), none, .mv (.t 3)⟩,
          ⟨(some 32), none, .fieldAddr 3 (.t 7)⟩,
          ⟨(some 33), none, .load none (.t 32)⟩,
          ⟨(some 34), none, .lookup .int (.agg [(.str []), (.str []), (.int .i64 (0)), (.int .i64 (0)), (.int .i64 (0))]) true (.t 31) (.t 33)⟩,
          ⟨(some 30), none, .mv (.t 34)⟩,
          ⟨(some 35), none, .extract 0 (.t 30)⟩,
          ⟨(some 36), none, .extract 1 (.t 30)⟩,
          ⟨(some 8), none, .alloc none [(.str []), (.str []), (.int .i64 (0)), (.int .i64 (0)), (.int .i64 (0))]⟩,
          ⟨none, none, .store 5 (.t 8) (.t 35)⟩,
          ⟨(some 9), none, .mv (.t 36)⟩])
        (.seq (.ops [⟨(some 37), none, .mv (.t 9)⟩,
          ⟨(some 38), none, .not (.t 37)⟩,
          ⟨(some 39), none, .mv (.t 38)⟩,
          ⟨(some 40), (some (39, false)), .fieldAddr 0 (.t 5)⟩,
          ⟨(some 41), (some (39, false)), .load none (.t 40)⟩,
          ⟨(some 42), (some (39, false)), .fieldAddr 4 (.t 8)⟩,
          ⟨(some 43), (some (39, false)), .load none (.t 42)⟩,
          ⟨(some 44), (some (39, false)), .bin .geq (.t 41) (.t 43)⟩,
          ⟨(some 45), none, .pick (.t 39) (.c (.bool true)) (.t 44)⟩])
        (.cond (.t 45)
         (.ops [⟨(some 46), none, .mv (.t 3)⟩,
           ⟨(some 47), none, .fieldAddr 3 (.t 7)⟩,
           ⟨(some 48), none, .load none (.t 47)⟩,
           ⟨(some 49), none, .load (some 4) (.t 7)⟩,
           ⟨(some 50), none, .fieldAddr 0 (.t 5)⟩,
           ⟨(some 51), none, .load none (.t 50)⟩,
           ⟨(some 52), none, .build [(.str []), (.str []), (.int .i64 (0)), (.int .i64 (0)), (.int .i64 (0))] [(0, 4, (.t 49)), (4, 1, (.t 51))]⟩,
           ⟨none, none, .mapUpd .int (.t 46) (.t 48) (.t 52)⟩])
         (.skip))))))
       (.ops [⟨(some 53), none, .bin .add (.t 26) (.c (.int .i64 (1)))⟩,
         ⟨(some 26), none, .mv (.t 53)⟩]))))))))))
    (.ops [⟨(some 54), none, .bin .add (.t 16) (.c (.int .i64 (1)))⟩,
      ⟨(some 16), none, .mv (.t 54)⟩])))))))
  (.seq (.ops [⟨(some 10), none, .mv (.c (.slice none 0 0))⟩])
  (.seq (.seq (.ops [⟨(some 55), none, .mv (.t 3)⟩,
    ⟨(some 56), none, .call (.c (.func (.func 46) [] [])) [(.t 55)]⟩,
    ⟨(some 57), none, .call (.c (.func (.func 45) [] [])) [(.t 56)]⟩,
    ⟨(some 58), none, .lenSl (.t 57)⟩,
    ⟨(some 59), none, .mv (.c (.int .i64 (0)))⟩])
  (.block 4 (.loop (.seq (.ops [⟨(some 60), none, .bin .lss (.t 59) (.t 58)⟩])
    (.seq (.cond (.t 60)
     (.skip)
     (.exit 4))
    (.seq (.block 5 (.seq (.ops [⟨(some 61), none, .idxSl 1 (.t 57) (.t 59)⟩,
       ⟨(some 62), none, .load none (.t 61)⟩,
       ⟨(some 12), none, .mv (.t 62)⟩])
     (.ops [⟨(some 63), none, .mv (.t 10)⟩,
       ⟨(some 64), none, .mv (.t 3)⟩,
       ⟨(some 65), none, .mv (.t 12)⟩,
       ⟨(some 66), none, .lookup .int (.agg [(.str []), (.str []), (.int .i64 (0)), (.int .i64 (0)), (.int .i64 (0))]) false (.t 64) (.t 65)⟩,
       ⟨(some 67), none, .field 0 (some 4) (.t 66)⟩,
       ⟨(some 68), none, .buildSl none [(.str []), (.str []), (.int .i64 (0)), (.int .i64 (0))] 1 [(0, 4, (.t 67))]⟩,
       ⟨(some 69), none, .append 4 48 none (.t 63) (.t 68)⟩,
       ⟨(some 10), none, .mv (.t 69)⟩])))
    (.ops [⟨(some 70), none, .bin .add (.t 59) (.c (.int .i64 (1)))⟩,
      ⟨(some 59), none, .mv (.t 70)⟩])))))))
  (.seq (.ops [⟨(some 71), none, .mv (.t 10)⟩,
    ⟨(some 2), none, .mv (.t 71)⟩])
  (.ret))))))⟩
theorem a20_ok : funcC Tryd.prog Tryd.f20 = some a20 := by kernel_rfl
/-- permafrost/permafrostref13.Merge -/
def a21 : AFunc := ⟨1, [.tmp 2],
  .seq (.ops [⟨(some 2), none, .mv (.c (.slice none 0 0))⟩])
  (.seq (.ops [⟨(some 3), none, .mv (.c (.slice none 0 0))⟩])
  (.seq (.seq (.ops [⟨(some 4), none, .mv (.c (.int .i64 (0)))⟩])
  (.block 0 (.loop (.seq (.seq (.ops [⟨(some 7), none, .mv (.t 4)⟩,
      ⟨(some 8), none, .bin .lss (.t 7) (.c (.int .i64 (512)))⟩])
    (.cond (.t 8)
     (.skip)
     (.exit 0)))
    (.seq (.block 1 (.seq (.ops [⟨(some 12), none, .mv (.t 0)⟩,
       ⟨(some 13), none, .mv (.t 4)⟩,
       ⟨(some 14), none, .call (.c (.func (.func 47) [] [])) [(.t 12), (.t 13)]⟩,
       ⟨(some 11), none, .mv (.t 14)⟩,
       ⟨(some 15), none, .extract 0 (.t 11)⟩,
       ⟨(some 16), none, .extract 1 (.t 11)⟩,
       ⟨(some 5), none, .alloc none [(.str []), (.str []), (.int .i64 (0)), (.int .i64 (0))]⟩,
       ⟨none, none, .store 4 (.t 5) (.t 15)⟩,
       ⟨(some 6), none, .mv (.t 16)⟩])
     (.seq (.ops [⟨(some 17), none, .mv (.t 6)⟩])
     (.cond (.t 17)
      (.ops [⟨(some 18), none, .mv (.t 3)⟩,
        ⟨(some 19), none, .load (some 4) (.t 5)⟩,
        ⟨(some 20), none, .buildSl none [(.str []), (.str []), (.int .i64 (0)), (.int .i64 (0))] 1 [(0, 4, (.t 19))]⟩,
        ⟨(some 21), none, .append 4 48 none (.t 18) (.t 20)⟩,
        ⟨(some 3), none, .mv (.t 21)⟩])
      (.skip)))))
    (.ops [⟨(some 9), none, .mv (.t 4)⟩,
      ⟨(some 10), none, .bin .add (.t 9) (.c (.int .i64 (1)))⟩,
      ⟨(some 4), none, .mv (.t 10)⟩]))))))
  (.seq (.ops [⟨(some 22), none, .mv (.t 3)⟩,
    ⟨(some 2), none, .mv (.t 22)⟩])
  (.ret))))⟩
theorem a21_ok : funcC Tryd.prog Tryd.f21 = some a21 := by kernel_rfl
/-- (*strings.Builder).WriteString -/
def a22 : AFunc := ⟨2, [.tmp 4, .tmp 5],
  .seq (.ops [⟨(some 4), none, .mv (.c (.int .i64 (0)))⟩,
    ⟨(some 5), none, .mv (.c .nilIface)⟩])
  (.seq (.ops [⟨(some 6), none, .mv (.t 0)⟩,
    ⟨(some 7), none, .call (.c (.func (.func 48) [] [])) [(.t 6)]⟩])
  (.seq (.ops [⟨(some 8), none, .mv (.t 0)⟩,
    ⟨(some 9), none, .mv (.t 0)⟩,
    ⟨(some 10), none, .nilck (.t 9)⟩,
    ⟨(some 11), none, .fieldAddr 1 (.t 10)⟩,
    ⟨(some 12), none, .load none (.t 11)⟩,
    ⟨(some 13), none, .mv (.t 1)⟩,
    ⟨(some 14), none, .appendS (some 5) (.t 12) (.t 13)⟩,
    ⟨(some 15), none, .nilck (.t 8)⟩,
    ⟨(some 16), none, .fieldAddr 1 (.t 15)⟩,
    ⟨none, none, .store 1 (.t 16) (.t 14)⟩])
  (.seq (.ops [⟨(some 17), none, .mv (.t 1)⟩,
    ⟨(some 18), none, .lenStr (.t 17)⟩,
    ⟨(some 4), none, .mv (.t 18)⟩,
    ⟨(some 5), none, .mv (.c .nilIface)⟩])
  (.ret))))⟩
theorem a22_ok : funcC Tryd.prog Tryd.f22 = some a22 := by kernel_rfl
/-- permafrost/fixed.Put -/
def a23 : AFunc := ⟨2, [.tmp 4],
  .seq (.ops [⟨(some 4), none, .mv (.c (.str []))⟩])
  (.seq (.seq (.ops [⟨(some 7), none, .mv (.t 0)⟩,
    ⟨(some 8), none, .bin .lss (.t 7) (.c (.int .i64 (0)))⟩,
    ⟨(some 9), none, .mv (.t 8)⟩,
    ⟨(some 10), (some (9, false)), .mv (.t 0)⟩,
    ⟨(some 11), (some (9, false)), .mv (.t 1)⟩,
    ⟨(some 12), (some (9, false)), .call (.c (.func (.func 49) [] [])) [(.t 11)]⟩,
    ⟨(some 13), (some (9, false)), .bin .gtr (.t 10) (.t 12)⟩,
    ⟨(some 14), none, .pick (.t 9) (.c (.bool true)) (.t 13)⟩])
  (.cond (.t 14)
   (.seq (.ops [⟨(some 4), none, .mv (.c (.str []))⟩])
   (.ret))
   (.skip)))
  (.seq (.ops [⟨(some 15), none, .mv (.t 1)⟩,
    ⟨(some 16), none, .makeSl 1 1 [(.int .u8 (0))] (.t 15) (.t 15)⟩,
    ⟨(some 5), none, .mv (.t 16)⟩])
  (.seq (.seq (.ops [⟨(some 17), none, .mv (.t 1)⟩,
    ⟨(some 18), none, .mv (.c (.int .i64 (0)))⟩])
  (.block 0 (.loop (.seq (.ops [⟨(some 19), none, .bin .lss (.t 18) (.t 17)⟩])
    (.seq (.cond (.t 19)
     (.skip)
     (.exit 0))
    (.seq (.block 1 (.seq (.ops [⟨(some 20), none, .mv (.t 18)⟩,
       ⟨(some 6), none, .mv (.t 20)⟩])
     (.ops [⟨(some 21), none, .mv (.t 5)⟩,
       ⟨(some 22), none, .mv (.t 6)⟩,
       ⟨(some 23), none, .mv (.t 0)⟩,
       ⟨(some 24), none, .mv (.t 6)⟩,
       ⟨(some 25), none, .bin .mul (.c (.int .i64 (8))) (.t 24)⟩,
       ⟨(some 26), none, .bin .shr (.t 23) (.t 25)⟩,
       ⟨(some 27), none, .toInt .u8 (.t 26)⟩,
       ⟨(some 28), none, .idxSl 1 (.t 21) (.t 22)⟩,
       ⟨none, none, .store 1 (.t 28) (.t 27)⟩])))
    (.ops [⟨(some 29), none, .bin .add (.t 18) (.c (.int .i64 (1)))⟩,
      ⟨(some 18), none, .mv (.t 29)⟩])))))))
  (.seq (.ops [⟨(some 30), none, .mv (.t 5)⟩,
    ⟨(some 31), none, .toStr (.t 30)⟩,
    ⟨(some 4), none, .mv (.t 31)⟩])
  (.ret)))))⟩
theorem a23_ok : funcC Tryd.prog Tryd.f23 = some a23 := by kernel_rfl
/-- permafrost/fixed.Text -/
def a24 : AFunc := ⟨2, [.tmp 4],
  .seq (.ops [⟨(some 4), none, .mv (.c (.str []))⟩])
  (.seq (.seq (.ops [⟨(some 5), none, .mv (.t 0)⟩,
    ⟨(some 6), none, .lenStr (.t 5)⟩,
    ⟨(some 7), none, .mv (.t 1)⟩,
    ⟨(some 8), none, .call (.c (.func (.func 49) [] [])) [(.t 7)]⟩,
    ⟨(some 9), none, .bin .gtr (.t 6) (.t 8)⟩])
  (.cond (.t 9)
   (.seq (.ops [⟨(some 4), none, .mv (.c (.str []))⟩])
   (.ret))
   (.skip)))
  (.seq (.ops [⟨(some 10), none, .mv (.t 0)⟩,
    ⟨(some 11), none, .lenStr (.t 10)⟩,
    ⟨(some 12), none, .mv (.t 1)⟩,
    ⟨(some 13), none, .call (.c (.func (.func 23) [] [])) [(.t 11), (.t 12)]⟩,
    ⟨(some 14), none, .mv (.t 0)⟩,
    ⟨(some 15), none, .bin .add (.t 13) (.t 14)⟩,
    ⟨(some 4), none, .mv (.t 15)⟩])
  (.ret)))⟩
theorem a24_ok : funcC Tryd.prog Tryd.f24 = some a24 := by kernel_rfl
/-- (*strings.Builder).String -/
def a25 : AFunc := ⟨1, [.tmp 2],
  .seq (.ops [⟨(some 2), none, .mv (.c (.str []))⟩])
  (.seq (.draw [⟨⟨(some 3), none, .mv (.t 0)⟩, 0, []⟩,
    ⟨⟨(some 4), none, .nilck (.t 3)⟩, 1, [0]⟩,
    ⟨⟨(some 5), none, .fieldAddr 1 (.t 4)⟩, 2, [0, 1]⟩,
    ⟨⟨(some 6), none, .load none (.t 5)⟩, 3, [0, 1, 2]⟩,
    ⟨⟨(some 7), none, .sliceData (.t 6)⟩, 4, [0, 1, 2, 3]⟩,
    ⟨⟨(some 8), none, .mv (.t 0)⟩, 5, []⟩,
    ⟨⟨(some 9), none, .nilck (.t 8)⟩, 6, [5]⟩,
    ⟨⟨(some 10), none, .fieldAddr 1 (.t 9)⟩, 7, [5, 6]⟩,
    ⟨⟨(some 11), none, .load none (.t 10)⟩, 8, [5, 6, 7]⟩,
    ⟨⟨(some 12), none, .lenSl (.t 11)⟩, 9, [5, 6, 7, 8]⟩,
    ⟨⟨(some 13), none, .unsStr 5 (.t 7) (.t 12)⟩, 10, [0, 1, 2, 3, 4, 5, 6, 7, 8, 9]⟩,
    ⟨⟨(some 2), none, .mv (.t 13)⟩, 11, [0, 1, 2, 3, 4, 5, 6, 7, 8, 9, 10]⟩])
  (.ret))⟩
theorem a25_ok : funcC Tryd.prog Tryd.f25 = some a25 := by kernel_rfl
/-- permafrost/sum.Of -/
def a26 : AFunc := ⟨1, [.tmp 2],
  .seq (.ops [⟨(some 2), none, .mv (.c (.str []))⟩])
  (.seq (.ops [⟨(some 4), none, .call (.c (.func (.func 50) [] [])) []⟩,
    ⟨(some 3), none, .mv (.t 4)⟩])
  (.seq (.ops [⟨(some 5), none, .mv (.t 3)⟩,
    ⟨(some 6), none, .mv (.t 0)⟩,
    ⟨(some 7), none, .call (.c (.func (.func 51) [] [])) [(.t 5), (.t 6)]⟩])
  (.seq (.ops [⟨(some 8), none, .mv (.t 3)⟩,
    ⟨(some 9), none, .call (.c (.func (.func 52) [] [])) [(.t 8)]⟩,
    ⟨(some 2), none, .mv (.t 9)⟩])
  (.ret))))⟩
theorem a26_ok : funcC Tryd.prog Tryd.f26 = some a26 := by kernel_rfl
/-- permafrost/permafrostref01.Put -/
def a27 : AFunc := ⟨2, [.tmp 4],
  .seq (.ops [⟨(some 4), none, .mv (.c (.str []))⟩])
  (.seq (.seq (.ops [⟨(some 7), none, .mv (.t 0)⟩,
    ⟨(some 8), none, .bin .lss (.t 7) (.c (.int .i64 (0)))⟩,
    ⟨(some 9), none, .mv (.t 8)⟩,
    ⟨(some 10), (some (9, false)), .mv (.t 0)⟩,
    ⟨(some 11), (some (9, false)), .mv (.t 1)⟩,
    ⟨(some 12), (some (9, false)), .call (.c (.func (.func 53) [] [])) [(.t 11)]⟩,
    ⟨(some 13), (some (9, false)), .bin .gtr (.t 10) (.t 12)⟩,
    ⟨(some 14), none, .pick (.t 9) (.c (.bool true)) (.t 13)⟩])
  (.cond (.t 14)
   (.seq (.ops [⟨(some 4), none, .mv (.c (.str []))⟩])
   (.ret))
   (.skip)))
  (.seq (.ops [⟨(some 5), none, .mv (.c (.slice none 0 0))⟩])
  (.seq (.seq (.ops [⟨(some 6), none, .mv (.c (.int .i64 (0)))⟩])
  (.block 0 (.loop (.seq (.seq (.ops [⟨(some 15), none, .mv (.t 6)⟩,
      ⟨(some 16), none, .mv (.t 1)⟩,
      ⟨(some 17), none, .bin .lss (.t 15) (.t 16)⟩])
    (.cond (.t 17)
     (.skip)
     (.exit 0)))
    (.seq (.block 1 (.seq (.ops [⟨(some 20), none, .mv (.t 5)⟩,
       ⟨(some 21), none, .mv (.t 0)⟩,
       ⟨(some 22), none, .bin .rem (.t 21) (.c (.int .i64 (256)))⟩,
       ⟨(some 23), none, .toInt .u8 (.t 22)⟩,
       ⟨(some 24), none, .buildSl (some 5) [(.int .u8 (0))] 1 [(0, 1, (.t 23))]⟩,
       ⟨(some 25), none, .append 1 1 (some 5) (.t 20) (.t 24)⟩,
       ⟨(some 5), none, .mv (.t 25)⟩])
     (.ops [⟨(some 26), none, .mv (.t 0)⟩,
       ⟨(some 27), none, .bin .quo (.t 26) (.c (.int .i64 (256)))⟩,
       ⟨(some 0), none, .mv (.t 27)⟩])))
    (.ops [⟨(some 18), none, .mv (.t 6)⟩,
      ⟨(some 19), none, .bin .add (.t 18) (.c (.int .i64 (1)))⟩,
      ⟨(some 6), none, .mv (.t 19)⟩]))))))
  (.seq (.ops [⟨(some 28), none, .mv (.t 5)⟩,
    ⟨(some 29), none, .toStr (.t 28)⟩,
    ⟨(some 4), none, .mv (.t 29)⟩])
  (.ret)))))⟩
theorem a27_ok : funcC Tryd.prog Tryd.f27 = some a27 := by kernel_rfl
/-- permafrost/permafrostref01.Text -/
def a28 : AFunc := ⟨2, [.tmp 4],
  .seq (.ops [⟨(some 4), none, .mv (.c (.str []))⟩])
  (.seq (.seq (.ops [⟨(some 5), none, .mv (.t 0)⟩,
    ⟨(some 6), none, .lenStr (.t 5)⟩,
    ⟨(some 7), none, .mv (.t 1)⟩,
    ⟨(some 8), none, .call (.c (.func (.func 53) [] [])) [(.t 7)]⟩,
    ⟨(some 9), none, .bin .gtr (.t 6) (.t 8)⟩])
  (.cond (.t 9)
   (.seq (.ops [⟨(some 4), none, .mv (.c (.str []))⟩])
   (.ret))
   (.skip)))
  (.seq (.ops [⟨(some 10), none, .mv (.t 0)⟩,
    ⟨(some 11), none, .lenStr (.t 10)⟩,
    ⟨(some 12), none, .mv (.t 1)⟩,
    ⟨(some 13), none, .call (.c (.func (.func 27) [] [])) [(.t 11), (.t 12)]⟩,
    ⟨(some 14), none, .mv (.t 0)⟩,
    ⟨(some 15), none, .bin .add (.t 13) (.t 14)⟩,
    ⟨(some 4), none, .mv (.t 15)⟩])
  (.ret)))⟩
theorem a28_ok : funcC Tryd.prog Tryd.f28 = some a28 := by kernel_rfl
/-- permafrost/clog.Check$1 -/
def a29 : AFunc := ⟨1, [.tmp 2],
  .seq (.ops [⟨(some 1), none, .box (.t 0)⟩,
    ⟨(some 2), none, .mv (.c (.bool false))⟩])
  (.seq (.ops [⟨(some 3), none, .fieldAddr 0 (.t 1)⟩,
    ⟨(some 4), none, .load none (.t 3)⟩,
    ⟨(some 5), none, .bin .eql (.t 4) (.c (.str []))⟩,
    ⟨(some 6), none, .mv (.t 5)⟩,
    ⟨(some 7), (some (6, false)), .fieldAddr 0 (.t 1)⟩,
    ⟨(some 8), (some (6, false)), .load none (.t 7)⟩,
    ⟨(some 9), (some (6, false)), .lenStr (.t 8)⟩,
    ⟨(some 10), (some (6, false)), .bin .gtr (.t 9) (.c (.int .i64 (60)))⟩,
    ⟨(some 11), none, .pick (.t 6) (.c (.bool true)) (.t 10)⟩,
    ⟨(some 12), none, .mv (.t 11)⟩,
    ⟨(some 13), (some (12, false)), .fieldAddr 1 (.t 1)⟩,
    ⟨(some 14), (some (12, false)), .load none (.t 13)⟩,
    ⟨(some 15), (some (12, false)), .lenStr (.t 14)⟩,
    ⟨(some 16), (some (12, false)), .bin .neq (.t 15) (.c (.int .i64 (32)))⟩,
    ⟨(some 17), none, .pick (.t 12) (.c (.bool true)) (.t 16)⟩,
    ⟨(some 18), none, .mv (.t 17)⟩,
    ⟨(some 19), (some (18, false)), .fieldAddr 2 (.t 1)⟩,
    ⟨(some 20), (some (18, false)), .load none (.t 19)⟩,
    ⟨(some 21), (some (18, false)), .call (.c (.func (.func 30) [] [])) [(.t 20), (.c (.int .i64 (960)))]⟩,
    ⟨(some 22), (some (18, false)), .not (.t 21)⟩,
    ⟨(some 23), none, .pick (.t 18) (.c (.bool true)) (.t 22)⟩,
    ⟨(some 24), none, .mv (.t 23)⟩,
    ⟨(some 25), (some (24, false)), .fieldAddr 3 (.t 1)⟩,
    ⟨(some 26), (some (24, false)), .load none (.t 25)⟩,
    ⟨(some 27), (some (24, false)), .call (.c (.func (.func 30) [] [])) [(.t 26), (.c (.int .i64 (511)))]⟩,
    ⟨(some 28), (some (24, false)), .not (.t 27)⟩,
    ⟨(some 29), none, .pick (.t 24) (.c (.bool true)) (.t 28)⟩,
    ⟨(some 2), none, .mv (.t 29)⟩])
  (.ret))⟩
theorem a29_ok : funcC Tryd.prog Tryd.f29 = some a29 := by kernel_rfl
/-- permafrost/clog.in -/
def a30 : AFunc := ⟨2, [.tmp 4],
  .seq (.ops [⟨(some 4), none, .mv (.c (.bool false))⟩])
  (.seq (.ops [⟨(some 5), none, .mv (.t 0)⟩,
    ⟨(some 6), none, .bin .geq (.t 5) (.c (.int .i64 (0)))⟩,
    ⟨(some 7), none, .mv (.t 6)⟩,
    ⟨(some 8), (some (7, true)), .mv (.t 0)⟩,
    ⟨(some 9), (some (7, true)), .mv (.t 1)⟩,
    ⟨(some 10), (some (7, true)), .bin .leq (.t 8) (.t 9)⟩,
    ⟨(some 11), none, .pick (.t 7) (.t 10) (.c (.bool false))⟩,
    ⟨(some 4), none, .mv (.t 11)⟩])
  (.ret))⟩
theorem a30_ok : funcC Tryd.prog Tryd.f30 = some a30 := by kernel_rfl
/-- slices.ContainsFunc[[]permafrost/clog.Entry,permafrost/clog.Entry] -/
def a31 : AFunc := ⟨2, [.tmp 4],
  .seq (.ops [⟨(some 4), none, .mv (.c (.bool false))⟩])
  (.seq (.ops [⟨(some 5), none, .mv (.t 0)⟩,
    ⟨(some 6), none, .mv (.t 1)⟩,
    ⟨(some 7), none, .call (.c (.func (.func 54) [] [])) [(.t 5), (.t 6)]⟩,
    ⟨(some 8), none, .bin .geq (.t 7) (.c (.int .i64 (0)))⟩,
    ⟨(some 4), none, .mv (.t 8)⟩])
  (.ret))⟩
theorem a31_ok : funcC Tryd.prog Tryd.f31 = some a31 := by kernel_rfl
/-- permafrost/permafrostref02.primes -/
def a32 : AFunc := ⟨1, [.tmp 2],
  .seq (.ops [⟨(some 2), none, .mv (.c (.slice none 0 0))⟩])
  (.seq (.ops [⟨(some 3), none, .mv (.c (.slice none 0 0))⟩])
  (.seq (.seq (.ops [⟨(some 4), none, .mv (.c (.int .i64 (2)))⟩])
  (.block 0 (.loop (.seq (.seq (.ops [⟨(some 7), none, .mv (.t 3)⟩,
      ⟨(some 8), none, .lenSl (.t 7)⟩,
      ⟨(some 9), none, .mv (.t 0)⟩,
      ⟨(some 10), none, .bin .lss (.t 8) (.t 9)⟩])
    (.cond (.t 10)
     (.skip)
     (.exit 0)))
    (.seq (.block 1 (.seq (.ops [⟨(some 5), none, .mv (.c (.bool true))⟩])
     (.seq (.seq (.ops [⟨(some 6), none, .mv (.c (.int .i64 (0)))⟩])
     (.block 2 (.loop (.seq (.seq (.ops [⟨(some 13), none, .mv (.t 6)⟩,
         ⟨(some 14), none, .mv (.t 3)⟩,
         ⟨(some 15), none, .lenSl (.t 14)⟩,
         ⟨(some 16), none, .bin .lss (.t 13) (.t 15)⟩])
       (.cond (.t 16)
        (.skip)
        (.exit 2)))
       (.seq (.block 3 (.ops [⟨(some 19), none, .mv (.t 5)⟩,
          ⟨(some 20), none, .mv (.t 19)⟩,
          ⟨(some 21), (some (20, true)), .mv (.t 4)⟩,
          ⟨(some 22), (some (20, true)), .mv (.t 3)⟩,
          ⟨(some 23), (some (20, true)), .mv (.t 6)⟩,
          ⟨(some 24), (some (20, true)), .idxSl 1 (.t 22) (.t 23)⟩,
          ⟨(some 25), (some (20, true)), .load none (.t 24)⟩,
          ⟨(some 26), (some (20, true)), .bin .rem (.t 21) (.t 25)⟩,
          ⟨(some 27), (some (20, true)), .bin .neq (.t 26) (.c (.int .i64 (0)))⟩,
          ⟨(some 28), none, .pick (.t 20) (.t 27) (.c (.bool false))⟩,
          ⟨(some 5), none, .mv (.t 28)⟩]))
       (.ops [⟨(some 17), none, .mv (.t 6)⟩,
         ⟨(some 18), none, .bin .add (.t 17) (.c (.int .i64 (1)))⟩,
         ⟨(some 6), none, .mv (.t 18)⟩]))))))
     (.seq (.ops [⟨(some 29), none, .mv (.t 5)⟩])
     (.cond (.t 29)
      (.ops [⟨(some 30), none, .mv (.t 3)⟩,
        ⟨(some 31), none, .mv (.t 4)⟩,
        ⟨(some 32), none, .buildSl none [(.int .i64 (0))] 1 [(0, 1, (.t 31))]⟩,
        ⟨(some 33), none, .append 1 8 none (.t 30) (.t 32)⟩,
        ⟨(some 3), none, .mv (.t 33)⟩])
      (.skip))))))
    (.ops [⟨(some 11), none, .mv (.t 4)⟩,
      ⟨(some 12), none, .bin .add (.t 11) (.c (.int .i64 (1)))⟩,
      ⟨(some 4), none, .mv (.t 12)⟩]))))))
  (.seq (.ops [⟨(some 34), none, .mv (.t 3)⟩,
    ⟨(some 2), none, .mv (.t 34)⟩])
  (.ret))))⟩
theorem a32_ok : funcC Tryd.prog Tryd.f32 = some a32 := by kernel_rfl
/-- permafrost/permafrostref02.root -/
def a33 : AFunc := ⟨2, [.tmp 4],
  .seq (.ops [⟨(some 4), none, .mv (.c (.int .i64 (0)))⟩])
  (.seq (.ops [⟨(some 11), none, .mv (.t 1)⟩,
    ⟨(some 12), none, .bin .mul (.c (.int .i64 (2))) (.t 11)⟩,
    ⟨(some 13), none, .makeSl 1 8 [(.int .i64 (0))] (.t 12) (.t 12)⟩,
    ⟨(some 5), none, .mv (.t 13)⟩])
  (.seq (.ops [⟨(some 14), none, .mv (.t 5)⟩,
    ⟨(some 15), none, .mv (.t 0)⟩,
    ⟨(some 16), none, .call (.c (.func (.func 55) [] [])) [(.t 15), (.c (.int .i64 (2)))]⟩,
    ⟨(some 17), none, .append 1 8 none (.t 14) (.t 16)⟩,
    ⟨(some 5), none, .mv (.t 17)⟩])
  (.seq (.ops [⟨(some 6), none, .mv (.c (.int .i64 (0)))⟩])
  (.seq (.seq (.ops [⟨(some 7), none, .mv (.c (.int .i64 (40)))⟩])
  (.block 0 (.loop (.seq (.seq (.ops [⟨(some 18), none, .mv (.t 7)⟩,
      ⟨(some 19), none, .bin .geq (.t 18) (.c (.int .i64 (0)))⟩])
    (.cond (.t 19)
     (.skip)
     (.exit 0)))
    (.seq (.block 1 (.seq (.ops [⟨(some 22), none, .mv (.t 6)⟩,
       ⟨(some 23), none, .mv (.t 7)⟩,
       ⟨(some 24), none, .toInt .u64 (.t 23)⟩,
       ⟨(some 25), none, .bin .shl (.c (.int .i64 (1))) (.t 24)⟩,
       ⟨(some 26), none, .bin .add (.t 22) (.t 25)⟩,
       ⟨(some 8), none, .mv (.t 26)⟩])
     (.seq (.ops [⟨(some 27), none, .mv (.t 8)⟩,
       ⟨(some 28), none, .call (.c (.func (.func 55) [] [])) [(.t 27), (.c (.int .i64 (3)))]⟩,
       ⟨(some 9), none, .mv (.t 28)⟩])
     (.seq (.ops [⟨(some 29), none, .mv (.t 9)⟩,
       ⟨(some 30), none, .mv (.t 9)⟩,
       ⟨(some 31), none, .call (.c (.func (.func 56) [] [])) [(.t 29), (.t 30)]⟩,
       ⟨(some 10), none, .mv (.t 31)⟩])
     (.seq (.seq (.ops [⟨(some 32), none, .mv (.t 1)⟩,
       ⟨(some 33), none, .bin .eql (.t 32) (.c (.int .i64 (3)))⟩])
     (.cond (.t 33)
      (.ops [⟨(some 34), none, .mv (.t 10)⟩,
        ⟨(some 35), none, .mv (.t 9)⟩,
        ⟨(some 36), none, .call (.c (.func (.func 56) [] [])) [(.t 34), (.t 35)]⟩,
        ⟨(some 10), none, .mv (.t 36)⟩])
      (.skip)))
     (.seq (.ops [⟨(some 37), none, .mv (.t 10)⟩,
       ⟨(some 38), none, .mv (.t 5)⟩,
       ⟨(some 39), none, .call (.c (.func (.func 57) [] [])) [(.t 37), (.t 38)]⟩,
       ⟨(some 40), none, .not (.t 39)⟩])
     (.cond (.t 40)
      (.ops [⟨(some 41), none, .mv (.t 8)⟩,
        ⟨(some 6), none, .mv (.t 41)⟩])
      (.skip))))))))
    (.ops [⟨(some 20), none, .mv (.t 7)⟩,
      ⟨(some 21), none, .bin .sub (.t 20) (.c (.int .i64 (1)))⟩,
      ⟨(some 7), none, .mv (.t 21)⟩]))))))
  (.seq (.ops [⟨(some 42), none, .mv (.t 6)⟩,
    ⟨(some 43), none, .bin .rem (.t 42) (.c (.int .i64 (4294967296)))⟩,
    ⟨(some 4), none, .mv (.t 43)⟩])
  (.ret))))))⟩
theorem a33_ok : funcC Tryd.prog Tryd.f33 = some a33 := by kernel_rfl
/-- permafrost/permafrostref02.Pad -/
def a34 : AFunc := ⟨1, [.tmp 2],
  .seq (.ops [⟨(some 2), none, .mv (.c (.str []))⟩])
  (.seq (.ops [⟨(some 5), none, .mv (.t 0)⟩,
    ⟨(some 6), none, .lenStr (.t 5)⟩,
    ⟨(some 7), none, .bin .mul (.c (.int .i64 (8))) (.t 6)⟩,
    ⟨(some 3), none, .mv (.t 7)⟩])
  (.seq (.ops [⟨(some 8), none, .mv (.t 0)⟩,
    ⟨(some 9), none, .bin .add (.t 8) (.c (.str [128]))⟩,
    ⟨(some 0), none, .mv (.t 9)⟩])
  (.seq (.block 0 (.loop (.seq (.seq (.ops [⟨(some 10), none, .mv (.t 0)⟩,
      ⟨(some 11), none, .lenStr (.t 10)⟩,
      ⟨(some 12), none, .bin .rem (.t 11) (.c (.int .i64 (64)))⟩,
      ⟨(some 13), none, .bin .neq (.t 12) (.c (.int .i64 (56)))⟩])
    (.cond (.t 13)
     (.skip)
     (.exit 0)))
    (.block 1 (.ops [⟨(some 14), none, .mv (.t 0)⟩,
       ⟨(some 15), none, .bin .add (.t 14) (.c (.str [0]))⟩,
       ⟨(some 0), none, .mv (.t 15)⟩])))))
  (.seq (.seq (.ops [⟨(some 4), none, .mv (.c (.int .i64 (7)))⟩])
  (.block 2 (.loop (.seq (.seq (.ops [⟨(some 16), none, .mv (.t 4)⟩,
      ⟨(some 17), none, .bin .geq (.t 16) (.c (.int .i64 (0)))⟩])
    (.cond (.t 17)
     (.skip)
     (.exit 2)))
    (.seq (.block 3 (.ops [⟨(some 20), none, .mv (.t 0)⟩,
       ⟨(some 21), none, .mv (.t 3)⟩,
       ⟨(some 22), none, .mv (.t 4)⟩,
       ⟨(some 23), none, .bin .mul (.c (.int .i64 (8))) (.t 22)⟩,
       ⟨(some 24), none, .toInt .u64 (.t 23)⟩,
       ⟨(some 25), none, .bin .shr (.t 21) (.t 24)⟩,
       ⟨(some 26), none, .toInt .u8 (.t 25)⟩,
       ⟨(some 27), none, .buildSl (some 5) [(.int .u8 (0))] 1 [(0, 1, (.t 26))]⟩,
       ⟨(some 28), none, .toStr (.t 27)⟩,
       ⟨(some 29), none, .bin .add (.t 20) (.t 28)⟩,
       ⟨(some 0), none, .mv (.t 29)⟩]))
    (.ops [⟨(some 18), none, .mv (.t 4)⟩,
      ⟨(some 19), none, .bin .sub (.t 18) (.c (.int .i64 (1)))⟩,
      ⟨(some 4), none, .mv (.t 19)⟩]))))))
  (.seq (.ops [⟨(some 30), none, .mv (.t 0)⟩,
    ⟨(some 2), none, .mv (.t 30)⟩])
  (.ret))))))⟩
theorem a34_ok : funcC Tryd.prog Tryd.f34 = some a34 := by kernel_rfl
/-- permafrost/permafrostref02.one -/
def a35 : AFunc := ⟨3, [.tmp 6],
  .seq (.ops [⟨(some 6), none, .mv (.c (.slice none 0 0))⟩])
  (.seq (.ops [⟨(some 7), none, .mv (.c (.slice none 0 0))⟩])
  (.seq (.seq (.ops [⟨(some 8), none, .mv (.c (.int .i64 (0)))⟩])
  (.block 0 (.loop (.seq (.seq (.ops [⟨(some 21), none, .mv (.t 8)⟩,
      ⟨(some 22), none, .bin .lss (.t 21) (.c (.int .i64 (64)))⟩])
    (.cond (.t 22)
     (.skip)
     (.exit 0)))
    (.seq (.block 1 (.seq (.seq (.ops [⟨(some 25), none, .mv (.t 8)⟩,
       ⟨(some 26), none, .bin .lss (.t 25) (.c (.int .i64 (16)))⟩])
     (.cond (.t 26)
      (.seq (.draw [⟨⟨(some 27), none, .mv (.t 7)⟩, 0, []⟩,
        ⟨⟨(some 28), none, .mv (.t 1)⟩, 1, []⟩,
        ⟨⟨(some 29), none, .mv (.t 8)⟩, 2, []⟩,
        ⟨⟨(some 30), none, .bin .mul (.c (.int .i64 (4))) (.t 29)⟩, 3, [2]⟩,
        ⟨⟨(some 31), none, .atStr (.t 28) (.t 30)⟩, 4, [1, 2, 3]⟩,
        ⟨⟨(some 32), none, .toInt .i64 (.t 31)⟩, 5, [1, 2, 3, 4]⟩,
        ⟨⟨(some 33), none, .bin .shl (.t 32) (.c (.int .u64 (24)))⟩, 6, [1, 2, 3, 4, 5]⟩,
        ⟨⟨(some 34), none, .mv (.t 1)⟩, 7, []⟩,
        ⟨⟨(some 35), none, .mv (.t 8)⟩, 8, []⟩,
        ⟨⟨(some 36), none, .bin .mul (.c (.int .i64 (4))) (.t 35)⟩, 9, [8]⟩,
        ⟨⟨(some 37), none, .bin .add (.t 36) (.c (.int .i64 (1)))⟩, 10, [8, 9]⟩,
        ⟨⟨(some 38), none, .atStr (.t 34) (.t 37)⟩, 11, [7, 8, 9, 10]⟩,
        ⟨⟨(some 39), none, .toInt .i64 (.t 38)⟩, 12, [7, 8, 9, 10, 11]⟩,
        ⟨⟨(some 40), none, .bin .shl (.t 39) (.c (.int .u64 (16)))⟩, 13, [7, 8, 9, 10, 11, 12]⟩,
        ⟨⟨(some 41), none, .bin .or (.t 33) (.t 40)⟩, 14, [1, 2, 3, 4, 5, 6, 7, 8, 9, 10, 11, 12, 13]⟩,
        ⟨⟨(some 42), none, .mv (.t 1)⟩, 15, []⟩,
        ⟨⟨(some 43), none, .mv (.t 8)⟩, 16, []⟩,
        ⟨⟨(some 44), none, .bin .mul (.c (.int .i64 (4))) (.t 43)⟩, 17, [16]⟩,
        ⟨⟨(some 45), none, .bin .add (.t 44) (.c (.int .i64 (2)))⟩, 18, [16, 17]⟩,
        ⟨⟨(some 46), none, .atStr (.t 42) (.t 45)⟩, 19, [15, 16, 17, 18]⟩,
        ⟨⟨(some 47), none, .toInt .i64 (.t 46)⟩, 20, [15, 16, 17, 18, 19]⟩,
        ⟨⟨(some 48), none, .bin .shl (.t 47) (.c (.int .u64 (8)))⟩, 21, [15, 16, 17, 18, 19, 20]⟩,
        ⟨⟨(some 49), none, .bin .or (.t 41) (.t 48)⟩, 22, [1, 2, 3, 4, 5, 6, 7, 8, 9, 10, 11, 12, 13, 14, 15, 16, 17, 18, 19, 20, 21]⟩,
        ⟨⟨(some 50), none, .mv (.t 1)⟩, 23, []⟩,
        ⟨⟨(some 51), none, .mv (.t 8)⟩, 24, []⟩,
        ⟨⟨(some 52), none, .bin .mul (.c (.int .i64 (4))) (.t 51)⟩, 25, [24]⟩,
        ⟨⟨(some 53), none, .bin .add (.t 52) (.c (.int .i64 (3)))⟩, 26, [24, 25]⟩,
        ⟨⟨(some 54), none, .atStr (.t 50) (.t 53)⟩, 27, [23, 24, 25, 26]⟩,
        ⟨⟨(some 55), none, .toInt .i64 (.t 54)⟩, 28, [23, 24, 25, 26, 27]⟩,
        ⟨⟨(some 56), none, .bin .or (.t 49) (.t 55)⟩, 29, [1, 2, 3, 4, 5, 6, 7, 8, 9, 10, 11, 12, 13, 14, 15, 16, 17, 18, 19, 20, 21, 22, 23, 24, 25, 26, 27, 28]⟩,
        ⟨⟨(some 57), none, .buildSl none [(.int .i64 (0))] 1 [(0, 1, (.t 56))]⟩, 30, [1, 2, 3, 4, 5, 6, 7, 8, 9, 10, 11, 12, 13, 14, 15, 16, 17, 18, 19, 20, 21, 22, 23, 24, 25, 26, 27, 28, 29]⟩,
        ⟨⟨(some 58), none, .append 1 8 none (.t 27) (.t 57)⟩, 31, [0, 1, 2, 3, 4, 5, 6, 7, 8, 9, 10, 11, 12, 13, 14, 15, 16, 17, 18, 19, 20, 21, 22, 23, 24, 25, 26, 27, 28, 29, 30]⟩,
        ⟨⟨(some 7), none, .mv (.t 58)⟩, 32, [0, 1, 2, 3, 4, 5, 6, 7, 8, 9, 10, 11, 12, 13, 14, 15, 16, 17, 18, 19, 20, 21, 22, 23, 24, 25, 26, 27, 28, 29, 30, 31]⟩])
      (.exit 1))
      (.skip)))
     (.seq (.ops [⟨(some 59), none, .mv (.t 7)⟩,
       ⟨(some 60), none, .mv (.t 8)⟩,
       ⟨(some 61), none, .bin .sub (.t 60) (.c (.int .i64 (15)))⟩,
       ⟨(some 62), none, .idxSl 1 (.t 59) (.t 61)⟩,
       ⟨(some 63), none, .load none (.t 62)⟩,
       ⟨(some 9), none, .mv (.t 63)⟩])
     (.seq (.ops [⟨(some 64), none, .mv (.t 7)⟩,
       ⟨(some 65), none, .mv (.t 8)⟩,
       ⟨(some 66), none, .bin .sub (.t 65) (.c (.int .i64 (2)))⟩,
       ⟨(some 67), none, .idxSl 1 (.t 64) (.t 66)⟩,
       ⟨(some 68), none, .load none (.t 67)⟩,
       ⟨(some 10), none, .mv (.t 68)⟩])
     (.draw [⟨⟨(some 69), none, .mv (.t 7)⟩, 0, []⟩,
       ⟨⟨(some 70), none, .mv (.t 10)⟩, 1, []⟩,
       ⟨⟨(some 72), none, .mv (.t 10)⟩, 3, []⟩,
       ⟨⟨(some 75), none, .mv (.t 10)⟩, 6, []⟩,
       ⟨⟨(some 76), none, .bin .shr (.t 75) (.c (.int .u64 (10)))⟩, 7, [3]⟩,
       ⟨⟨(some 78), none, .mv (.t 7)⟩, 9, []⟩,
       ⟨⟨(some 79), none, .mv (.t 8)⟩, 10, []⟩,
       ⟨⟨(some 80), none, .bin .sub (.t 79) (.c (.int .i64 (7)))⟩, 11, [6]⟩,
       ⟨⟨(some 81), none, .idxSl 1 (.t 78) (.t 80)⟩, 12, [5, 6, 7]⟩,
       ⟨⟨(some 82), none, .load none (.t 81)⟩, 13, [5, 6, 7, 8]⟩,
       ⟨⟨(some 84), none, .mv (.t 9)⟩, 15, []⟩,
       ⟨⟨(some 86), none, .mv (.t 9)⟩, 17, []⟩,
       ⟨⟨(some 89), none, .mv (.t 9)⟩, 20, []⟩,
       ⟨⟨(some 90), none, .bin .shr (.t 89) (.c (.int .u64 (3)))⟩, 21, [12]⟩,
       ⟨⟨(some 93), none, .mv (.t 7)⟩, 24, []⟩,
       ⟨⟨(some 94), none, .mv (.t 8)⟩, 25, []⟩,
       ⟨⟨(some 95), none, .bin .sub (.t 94) (.c (.int .i64 (16)))⟩, 26, [15]⟩,
       ⟨⟨(some 96), none, .idxSl 1 (.t 93) (.t 95)⟩, 27, [14, 15, 16]⟩,
       ⟨⟨(some 97), none, .load none (.t 96)⟩, 28, [14, 15, 16, 17]⟩,
       ⟨⟨(some 71), none, .call (.c (.func (.func 59) [] [])) [(.t 70), (.c (.int .i64 (17)))]⟩, 2, [1]⟩,
       ⟨⟨(some 73), none, .call (.c (.func (.func 59) [] [])) [(.t 72), (.c (.int .i64 (19)))]⟩, 4, [1, 2, 19]⟩,
       ⟨⟨(some 74), none, .bin .xor (.t 71) (.t 73)⟩, 5, [1, 2, 19, 20]⟩,
       ⟨⟨(some 77), none, .bin .xor (.t 74) (.t 76)⟩, 8, [1, 2, 3, 4, 19, 20, 21]⟩,
       ⟨⟨(some 83), none, .bin .add (.t 77) (.t 82)⟩, 14, [1, 2, 3, 4, 5, 6, 7, 8, 9, 19, 20, 21, 22]⟩,
       ⟨⟨(some 85), none, .call (.c (.func (.func 59) [] [])) [(.t 84), (.c (.int .i64 (7)))]⟩, 16, [1, 2, 10, 19, 20]⟩,
       ⟨⟨(some 87), none, .call (.c (.func (.func 59) [] [])) [(.t 86), (.c (.int .i64 (18)))]⟩, 18, [1, 2, 10, 11, 19, 20, 24]⟩,
       ⟨⟨(some 88), none, .bin .xor (.t 85) (.t 87)⟩, 19, [1, 2, 10, 11, 19, 20, 24, 25]⟩,
       ⟨⟨(some 91), none, .bin .xor (.t 88) (.t 90)⟩, 22, [1, 2, 10, 11, 12, 13, 19, 20, 24, 25, 26]⟩,
       ⟨⟨(some 92), none, .bin .add (.t 83) (.t 91)⟩, 23, [1, 2, 3, 4, 5, 6, 7, 8, 9, 10, 11, 12, 13, 19, 20, 21, 22, 23, 24, 25, 26, 27]⟩,
       ⟨⟨(some 98), none, .bin .add (.t 92) (.t 97)⟩, 29, [1, 2, 3, 4, 5, 6, 7, 8, 9, 10, 11, 12, 13, 14, 15, 16, 17, 18, 19, 20, 21, 22, 23, 24, 25, 26, 27, 28]⟩,
       ⟨⟨(some 99), none, .call (.c (.func (.func 58) [] [])) [(.t 98)]⟩, 30, [1, 2, 3, 4, 5, 6, 7, 8, 9, 10, 11, 12, 13, 14, 15, 16, 17, 18, 19, 20, 21, 22, 23, 24, 25, 26, 27, 28, 29]⟩,
       ⟨⟨(some 100), none, .buildSl none [(.int .i64 (0))] 1 [(0, 1, (.t 99))]⟩, 31, [1, 2, 3, 4, 5, 6, 7, 8, 9, 10, 11, 12, 13, 14, 15, 16, 17, 18, 19, 20, 21, 22, 23, 24, 25, 26, 27, 28, 29, 30]⟩,
       ⟨⟨(some 101), none, .append 1 8 none (.t 69) (.t 100)⟩, 32, [0, 1, 2, 3, 4, 5, 6, 7, 8, 9, 10, 11, 12, 13, 14, 15, 16, 17, 18, 19, 20, 21, 22, 23, 24, 25, 26, 27, 28, 29, 30, 31]⟩,
       ⟨⟨(some 7), none, .mv (.t 101)⟩, 33, [0, 1, 2, 3, 4, 5, 6, 7, 8, 9, 10, 11, 12, 13, 14, 15, 16, 17, 18, 19, 20, 21, 22, 23, 24, 25, 26, 27, 28, 29, 30, 31, 32]⟩])))))
    (.ops [⟨(some 23), none, .mv (.t 8)⟩,
      ⟨(some 24), none, .bin .add (.t 23) (.c (.int .i64 (1)))⟩,
      ⟨(some 8), none, .mv (.t 24)⟩]))))))
  (.seq (.ops [⟨(some 11), none, .mv (.c (.slice none 0 0))⟩])
  (.seq (.ops [⟨(some 102), none, .mv (.t 11)⟩,
    ⟨(some 103), none, .mv (.t 0)⟩,
    ⟨(some 104), none, .append 1 8 none (.t 102) (.t 103)⟩,
    ⟨(some 11), none, .mv (.t 104)⟩])
  (.seq (.seq (.ops [⟨(some 12), none, .mv (.c (.int .i64 (0)))⟩])
  (.block 2 (.loop (.seq (.seq (.ops [⟨(some 105), none, .mv (.t 12)⟩,
      ⟨(some 106), none, .bin .lss (.t 105) (.c (.int .i64 (64)))⟩])
    (.cond (.t 106)
     (.skip)
     (.exit 2)))
    (.seq (.block 3 (.seq (.draw [⟨⟨(some 109), none, .mv (.t 11)⟩, 0, []⟩,
       ⟨⟨(some 110), none, .idxSl 1 (.t 109) (.c (.int .i64 (0)))⟩, 1, [0]⟩,
       ⟨⟨(some 111), none, .load none (.t 110)⟩, 2, [0, 1]⟩,
       ⟨⟨(some 112), none, .mv (.t 11)⟩, 3, []⟩,
       ⟨⟨(some 113), none, .idxSl 1 (.t 112) (.c (.int .i64 (4)))⟩, 4, [3]⟩,
       ⟨⟨(some 114), none, .load none (.t 113)⟩, 5, [3, 4]⟩,
       ⟨⟨(some 13), none, .mv (.t 111)⟩, 6, [0, 1, 2]⟩,
       ⟨⟨(some 14), none, .mv (.t 114)⟩, 7, [0, 1, 2, 3, 4, 5, 6]⟩])
     (.seq (.draw [⟨⟨(some 115), none, .mv (.t 14)⟩, 0, []⟩,
       ⟨⟨(some 116), none, .mv (.t 11)⟩, 1, []⟩,
       ⟨⟨(some 117), none, .idxSl 1 (.t 116) (.c (.int .i64 (5)))⟩, 2, [1]⟩,
       ⟨⟨(some 118), none, .load none (.t 117)⟩, 3, [1, 2]⟩,
       ⟨⟨(some 119), none, .bin .and (.t 115) (.t 118)⟩, 4, [0, 1, 2, 3]⟩,
       ⟨⟨(some 120), none, .mv (.t 14)⟩, 5, []⟩,
       ⟨⟨(some 121), none, .bin .sub (.c (.int .i64 (4294967295))) (.t 120)⟩, 6, [5]⟩,
       ⟨⟨(some 122), none, .mv (.t 11)⟩, 7, []⟩,
       ⟨⟨(some 123), none, .idxSl 1 (.t 122) (.c (.int .i64 (6)))⟩, 8, [7]⟩,
       ⟨⟨(some 124), none, .load none (.t 123)⟩, 9, [7, 8]⟩,
       ⟨⟨(some 125), none, .bin .and (.t 121) (.t 124)⟩, 10, [5, 6, 7, 8, 9]⟩,
       ⟨⟨(some 126), none, .bin .or (.t 119) (.t 125)⟩, 11, [0, 1, 2, 3, 4, 5, 6, 7, 8, 9, 10]⟩,
       ⟨⟨(some 15), none, .mv (.t 126)⟩, 12, [0, 1, 2, 3, 4, 5, 6, 7, 8, 9, 10, 11]⟩])
     (.seq (.draw [⟨⟨(some 127), none, .mv (.t 13)⟩, 0, []⟩,
       ⟨⟨(some 128), none, .mv (.t 11)⟩, 1, []⟩,
       ⟨⟨(some 129), none, .idxSl 1 (.t 128) (.c (.int .i64 (1)))⟩, 2, [1]⟩,
       ⟨⟨(some 130), none, .load none (.t 129)⟩, 3, [1, 2]⟩,
       ⟨⟨(some 131), none, .bin .and (.t 127) (.t 130)⟩, 4, [0, 1, 2, 3]⟩,
       ⟨⟨(some 132), none, .mv (.t 13)⟩, 5, []⟩,
       ⟨⟨(some 133), none, .mv (.t 11)⟩, 6, []⟩,
       ⟨⟨(some 134), none, .idxSl 1 (.t 133) (.c (.int .i64 (2)))⟩, 7, [6]⟩,
       ⟨⟨(some 135), none, .load none (.t 134)⟩, 8, [6, 7]⟩,
       ⟨⟨(some 136), none, .bin .and (.t 132) (.t 135)⟩, 9, [5, 6, 7, 8]⟩,
       ⟨⟨(some 137), none, .bin .or (.t 131) (.t 136)⟩, 10, [0, 1, 2, 3, 4, 5, 6, 7, 8, 9]⟩,
       ⟨⟨(some 138), none, .mv (.t 11)⟩, 11, []⟩,
       ⟨⟨(some 139), none, .idxSl 1 (.t 138) (.c (.int .i64 (1)))⟩, 12, [11]⟩,
       ⟨⟨(some 140), none, .load none (.t 139)⟩, 13, [11, 12]⟩,
       ⟨⟨(some 141), none, .mv (.t 11)⟩, 14, []⟩,
       ⟨⟨(some 142), none, .idxSl 1 (.t 141) (.c (.int .i64 (2)))⟩, 15, [14]⟩,
       ⟨⟨(some 143), none, .load none (.t 142)⟩, 16, [14, 15]⟩,
       ⟨⟨(some 144), none, .bin .and (.t 140) (.t 143)⟩, 17, [11, 12, 13, 14, 15, 16]⟩,
       ⟨⟨(some 145), none, .bin .or (.t 137) (.t 144)⟩, 18, [0, 1, 2, 3, 4, 5, 6, 7, 8, 9, 10, 11, 12, 13, 14, 15, 16, 17]⟩,
       ⟨⟨(some 16), none, .mv (.t 145)⟩, 19, [0, 1, 2, 3, 4, 5, 6, 7, 8, 9, 10, 11, 12, 13, 14, 15, 16, 17, 18]⟩])
     (.seq (.draw [⟨⟨(some 146), none, .mv (.t 11)⟩, 0, []⟩,
       ⟨⟨(some 147), none, .idxSl 1 (.t 146) (.c (.int .i64 (7)))⟩, 1, [0]⟩,
       ⟨⟨(some 148), none, .load none (.t 147)⟩, 2, [0, 1]⟩,
       ⟨⟨(some 149), none, .mv (.t 14)⟩, 3, []⟩,
       ⟨⟨(some 151), none, .mv (.t 14)⟩, 5, []⟩,
       ⟨⟨(some 154), none, .mv (.t 14)⟩, 8, []⟩,
       ⟨⟨(some 158), none, .mv (.t 15)⟩, 12, []⟩,
       ⟨⟨(some 160), none, .mv (.t 2)⟩, 14, []⟩,
       ⟨⟨(some 161), none, .mv (.t 12)⟩, 15, []⟩,
       ⟨⟨(some 162), none, .idxSl 1 (.t 160) (.t 161)⟩, 16, [7, 8]⟩,
       ⟨⟨(some 163), none, .load none (.t 162)⟩, 17, [7, 8, 9]⟩,
       ⟨⟨(some 165), none, .mv (.t 7)⟩, 19, []⟩,
       ⟨⟨(some 166), none, .mv (.t 12)⟩, 20, []⟩,
       ⟨⟨(some 167), none, .idxSl 1 (.t 165) (.t 166)⟩, 21, [11, 12]⟩,
       ⟨⟨(some 168), none, .load none (.t 167)⟩, 22, [11, 12, 13]⟩,
       ⟨⟨(some 150), none, .call (.c (.func (.func 59) [] [])) [(.t 149), (.c (.int .i64 (6)))]⟩, 4, [3]⟩,
       ⟨⟨(some 152), none, .call (.c (.func (.func 59) [] [])) [(.t 151), (.c (.int .i64 (11)))]⟩, 6, [3, 4, 15]⟩,
       ⟨⟨(some 153), none, .bin .xor (.t 150) (.t 152)⟩, 7, [3, 4, 15, 16]⟩,
       ⟨⟨(some 155), none, .call (.c (.func (.func 59) [] [])) [(.t 154), (.c (.int .i64 (25)))]⟩, 9, [3, 4, 5, 15, 16]⟩,
       ⟨⟨(some 156), none, .bin .xor (.t 153) (.t 155)⟩, 10, [3, 4, 5, 15, 16, 17, 18]⟩,
       ⟨⟨(some 157), none, .bin .add (.t 148) (.t 156)⟩, 11, [0, 1, 2, 3, 4, 5, 15, 16, 17, 18, 19]⟩,
       ⟨⟨(some 159), none, .bin .add (.t 157) (.t 158)⟩, 13, [0, 1, 2, 3, 4, 5, 6, 15, 16, 17, 18, 19, 20]⟩,
       ⟨⟨(some 164), none, .bin .add (.t 159) (.t 163)⟩, 18, [0, 1, 2, 3, 4, 5, 6, 7, 8, 9, 10, 15, 16, 17, 18, 19, 20, 21]⟩,
       ⟨⟨(some 169), none, .bin .add (.t 164) (.t 168)⟩, 23, [0, 1, 2, 3, 4, 5, 6, 7, 8, 9, 10, 11, 12, 13, 14, 15, 16, 17, 18, 19, 20, 21, 22]⟩,
       ⟨⟨(some 170), none, .call (.c (.func (.func 58) [] [])) [(.t 169)]⟩, 24, [0, 1, 2, 3, 4, 5, 6, 7, 8, 9, 10, 11, 12, 13, 14, 15, 16, 17, 18, 19, 20, 21, 22, 23]⟩,
       ⟨⟨(some 17), none, .mv (.t 170)⟩, 25, [0, 1, 2, 3, 4, 5, 6, 7, 8, 9, 10, 11, 12, 13, 14, 15, 16, 17, 18, 19, 20, 21, 22, 23, 24]⟩])
     (.seq (.ops [⟨(some 171), none, .mv (.t 13)⟩,
       ⟨(some 172), none, .call (.c (.func (.func 59) [] [])) [(.t 171), (.c (.int .i64 (2)))]⟩,
       ⟨(some 173), none, .mv (.t 13)⟩,
       ⟨(some 174), none, .call (.c (.func (.func 59) [] [])) [(.t 173), (.c (.int .i64 (13)))]⟩,
       ⟨(some 175), none, .bin .xor (.t 172) (.t 174)⟩,
       ⟨(some 176), none, .mv (.t 13)⟩,
       ⟨(some 177), none, .call (.c (.func (.func 59) [] [])) [(.t 176), (.c (.int .i64 (22)))]⟩,
       ⟨(some 178), none, .bin .xor (.t 175) (.t 177)⟩,
       ⟨(some 179), none, .mv (.t 16)⟩,
       ⟨(some 180), none, .bin .add (.t 178) (.t 179)⟩,
       ⟨(some 181), none, .call (.c (.func (.func 58) [] [])) [(.t 180)]⟩,
       ⟨(some 18), none, .mv (.t 181)⟩])
     (.draw [⟨⟨(some 182), none, .mv (.t 17)⟩, 0, []⟩,
       ⟨⟨(some 183), none, .mv (.t 18)⟩, 1, []⟩,
       ⟨⟨(some 184), none, .bin .add (.t 182) (.t 183)⟩, 2, [0, 1]⟩,
       ⟨⟨(some 186), none, .mv (.t 13)⟩, 4, []⟩,
       ⟨⟨(some 187), none, .mv (.t 11)⟩, 5, []⟩,
       ⟨⟨(some 188), none, .idxSl 1 (.t 187) (.c (.int .i64 (1)))⟩, 6, [4]⟩,
       ⟨⟨(some 189), none, .load none (.t 188)⟩, 7, [4, 5]⟩,
       ⟨⟨(some 190), none, .mv (.t 11)⟩, 8, []⟩,
       ⟨⟨(some 191), none, .idxSl 1 (.t 190) (.c (.int .i64 (2)))⟩, 9, [7]⟩,
       ⟨⟨(some 192), none, .load none (.t 191)⟩, 10, [7, 8]⟩,
       ⟨⟨(some 193), none, .mv (.t 11)⟩, 11, []⟩,
       ⟨⟨(some 194), none, .idxSl 1 (.t 193) (.c (.int .i64 (3)))⟩, 12, [10]⟩,
       ⟨⟨(some 195), none, .load none (.t 194)⟩, 13, [10, 11]⟩,
       ⟨⟨(some 196), none, .mv (.t 17)⟩, 14, []⟩,
       ⟨⟨(some 197), none, .bin .add (.t 195) (.t 196)⟩, 15, [10, 11, 12, 13]⟩,
       ⟨⟨(some 199), none, .mv (.t 14)⟩, 17, []⟩,
       ⟨⟨(some 200), none, .mv (.t 11)⟩, 18, []⟩,
       ⟨⟨(some 201), none, .idxSl 1 (.t 200) (.c (.int .i64 (5)))⟩, 19, [16]⟩,
       ⟨⟨(some 202), none, .load none (.t 201)⟩, 20, [16, 17]⟩,
       ⟨⟨(some 203), none, .mv (.t 11)⟩, 21, []⟩,
       ⟨⟨(some 204), none, .idxSl 1 (.t 203) (.c (.int .i64 (6)))⟩, 22, [19]⟩,
       ⟨⟨(some 205), none, .load none (.t 204)⟩, 23, [19, 20]⟩,
       ⟨⟨(some 185), none, .call (.c (.func (.func 58) [] [])) [(.t 184)]⟩, 3, [0, 1, 2]⟩,
       ⟨⟨(some 198), none, .call (.c (.func (.func 58) [] [])) [(.t 197)]⟩, 16, [0, 1, 2, 10, 11, 12, 13, 14, 22]⟩,
       ⟨⟨(some 206), none, .buildSl none [(.int .i64 (0)), (.int .i64 (0)), (.int .i64 (0)), (.int .i64 (0)), (.int .i64 (0)), (.int .i64 (0)), (.int .i64 (0)), (.int .i64 (0))] 8 [(0, 1, (.t 185)), (1, 1, (.t 186)), (2, 1, (.t 189)), (3, 1, (.t 192)), (4, 1, (.t 198)), (5, 1, (.t 199)), (6, 1, (.t 202)), (7, 1, (.t 205))]⟩, 24, [0, 1, 2, 3, 4, 5, 6, 7, 8, 9, 10, 11, 12, 13, 14, 15, 16, 17, 18, 19, 20, 21, 22, 23]⟩,
       ⟨⟨(some 11), none, .mv (.t 206)⟩, 25, [0, 1, 2, 3, 4, 5, 6, 7, 8, 9, 10, 11, 12, 13, 14, 15, 16, 17, 18, 19, 20, 21, 22, 23, 24]⟩])))))))
    (.ops [⟨(some 107), none, .mv (.t 12)⟩,
      ⟨(some 108), none, .bin .add (.t 107) (.c (.int .i64 (1)))⟩,
      ⟨(some 12), none, .mv (.t 108)⟩]))))))
  (.seq (.ops [⟨(some 19), none, .mv (.c (.slice none 0 0))⟩])
  (.seq (.seq (.ops [⟨(some 20), none, .mv (.c (.int .i64 (0)))⟩])
  (.block 4 (.loop (.seq (.seq (.ops [⟨(some 207), none, .mv (.t 20)⟩,
      ⟨(some 208), none, .bin .lss (.t 207) (.c (.int .i64 (8)))⟩])
    (.cond (.t 208)
     (.skip)
     (.exit 4)))
    (.seq (.block 5 (.draw [⟨⟨(some 211), none, .mv (.t 19)⟩, 0, []⟩,
       ⟨⟨(some 212), none, .mv (.t 0)⟩, 1, []⟩,
       ⟨⟨(some 213), none, .mv (.t 20)⟩, 2, []⟩,
       ⟨⟨(some 214), none, .idxSl 1 (.t 212) (.t 213)⟩, 3, [1, 2]⟩,
       ⟨⟨(some 215), none, .load none (.t 214)⟩, 4, [1, 2, 3]⟩,
       ⟨⟨(some 216), none, .mv (.t 11)⟩, 5, []⟩,
       ⟨⟨(some 217), none, .mv (.t 20)⟩, 6, []⟩,
       ⟨⟨(some 218), none, .idxSl 1 (.t 216) (.t 217)⟩, 7, [5, 6]⟩,
       ⟨⟨(some 219), none, .load none (.t 218)⟩, 8, [5, 6, 7]⟩,
       ⟨⟨(some 220), none, .bin .add (.t 215) (.t 219)⟩, 9, [1, 2, 3, 4, 5, 6, 7, 8]⟩,
       ⟨⟨(some 221), none, .call (.c (.func (.func 58) [] [])) [(.t 220)]⟩, 10, [1, 2, 3, 4, 5, 6, 7, 8, 9]⟩,
       ⟨⟨(some 222), none, .buildSl none [(.int .i64 (0))] 1 [(0, 1, (.t 221))]⟩, 11, [1, 2, 3, 4, 5, 6, 7, 8, 9, 10]⟩,
       ⟨⟨(some 223), none, .append 1 8 none (.t 211) (.t 222)⟩, 12, [0, 1, 2, 3, 4, 5, 6, 7, 8, 9, 10, 11]⟩,
       ⟨⟨(some 19), none, .mv (.t 223)⟩, 13, [0, 1, 2, 3, 4, 5, 6, 7, 8, 9, 10, 11, 12]⟩]))
    (.ops [⟨(some 209), none, .mv (.t 20)⟩,
      ⟨(some 210), none, .bin .add (.t 209) (.c (.int .i64 (1)))⟩,
      ⟨(some 20), none, .mv (.t 210)⟩]))))))
  (.seq (.ops [⟨(some 224), none, .mv (.t 19)⟩,
    ⟨(some 6), none, .mv (.t 224)⟩])
  (.ret)))))))))⟩
theorem a35_ok : funcC Tryd.prog Tryd.f35 = some a35 := by kernel_rfl
/-- permafrost/fixed.Read -/
def a36 : AFunc := ⟨1, [.tmp 2],
  .seq (.ops [⟨(some 2), none, .mv (.c (.ptr none))⟩])
  (.seq (.ops [⟨(some 3), none, .mv (.t 0)⟩,
    ⟨(some 4), none, .build [(.str []), (.int .i64 (0))] [(0, 1, (.t 3))]⟩,
    ⟨(some 5), none, .box (.t 4)⟩,
    ⟨(some 2), none, .mv (.t 5)⟩])
  (.ret))⟩
theorem a36_ok : funcC Tryd.prog Tryd.f36 = some a36 := by kernel_rfl
/-- (*permafrost/fixed.Reader).Bytes -/
def a37 : AFunc := ⟨2, [.tmp 4],
  .seq (.ops [⟨(some 4), none, .mv (.c (.str []))⟩])
  (.seq (.seq (.ops [⟨(some 6), none, .mv (.t 0)⟩,
    ⟨(some 7), none, .eq false (.flat .ptr) (.t 6) (.c (.ptr none))⟩])
  (.cond (.t 7)
   (.seq (.ops [⟨(some 4), none, .mv (.c (.str []))⟩])
   (.ret))
   (.skip)))
  (.seq (.ops [⟨(some 5), none, .mv (.c (.int .i64 (0)))⟩])
  (.seq (.seq (.ops [⟨(some 8), none, .mv (.t 1)⟩,
    ⟨(some 9), none, .bin .lss (.t 8) (.c (.int .i64 (0)))⟩])
  (.cond (.t 9)
   (.ops [⟨(some 5), none, .mv (.c (.int .i64 (1)))⟩])
   (.skip)))
  (.seq (.ops [⟨(some 10), none, .mv (.t 0)⟩,
    ⟨(some 11), none, .mv (.t 1)⟩,
    ⟨(some 12), none, .mv (.t 5)⟩,
    ⟨(some 13), none, .call (.c (.func (.func 60) [] [])) [(.t 10), (.t 11), (.t 12)]⟩,
    ⟨(some 4), none, .mv (.t 13)⟩])
  (.ret)))))⟩
theorem a37_ok : funcC Tryd.prog Tryd.f37 = some a37 := by kernel_rfl
/-- (*permafrost/fixed.Reader).Number -/
def a38 : AFunc := ⟨2, [.tmp 4],
  .seq (.ops [⟨(some 4), none, .mv (.c (.int .i64 (0)))⟩])
  (.seq (.seq (.ops [⟨(some 9), none, .mv (.t 0)⟩,
    ⟨(some 10), none, .eq false (.flat .ptr) (.t 9) (.c (.ptr none))⟩])
  (.cond (.t 10)
   (.seq (.ops [⟨(some 4), none, .mv (.c (.int .i64 (0)))⟩])
   (.ret))
   (.skip)))
  (.seq (.ops [⟨(some 5), none, .mv (.c (.int .i64 (0)))⟩])
  (.seq (.seq (.ops [⟨(some 11), none, .mv (.t 1)⟩,
    ⟨(some 12), none, .call (.c (.func (.func 49) [] [])) [(.t 11)]⟩,
    ⟨(some 13), none, .bin .lss (.t 12) (.c (.int .i64 (0)))⟩])
  (.cond (.t 13)
   (.ops [⟨(some 5), none, .mv (.c (.int .i64 (1)))⟩])
   (.skip)))
  (.seq (.ops [⟨(some 14), none, .mv (.t 0)⟩,
    ⟨(some 15), none, .mv (.t 1)⟩,
    ⟨(some 16), none, .mv (.t 5)⟩,
    ⟨(some 17), none, .call (.c (.func (.func 60) [] [])) [(.t 14), (.t 15), (.t 16)]⟩,
    ⟨(some 6), none, .mv (.t 17)⟩])
  (.seq (.ops [⟨(some 7), none, .mv (.c (.int .i64 (0)))⟩])
  (.seq (.seq (.ops [⟨(some 18), none, .mv (.t 6)⟩,
    ⟨(some 19), none, .lenStr (.t 18)⟩,
    ⟨(some 20), none, .mv (.c (.int .i64 (0)))⟩])
  (.block 0 (.loop (.seq (.ops [⟨(some 21), none, .bin .lss (.t 20) (.t 19)⟩])
    (.seq (.cond (.t 21)
     (.skip)
     (.exit 0))
    (.seq (.block 1 (.seq (.ops [⟨(some 22), none, .mv (.t 20)⟩,
       ⟨(some 8), none, .mv (.t 22)⟩])
     (.ops [⟨(some 23), none, .mv (.t 7)⟩,
       ⟨(some 24), none, .mv (.t 6)⟩,
       ⟨(some 25), none, .mv (.t 8)⟩,
       ⟨(some 26), none, .atStr (.t 24) (.t 25)⟩,
       ⟨(some 27), none, .toInt .i64 (.t 26)⟩,
       ⟨(some 28), none, .mv (.t 8)⟩,
       ⟨(some 29), none, .bin .mul (.c (.int .i64 (8))) (.t 28)⟩,
       ⟨(some 30), none, .bin .shl (.t 27) (.t 29)⟩,
       ⟨(some 31), none, .bin .or (.t 23) (.t 30)⟩,
       ⟨(some 7), none, .mv (.t 31)⟩])))
    (.ops [⟨(some 32), none, .bin .add (.t 20) (.c (.int .i64 (1)))⟩,
      ⟨(some 20), none, .mv (.t 32)⟩])))))))
  (.seq (.ops [⟨(some 33), none, .mv (.t 7)⟩,
    ⟨(some 4), none, .mv (.t 33)⟩])
  (.ret))))))))⟩
theorem a38_ok : funcC Tryd.prog Tryd.f38 = some a38 := by kernel_rfl
/-- (*permafrost/fixed.Reader).Text -/
def a39 : AFunc := ⟨2, [.tmp 4],
  .seq (.ops [⟨(some 4), none, .mv (.c (.str []))⟩])
  (.seq (.ops [⟨(some 5), none, .mv (.t 0)⟩,
    ⟨(some 6), none, .mv (.t 0)⟩,
    ⟨(some 7), none, .mv (.t 1)⟩,
    ⟨(some 8), none, .call (.c (.func (.func 38) [] [])) [(.t 6), (.t 7)]⟩,
    ⟨(some 9), none, .call (.c (.func (.func 37) [] [])) [(.t 5), (.t 8)]⟩,
    ⟨(some 4), none, .mv (.t 9)⟩])
  (.ret))⟩
theorem a39_ok : funcC Tryd.prog Tryd.f39 = some a39 := by kernel_rfl
/-- (*permafrost/fixed.Reader).End -/
def a40 : AFunc := ⟨1, [.tmp 2],
  .seq (.ops [⟨(some 2), none, .mv (.c (.int .i64 (0)))⟩])
  (.seq (.block 0 (.seq (.ops [⟨(some 4), none, .mv (.t 0)⟩,
     ⟨(some 5), none, .eq false (.flat .ptr) (.t 4) (.c (.ptr none))⟩,
     ⟨(some 3), none, .mv (.t 5)⟩])
   (.cond (.t 3)
    (.seq (.ops [⟨(some 2), none, .mv (.c (.int .i64 (1)))⟩])
    (.ret))
    (.seq (.ops [⟨(some 7), none, .mv (.t 0)⟩,
      ⟨(some 8), none, .nilck (.t 7)⟩,
      ⟨(some 9), none, .fieldAddr 1 (.t 8)⟩,
      ⟨(some 10), none, .load none (.t 9)⟩,
      ⟨(some 11), none, .bin .eql (.t 10) (.c (.int .i64 (0)))⟩,
      ⟨(some 12), none, .mv (.t 11)⟩,
      ⟨(some 13), (some (12, true)), .mv (.t 0)⟩,
      ⟨(some 14), (some (12, true)), .nilck (.t 13)⟩,
      ⟨(some 15), (some (12, true)), .fieldAddr 0 (.t 14)⟩,
      ⟨(some 16), (some (12, true)), .load none (.t 15)⟩,
      ⟨(some 17), (some (12, true)), .bin .neq (.t 16) (.c (.str []))⟩,
      ⟨(some 18), none, .pick (.t 12) (.t 17) (.c (.bool false))⟩,
      ⟨(some 6), none, .mv (.t 18)⟩])
    (.cond (.t 6)
     (.seq (.ops [⟨(some 2), none, .mv (.c (.int .i64 (3)))⟩])
     (.ret))
     (.skip))))))
  (.seq (.ops [⟨(some 19), none, .mv (.t 0)⟩,
    ⟨(some 20), none, .nilck (.t 19)⟩,
    ⟨(some 21), none, .fieldAddr 1 (.t 20)⟩,
    ⟨(some 22), none, .load none (.t 21)⟩,
    ⟨(some 2), none, .mv (.t 22)⟩])
  (.ret)))⟩
theorem a40_ok : funcC Tryd.prog Tryd.f40 = some a40 := by kernel_rfl
/-- (*permafrost/permafrostref01.Reader).Number -/
def a41 : AFunc := ⟨2, [.tmp 4],
  .seq (.ops [⟨(some 4), none, .mv (.c (.int .i64 (0)))⟩])
  (.seq (.seq (.ops [⟨(some 8), none, .mv (.t 0)⟩,
    ⟨(some 9), none, .nilck (.t 8)⟩,
    ⟨(some 10), none, .fieldAddr 1 (.t 9)⟩,
    ⟨(some 11), none, .load none (.t 10)⟩,
    ⟨(some 12), none, .bin .neq (.t 11) (.c (.int .i64 (0)))⟩])
  (.cond (.t 12)
   (.seq (.ops [⟨(some 4), none, .mv (.c (.int .i64 (0)))⟩])
   (.ret))
   (.skip)))
  (.seq (.seq (.ops [⟨(some 13), none, .mv (.t 1)⟩,
    ⟨(some 14), none, .call (.c (.func (.func 53) [] [])) [(.t 13)]⟩,
    ⟨(some 15), none, .bin .lss (.t 14) (.c (.int .i64 (0)))⟩])
  (.cond (.t 15)
   (.seq (.ops [⟨(some 16), none, .mv (.t 0)⟩,
     ⟨(some 17), none, .nilck (.t 16)⟩,
     ⟨(some 18), none, .fieldAddr 1 (.t 17)⟩,
     ⟨none, none, .store 1 (.t 18) (.c (.int .i64 (1)))⟩])
   (.seq (.ops [⟨(some 4), none, .mv (.c (.int .i64 (0)))⟩])
   (.ret)))
   (.skip)))
  (.seq (.ops [⟨(some 19), none, .mv (.t 0)⟩,
    ⟨(some 20), none, .mv (.t 1)⟩,
    ⟨(some 21), none, .call (.c (.func (.func 43) [] [])) [(.t 19), (.t 20)]⟩,
    ⟨(some 5), none, .mv (.t 21)⟩])
  (.seq (.ops [⟨(some 6), none, .mv (.c (.int .i64 (0)))⟩])
  (.seq (.seq (.ops [⟨(some 22), none, .mv (.t 5)⟩,
    ⟨(some 23), none, .lenStr (.t 22)⟩,
    ⟨(some 24), none, .bin .sub (.t 23) (.c (.int .i64 (1)))⟩,
    ⟨(some 7), none, .mv (.t 24)⟩])
  (.block 0 (.loop (.seq (.seq (.ops [⟨(some 25), none, .mv (.t 7)⟩,
      ⟨(some 26), none, .bin .geq (.t 25) (.c (.int .i64 (0)))⟩])
    (.cond (.t 26)
     (.skip)
     (.exit 0)))
    (.seq (.block 1 (.ops [⟨(some 29), none, .mv (.t 6)⟩,
       ⟨(some 30), none, .bin .mul (.c (.int .i64 (256))) (.t 29)⟩,
       ⟨(some 31), none, .mv (.t 5)⟩,
       ⟨(some 32), none, .mv (.t 7)⟩,
       ⟨(some 33), none, .atStr (.t 31) (.t 32)⟩,
       ⟨(some 34), none, .toInt .i64 (.t 33)⟩,
       ⟨(some 35), none, .bin .add (.t 30) (.t 34)⟩,
       ⟨(some 6), none, .mv (.t 35)⟩]))
    (.ops [⟨(some 27), none, .mv (.t 7)⟩,
      ⟨(some 28), none, .bin .sub (.t 27) (.c (.int .i64 (1)))⟩,
      ⟨(some 7), none, .mv (.t 28)⟩]))))))
  (.seq (.ops [⟨(some 36), none, .mv (.t 6)⟩,
    ⟨(some 4), none, .mv (.t 36)⟩])
  (.ret)))))))⟩
theorem a41_ok : funcC Tryd.prog Tryd.f41 = some a41 := by kernel_rfl
/-- (*permafrost/permafrostref01.Reader).Text -/
def a42 : AFunc := ⟨2, [.tmp 4],
  .seq (.ops [⟨(some 4), none, .mv (.c (.str []))⟩])
  (.seq (.ops [⟨(some 6), none, .mv (.t 0)⟩,
    ⟨(some 7), none, .mv (.t 1)⟩,
    ⟨(some 8), none, .call (.c (.func (.func 41) [] [])) [(.t 6), (.t 7)]⟩,
    ⟨(some 5), none, .mv (.t 8)⟩])
  (.seq (.ops [⟨(some 9), none, .mv (.t 0)⟩,
    ⟨(some 10), none, .mv (.t 5)⟩,
    ⟨(some 11), none, .call (.c (.func (.func 43) [] [])) [(.t 9), (.t 10)]⟩,
    ⟨(some 4), none, .mv (.t 11)⟩])
  (.ret)))⟩
theorem a42_ok : funcC Tryd.prog Tryd.f42 = some a42 := by kernel_rfl
/-- (*permafrost/permafrostref01.Reader).Bytes -/
def a43 : AFunc := ⟨2, [.tmp 4],
  .seq (.ops [⟨(some 4), none, .mv (.c (.str []))⟩])
  (.seq (.seq (.ops [⟨(some 6), none, .mv (.t 0)⟩,
    ⟨(some 7), none, .nilck (.t 6)⟩,
    ⟨(some 8), none, .fieldAddr 1 (.t 7)⟩,
    ⟨(some 9), none, .load none (.t 8)⟩,
    ⟨(some 10), none, .bin .neq (.t 9) (.c (.int .i64 (0)))⟩])
  (.cond (.t 10)
   (.seq (.ops [⟨(some 4), none, .mv (.c (.str []))⟩])
   (.ret))
   (.skip)))
  (.seq (.seq (.ops [⟨(some 11), none, .mv (.t 1)⟩,
    ⟨(some 12), none, .bin .lss (.t 11) (.c (.int .i64 (0)))⟩])
  (.cond (.t 12)
   (.seq (.ops [⟨(some 13), none, .mv (.t 0)⟩,
     ⟨(some 14), none, .nilck (.t 13)⟩,
     ⟨(some 15), none, .fieldAddr 1 (.t 14)⟩,
     ⟨none, none, .store 1 (.t 15) (.c (.int .i64 (1)))⟩])
   (.seq (.ops [⟨(some 4), none, .mv (.c (.str []))⟩])
   (.ret)))
   (.skip)))
  (.seq (.seq (.ops [⟨(some 16), none, .mv (.t 1)⟩,
    ⟨(some 17), none, .mv (.t 0)⟩,
    ⟨(some 18), none, .nilck (.t 17)⟩,
    ⟨(some 19), none, .fieldAddr 0 (.t 18)⟩,
    ⟨(some 20), none, .load none (.t 19)⟩,
    ⟨(some 21), none, .lenStr (.t 20)⟩,
    ⟨(some 22), none, .bin .gtr (.t 16) (.t 21)⟩])
  (.cond (.t 22)
   (.seq (.ops [⟨(some 23), none, .mv (.t 0)⟩,
     ⟨(some 24), none, .nilck (.t 23)⟩,
     ⟨(some 25), none, .fieldAddr 1 (.t 24)⟩,
     ⟨none, none, .store 1 (.t 25) (.c (.int .i64 (2)))⟩])
   (.seq (.ops [⟨(some 4), none, .mv (.c (.str []))⟩])
   (.ret)))
   (.skip)))
  (.seq (.ops [⟨(some 26), none, .mv (.t 0)⟩,
    ⟨(some 27), none, .nilck (.t 26)⟩,
    ⟨(some 28), none, .fieldAddr 0 (.t 27)⟩,
    ⟨(some 29), none, .load none (.t 28)⟩,
    ⟨(some 30), none, .mv (.t 1)⟩,
    ⟨(some 31), none, .sliceStr (.t 29) none (some (.t 30))⟩,
    ⟨(some 5), none, .mv (.t 31)⟩])
  (.seq (.ops [⟨(some 32), none, .mv (.t 0)⟩,
    ⟨(some 33), none, .mv (.t 0)⟩,
    ⟨(some 34), none, .nilck (.t 33)⟩,
    ⟨(some 35), none, .fieldAddr 0 (.t 34)⟩,
    ⟨(some 36), none, .load none (.t 35)⟩,
    ⟨(some 37), none, .mv (.t 1)⟩,
    ⟨(some 38), none, .sliceStr (.t 36) (some (.t 37)) none⟩,
    ⟨(some 39), none, .nilck (.t 32)⟩,
    ⟨(some 40), none, .fieldAddr 0 (.t 39)⟩,
    ⟨none, none, .store 1 (.t 40) (.t 38)⟩])
  (.seq (.ops [⟨(some 41), none, .mv (.t 5)⟩,
    ⟨(some 4), none, .mv (.t 41)⟩])
  (.ret)))))))⟩
theorem a43_ok : funcC Tryd.prog Tryd.f43 = some a43 := by kernel_rfl
/-- (*permafrost/permafrostref01.Reader).End -/
def a44 : AFunc := ⟨1, [.tmp 2],
  .seq (.ops [⟨(some 2), none, .mv (.c (.int .i64 (0)))⟩])
  (.seq (.seq (.ops [⟨(some 3), none, .mv (.t 0)⟩,
    ⟨(some 4), none, .nilck (.t 3)⟩,
    ⟨(some 5), none, .fieldAddr 1 (.t 4)⟩,
    ⟨(some 6), none, .load none (.t 5)⟩,
    ⟨(some 7), none, .bin .eql (.t 6) (.c (.int .i64 (0)))⟩,
    ⟨(some 8), none, .mv (.t 7)⟩,
    ⟨(some 9), (some (8, true)), .mv (.t 0)⟩,
    ⟨(some 10), (some (8, true)), .nilck (.t 9)⟩,
    ⟨(some 11), (some (8, true)), .fieldAddr 0 (.t 10)⟩,
    ⟨(some 12), (some (8, true)), .load none (.t 11)⟩,
    ⟨(some 13), (some (8, true)), .bin .neq (.t 12) (.c (.str []))⟩,
    ⟨(some 14), none, .pick (.t 8) (.t 13) (.c (.bool false))⟩])
  (.cond (.t 14)
   (.seq (.ops [⟨(some 2), none, .mv (.c (.int .i64 (3)))⟩])
   (.ret))
   (.skip)))
  (.seq (.ops [⟨(some 15), none, .mv (.t 0)⟩,
    ⟨(some 16), none, .nilck (.t 15)⟩,
    ⟨(some 17), none, .fieldAddr 1 (.t 16)⟩,
    ⟨(some 18), none, .load none (.t 17)⟩,
    ⟨(some 2), none, .mv (.t 18)⟩])
  (.ret)))⟩
theorem a44_ok : funcC Tryd.prog Tryd.f44 = some a44 := by kernel_rfl
/-- permafrost/permafrostref13.newest -/
def a47 : AFunc := ⟨2, [.cell 4 (some 4), .tmp 5],
  .seq (.ops [⟨(some 4), none, .alloc none [(.str []), (.str []), (.int .i64 (0)), (.int .i64 (0))]⟩,
    ⟨(some 5), none, .mv (.c (.bool false))⟩])
  (.seq (.ops [⟨(some 6), none, .mv (.c (.int .i64 (-1)))⟩])
  (.seq (.ops [⟨(some 10), none, .build [(.str []), (.str []), (.int .i64 (0)), (.int .i64 (0))] []⟩,
    ⟨(some 7), none, .alloc none [(.str []), (.str []), (.int .i64 (0)), (.int .i64 (0))]⟩,
    ⟨none, none, .store 4 (.t 7) (.t 10)⟩])
  (.seq (.seq (.ops [⟨(some 8), none, .mv (.c (.int .i64 (0)))⟩])
  (.block 0 (.loop (.seq (.seq (.ops [⟨(some 11), none, .mv (.t 8)⟩,
      ⟨(some 12), none, .mv (.t 0)⟩,
      ⟨(some 13), none, .lenSl (.t 12)⟩,
      ⟨(some 14), none, .bin .lss (.t 11) (.t 13)⟩])
    (.cond (.t 14)
     (.skip)
     (.exit 0)))
    (.seq (.block 1 (.seq (.ops [⟨(some 9), none, .mv (.c (.int .i64 (0)))⟩])
     (.block 2 (.loop (.seq (.seq (.ops [⟨(some 17), none, .mv (.t 9)⟩,
         ⟨(some 18), none, .mv (.t 0)⟩,
         ⟨(some 19), none, .mv (.t 8)⟩,
         ⟨(some 20), none, .idxSl 2 (.t 18) (.t 19)⟩,
         ⟨(some 21), none, .fieldAddr 1 (.t 20)⟩,
         ⟨(some 22), none, .load none (.t 21)⟩,
         ⟨(some 23), none, .lenSl (.t 22)⟩,
         ⟨(some 24), none, .bin .lss (.t 17) (.t 23)⟩,
         ⟨(some 25), none, .mv (.t 24)⟩,
         ⟨(some 26), (some (25, true)), .mv (.t 0)⟩,
         ⟨(some 27), (some (25, true)), .mv (.t 8)⟩,
         ⟨(some 28), (some (25, true)), .idxSl 2 (.t 26) (.t 27)⟩,
         ⟨(some 29), (some (25, true)), .load (some 2) (.t 28)⟩,
         ⟨(some 30), (some (25, true)), .call (.c (.func (.func 14) [] [])) [(.t 29)]⟩,
         ⟨(some 31), (some (25, true)), .bin .eql (.t 30) (.c (.int .i64 (0)))⟩,
         ⟨(some 32), none, .pick (.t 25) (.t 31) (.c (.bool false))⟩])
       (.cond (.t 32)
        (.skip)
        (.exit 2)))
       (.seq (.block 3 (.seq (.ops [⟨(some 35), none, .mv (.t 0)⟩,
          ⟨(some 36), none, .mv (.t 8)⟩,
          ⟨(some 37), none, .idxSl 2 (.t 35) (.t 36)⟩,
          ⟨(some 38), none, .fieldAddr 1 (.t 37)⟩,
          ⟨(some 39), none, .load none (.t 38)⟩,
          ⟨(some 40), none, .mv (.t 9)⟩,
          ⟨(some 41), none, .idxSl 4 (.t 39) (.t 40)⟩,
          ⟨(some 42), none, .fieldAddr 3 (.t 41)⟩,
          ⟨(some 43), none, .load none (.t 42)⟩,
          ⟨(some 44), none, .mv (.t 1)⟩,
          ⟨(some 45), none, .bin .eql (.t 43) (.t 44)⟩,
          ⟨(some 46), none, .mv (.t 45)⟩,
          ⟨(some 47), (some (46, true)), .mv (.t 0)⟩,
          ⟨(some 48), (some (46, true)), .mv (.t 8)⟩,
          ⟨(some 49), (some (46, true)), .idxSl 2 (.t 47) (.t 48)⟩,
          ⟨(some 50), (some (46, true)), .fieldAddr 0 (.t 49)⟩,
          ⟨(some 51), (some (46, true)), .load none (.t 50)⟩,
          ⟨(some 52), (some (46, true)), .mv (.t 6)⟩,
          ⟨(some 53), (some (46, true)), .bin .geq (.t 51) (.t 52)⟩,
          ⟨(some 54), none, .pick (.t 46) (.t 53) (.c (.bool false))⟩])
        (.cond (.t 54)
         (.seq (.ops [⟨(some 55), none, .mv (.t 0)⟩,
           ⟨(some 56), none, .mv (.t 8)⟩,
           ⟨(some 57), none, .idxSl 2 (.t 55) (.t 56)⟩,
           ⟨(some 58), none, .fieldAddr 0 (.t 57)⟩,
           ⟨(some 59), none, .load none (.t 58)⟩,
           ⟨(some 6), none, .mv (.t 59)⟩])
         (.ops [⟨(some 60), none, .mv (.t 0)⟩,
           ⟨(some 61), none, .mv (.t 8)⟩,
           ⟨(some 62), none, .idxSl 2 (.t 60) (.t 61)⟩,
           ⟨(some 63), none, .fieldAddr 1 (.t 62)⟩,
           ⟨(some 64), none, .load none (.t 63)⟩,
           ⟨(some 65), none, .mv (.t 9)⟩,
           ⟨(some 66), none, .idxSl 4 (.t 64) (.t 65)⟩,
           ⟨(some 67), none, .load (some 4) (.t 66)⟩,
           ⟨none, none, .store 4 (.t 7) (.t 67)⟩]))
         (.skip))))
       (.ops [⟨(some 33), none, .mv (.t 9)⟩,
         ⟨(some 34), none, .bin .add (.t 33) (.c (.int .i64 (1)))⟩,
         ⟨(some 9), none, .mv (.t 34)⟩])))))))
    (.ops [⟨(some 15), none, .mv (.t 8)⟩,
      ⟨(some 16), none, .bin .add (.t 15) (.c (.int .i64 (1)))⟩,
      ⟨(some 8), none, .mv (.t 16)⟩]))))))
  (.seq (.ops [⟨(some 68), none, .load (some 4) (.t 7)⟩,
    ⟨(some 69), none, .mv (.t 6)⟩,
    ⟨(some 70), none, .bin .geq (.t 69) (.c (.int .i64 (0)))⟩,
    ⟨none, none, .store 4 (.t 4) (.t 68)⟩,
    ⟨(some 5), none, .mv (.t 70)⟩])
  (.ret)))))⟩
theorem a47_ok : funcC Tryd.prog Tryd.f47 = some a47 := by kernel_rfl
/-- (*strings.Builder).copyCheck -/
def a48 : AFunc := ⟨1, [],
  .seq (.ops [⟨(some 2), none, .mv (.t 0)⟩,
    ⟨(some 3), none, .nilck (.t 2)⟩,
    ⟨(some 4), none, .fieldAddr 0 (.t 3)⟩,
    ⟨(some 5), none, .load none (.t 4)⟩,
    ⟨(some 6), none, .eq false (.flat .ptr) (.t 5) (.c (.ptr none))⟩])
  (.cond (.t 6)
   (.ops [⟨(some 7), none, .mv (.t 0)⟩,
     ⟨(some 8), none, .mv (.t 0)⟩,
     ⟨(some 9), none, .unsP (.t 8)⟩,
     ⟨(some 10), none, .call (.c (.func (.func 64) [] [])) [(.t 9)]⟩,
     ⟨(some 11), none, .ofUns 57 2 (.t 10)⟩,
     ⟨(some 12), none, .nilck (.t 7)⟩,
     ⟨(some 13), none, .fieldAddr 0 (.t 12)⟩,
     ⟨none, none, .store 1 (.t 13) (.t 11)⟩])
   (.seq (.ops [⟨(some 14), none, .mv (.t 0)⟩,
     ⟨(some 15), none, .nilck (.t 14)⟩,
     ⟨(some 16), none, .fieldAddr 0 (.t 15)⟩,
     ⟨(some 17), none, .load none (.t 16)⟩,
     ⟨(some 18), none, .mv (.t 0)⟩,
     ⟨(some 19), none, .eq true (.flat .ptr) (.t 17) (.t 18)⟩])
   (.cond (.t 19)
    (.bad)
    (.skip))))⟩
theorem a48_ok : funcC Tryd.prog Tryd.f48 = some a48 := by kernel_rfl
/-- permafrost/fixed.Most -/
def a49 : AFunc := ⟨1, [.tmp 2],
  .seq (.ops [⟨(some 2), none, .mv (.c (.int .i64 (0)))⟩])
  (.seq (.seq (.ops [⟨(some 3), none, .mv (.t 0)⟩,
    ⟨(some 4), none, .bin .lss (.t 3) (.c (.int .i64 (1)))⟩,
    ⟨(some 5), none, .mv (.t 4)⟩,
    ⟨(some 6), (some (5, false)), .mv (.t 0)⟩,
    ⟨(some 7), (some (5, false)), .bin .gtr (.t 6) (.c (.int .i64 (7)))⟩,
    ⟨(some 8), none, .pick (.t 5) (.c (.bool true)) (.t 7)⟩])
  (.cond (.t 8)
   (.seq (.ops [⟨(some 2), none, .mv (.c (.int .i64 (-1)))⟩])
   (.ret))
   (.skip)))
  (.seq (.ops [⟨(some 9), none, .mv (.t 0)⟩,
    ⟨(some 10), none, .bin .mul (.c (.int .i64 (8))) (.t 9)⟩,
    ⟨(some 11), none, .bin .shl (.c (.int .i64 (1))) (.t 10)⟩,
    ⟨(some 12), none, .bin .sub (.t 11) (.c (.int .i64 (1)))⟩,
    ⟨(some 2), none, .mv (.t 12)⟩])
  (.ret)))⟩
theorem a49_ok : funcC Tryd.prog Tryd.f49 = some a49 := by kernel_rfl
/-- permafrost/sum.New -/
def a50 : AFunc := ⟨0, [.tmp 0],
  .seq (.ops [⟨(some 0), none, .mv (.c (.ptr none))⟩])
  (.seq (.ops [⟨(some 1), none, .call (.c (.func (.func 65) [] [])) []⟩,
    ⟨(some 2), none, .build [(.int .u32 (0)), (.int .u32 (0)), (.int .u32 (0)), (.int .u32 (0)), (.int .u32 (0)), (.int .u32 (0)), (.int .u32 (0)), (.int .u32 (0)), (.str []), (.int .i64 (0))] [(0, 8, (.t 1))]⟩,
    ⟨(some 3), none, .box (.t 2)⟩,
    ⟨(some 0), none, .mv (.t 3)⟩])
  (.ret))⟩
theorem a50_ok : funcC Tryd.prog Tryd.f50 = some a50 := by kernel_rfl
/-- (*permafrost/sum.Writer).Write -/
def a51 : AFunc := ⟨2, [],
  .seq (.seq (.ops [⟨(some 4), none, .mv (.t 0)⟩,
    ⟨(some 5), none, .eq false (.flat .ptr) (.t 4) (.c (.ptr none))⟩])
  (.cond (.t 5)
   (.ret)
   (.skip)))
  (.seq (.ops [⟨(some 6), none, .mv (.t 0)⟩,
    ⟨(some 7), none, .nilck (.t 6)⟩,
    ⟨(some 8), none, .fieldAddr 9 (.t 7)⟩,
    ⟨(some 9), none, .load none (.t 8)⟩,
    ⟨(some 10), none, .mv (.t 1)⟩,
    ⟨(some 11), none, .lenStr (.t 10)⟩,
    ⟨(some 12), none, .bin .add (.t 9) (.t 11)⟩,
    ⟨(some 13), none, .nilck (.t 6)⟩,
    ⟨(some 14), none, .fieldAddr 9 (.t 13)⟩,
    ⟨none, none, .store 1 (.t 14) (.t 12)⟩])
  (.seq (.ops [⟨(some 15), none, .mv (.t 0)⟩,
    ⟨(some 16), none, .nilck (.t 15)⟩,
    ⟨(some 17), none, .fieldAddr 8 (.t 16)⟩,
    ⟨(some 18), none, .load none (.t 17)⟩,
    ⟨(some 19), none, .mv (.t 1)⟩,
    ⟨(some 20), none, .bin .add (.t 18) (.t 19)⟩,
    ⟨(some 1), none, .mv (.t 20)⟩])
  (.seq (.block 0 (.loop (.seq (.seq (.ops [⟨(some 21), none, .mv (.t 1)⟩,
      ⟨(some 22), none, .lenStr (.t 21)⟩,
      ⟨(some 23), none, .bin .geq (.t 22) (.c (.int .i64 (64)))⟩])
    (.cond (.t 23)
     (.skip)
     (.exit 0)))
    (.block 1 (.draw [⟨⟨(some 24), none, .mv (.t 0)⟩, 0, []⟩,
       ⟨⟨(some 25), none, .mv (.t 0)⟩, 1, []⟩,
       ⟨⟨(some 26), none, .nilck (.t 25)⟩, 2, [1]⟩,
       ⟨⟨(some 27), none, .fieldAddr 0 (.t 26)⟩, 3, [1, 2]⟩,
       ⟨⟨(some 28), none, .load (some 8) (.t 27)⟩, 4, [1, 2, 3]⟩,
       ⟨⟨(some 29), none, .mv (.t 1)⟩, 5, []⟩,
       ⟨⟨(some 30), none, .sliceStr (.t 29) none (some (.c (.int .i64 (64))))⟩, 6, [5]⟩,
       ⟨⟨(some 32), none, .mv (.t 1)⟩, 8, []⟩,
       ⟨⟨(some 33), none, .sliceStr (.t 32) (some (.c (.int .i64 (64)))) none⟩, 9, [7]⟩,
       ⟨⟨(some 31), none, .call (.c (.func (.func 66) [] [])) [(.t 28), (.t 30)]⟩, 7, [1, 2, 3, 4, 5, 6]⟩,
       ⟨⟨(some 34), none, .nilck (.t 24)⟩, 10, [0, 1, 2, 3, 4, 5, 6, 9]⟩,
       ⟨⟨(some 35), none, .fieldAddr 0 (.t 34)⟩, 11, [0, 1, 2, 3, 4, 5, 6, 9, 10]⟩,
       ⟨⟨none, none, .store 8 (.t 35) (.t 31)⟩, 12, [0, 1, 2, 3, 4, 5, 6, 9, 10, 11]⟩,
       ⟨⟨(some 1), none, .mv (.t 33)⟩, 13, [0, 1, 2, 3, 4, 5, 6, 7, 8, 9, 10, 11, 12]⟩])))))
  (.ops [⟨(some 36), none, .mv (.t 0)⟩,
    ⟨(some 37), none, .mv (.t 1)⟩,
    ⟨(some 38), none, .nilck (.t 36)⟩,
    ⟨(some 39), none, .fieldAddr 8 (.t 38)⟩,
    ⟨none, none, .store 1 (.t 39) (.t 37)⟩]))))⟩
theorem a51_ok : funcC Tryd.prog Tryd.f51 = some a51 := by kernel_rfl
/-- (*permafrost/sum.Writer).Sum -/
def a52 : AFunc := ⟨1, [.tmp 2],
  .seq (.ops [⟨(some 2), none, .mv (.c (.str []))⟩])
  (.seq (.seq (.ops [⟨(some 9), none, .mv (.t 0)⟩,
    ⟨(some 10), none, .eq false (.flat .ptr) (.t 9) (.c (.ptr none))⟩])
  (.cond (.t 10)
   (.ops [⟨(some 11), none, .call (.c (.func (.func 50) [] [])) []⟩,
     ⟨(some 0), none, .mv (.t 11)⟩])
   (.skip)))
  (.seq (.ops [⟨(some 12), none, .mv (.t 0)⟩,
    ⟨(some 13), none, .nilck (.t 12)⟩,
    ⟨(some 14), none, .fieldAddr 8 (.t 13)⟩,
    ⟨(some 15), none, .load none (.t 14)⟩,
    ⟨(some 16), none, .lenStr (.t 15)⟩,
    ⟨(some 17), none, .bin .sub (.c (.int .i64 (119))) (.t 16)⟩,
    ⟨(some 18), none, .bin .rem (.t 17) (.c (.int .i64 (64)))⟩,
    ⟨(some 19), none, .call (.c (.func (.func 67) [] [])) [(.c (.str [0])), (.t 18)]⟩,
    ⟨(some 20), none, .bin .add (.c (.str [128])) (.t 19)⟩,
    ⟨(some 3), none, .mv (.t 20)⟩])
  (.seq (.seq (.ops [⟨(some 4), none, .mv (.c (.int .i64 (56)))⟩])
  (.block 0 (.loop (.seq (.seq (.ops [⟨(some 21), none, .mv (.t 4)⟩,
      ⟨(some 22), none, .bin .geq (.t 21) (.c (.int .i64 (0)))⟩])
    (.cond (.t 22)
     (.skip)
     (.exit 0)))
    (.seq (.block 1 (.ops [⟨(some 25), none, .mv (.t 3)⟩,
       ⟨(some 26), none, .mv (.t 0)⟩,
       ⟨(some 27), none, .nilck (.t 26)⟩,
       ⟨(some 28), none, .fieldAddr 9 (.t 27)⟩,
       ⟨(some 29), none, .load none (.t 28)⟩,
       ⟨(some 30), none, .bin .mul (.c (.int .i64 (8))) (.t 29)⟩,
       ⟨(some 31), none, .mv (.t 4)⟩,
       ⟨(some 32), none, .bin .shr (.t 30) (.t 31)⟩,
       ⟨(some 33), none, .toInt .u8 (.t 32)⟩,
       ⟨(some 34), none, .buildSl (some 5) [(.int .u8 (0))] 1 [(0, 1, (.t 33))]⟩,
       ⟨(some 35), none, .toStr (.t 34)⟩,
       ⟨(some 36), none, .bin .add (.t 25) (.t 35)⟩,
       ⟨(some 3), none, .mv (.t 36)⟩]))
    (.ops [⟨(some 23), none, .mv (.t 4)⟩,
      ⟨(some 24), none, .bin .sub (.t 23) (.c (.int .i64 (8)))⟩,
      ⟨(some 4), none, .mv (.t 24)⟩]))))))
  (.seq (.ops [⟨(some 37), none, .mv (.t 0)⟩,
    ⟨(some 38), none, .nilck (.t 37)⟩,
    ⟨(some 39), none, .load (some 10) (.t 38)⟩,
    ⟨(some 5), none, .alloc none [(.int .u32 (0)), (.int .u32 (0)), (.int .u32 (0)), (.int .u32 (0)), (.int .u32 (0)), (.int .u32 (0)), (.int .u32 (0)), (.int .u32 (0)), (.str []), (.int .i64 (0))]⟩,
    ⟨none, none, .store 10 (.t 5) (.t 39)⟩])
  (.seq (.ops [⟨(some 40), none, .mv (.t 3)⟩,
    ⟨(some 41), none, .call (.c (.func (.func 51) [] [])) [(.t 5), (.t 40)]⟩])
  (.seq (.ops [⟨(some 6), none, .alloc (some 57) [(.ptr none), (.slice none 0 0)]⟩])
  (.seq (.seq (.ops [⟨(some 42), none, .fieldAddr 0 (.t 5)⟩,
    ⟨(some 43), none, .load (some 8) (.t 42)⟩,
    ⟨(some 44), none, .mv (.c (.int .i64 (0)))⟩])
  (.block 2 (.loop (.seq (.ops [⟨(some 45), none, .bin .lss (.t 44) (.c (.int .i64 (8)))⟩])
    (.seq (.cond (.t 45)
     (.skip)
     (.exit 2))
    (.seq (.block 3 (.seq (.ops [⟨(some 46), none, .atArr 8 1 none (.t 43) (.t 44)⟩,
       ⟨(some 8), none, .mv (.t 46)⟩])
     (.ops [⟨(some 47), none, .mv (.t 8)⟩,
       ⟨(some 48), none, .bin .shr (.t 47) (.c (.int .u64 (24)))⟩,
       ⟨(some 49), none, .toInt .u8 (.t 48)⟩,
       ⟨(some 50), none, .mv (.t 8)⟩,
       ⟨(some 51), none, .bin .shr (.t 50) (.c (.int .u64 (16)))⟩,
       ⟨(some 52), none, .toInt .u8 (.t 51)⟩,
       ⟨(some 53), none, .mv (.t 8)⟩,
       ⟨(some 54), none, .bin .shr (.t 53) (.c (.int .u64 (8)))⟩,
       ⟨(some 55), none, .toInt .u8 (.t 54)⟩,
       ⟨(some 56), none, .mv (.t 8)⟩,
       ⟨(some 57), none, .toInt .u8 (.t 56)⟩,
       ⟨(some 58), none, .buildSl (some 5) [(.int .u8 (0)), (.int .u8 (0)), (.int .u8 (0)), (.int .u8 (0))] 4 [(0, 1, (.t 49)), (1, 1, (.t 52)), (2, 1, (.t 55)), (3, 1, (.t 57))]⟩,
       ⟨(some 59), none, .call (.c (.func (.func 68) [] [])) [(.t 6), (.t 58)]⟩])))
    (.ops [⟨(some 60), none, .bin .add (.t 44) (.c (.int .i64 (1)))⟩,
      ⟨(some 44), none, .mv (.t 60)⟩])))))))
  (.seq (.ops [⟨(some 61), none, .call (.c (.func (.func 25) [] [])) [(.t 6)]⟩,
    ⟨(some 2), none, .mv (.t 61)⟩])
  (.ret)))))))))⟩
theorem a52_ok : funcC Tryd.prog Tryd.f52 = some a52 := by kernel_rfl
/-- permafrost/permafrostref01.Most -/
def a53 : AFunc := ⟨1, [.tmp 2],
  .seq (.ops [⟨(some 2), none, .mv (.c (.int .i64 (0)))⟩])
  (.seq (.seq (.ops [⟨(some 5), none, .mv (.t 0)⟩,
    ⟨(some 6), none, .bin .lss (.t 5) (.c (.int .i64 (1)))⟩,
    ⟨(some 7), none, .mv (.t 6)⟩,
    ⟨(some 8), (some (7, false)), .mv (.t 0)⟩,
    ⟨(some 9), (some (7, false)), .bin .gtr (.t 8) (.c (.int .i64 (7)))⟩,
    ⟨(some 10), none, .pick (.t 7) (.c (.bool true)) (.t 9)⟩])
  (.cond (.t 10)
   (.seq (.ops [⟨(some 2), none, .mv (.c (.int .i64 (-1)))⟩])
   (.ret))
   (.skip)))
  (.seq (.ops [⟨(some 3), none, .mv (.c (.int .i64 (1)))⟩])
  (.seq (.seq (.ops [⟨(some 4), none, .mv (.c (.int .i64 (0)))⟩])
  (.block 0 (.loop (.seq (.seq (.ops [⟨(some 11), none, .mv (.t 4)⟩,
      ⟨(some 12), none, .mv (.t 0)⟩,
      ⟨(some 13), none, .bin .lss (.t 11) (.t 12)⟩])
    (.cond (.t 13)
     (.skip)
     (.exit 0)))
    (.seq (.block 1 (.ops [⟨(some 16), none, .mv (.t 3)⟩,
       ⟨(some 17), none, .bin .mul (.t 16) (.c (.int .i64 (256)))⟩,
       ⟨(some 3), none, .mv (.t 17)⟩]))
    (.ops [⟨(some 14), none, .mv (.t 4)⟩,
      ⟨(some 15), none, .bin .add (.t 14) (.c (.int .i64 (1)))⟩,
      ⟨(some 4), none, .mv (.t 15)⟩]))))))
  (.seq (.ops [⟨(some 18), none, .mv (.t 3)⟩,
    ⟨(some 19), none, .bin .sub (.t 18) (.c (.int .i64 (1)))⟩,
    ⟨(some 2), none, .mv (.t 19)⟩])
  (.ret)))))⟩
theorem a53_ok : funcC Tryd.prog Tryd.f53 = some a53 := by kernel_rfl
/-- slices.IndexFunc[[]permafrost/clog.Entry,permafrost/clog.Entry] -/
def a54 : AFunc := ⟨2, [.tmp 4],
  .seq (.ops [⟨(some 4), none, .mv (.c (.int .i64 (0)))⟩])
  (.seq (.seq (.ops [⟨(some 6), none, .mv (.t 0)⟩,
    ⟨(some 7), none, .lenSl (.t 6)⟩,
    ⟨(some 8), none, .mv (.c (.int .i64 (0)))⟩])
  (.block 0 (.loop (.seq (.ops [⟨(some 9), none, .bin .lss (.t 8) (.t 7)⟩])
    (.seq (.cond (.t 9)
     (.skip)
     (.exit 0))
    (.seq (.block 1 (.seq (.ops [⟨(some 10), none, .mv (.t 8)⟩,
       ⟨(some 5), none, .mv (.t 10)⟩])
     (.seq (.ops [⟨(some 11), none, .mv (.t 1)⟩,
       ⟨(some 12), none, .mv (.t 0)⟩,
       ⟨(some 13), none, .mv (.t 5)⟩,
       ⟨(some 14), none, .idxSl 4 (.t 12) (.t 13)⟩,
       ⟨(some 15), none, .load (some 4) (.t 14)⟩,
       ⟨(some 16), none, .call (.t 11) [(.t 15)]⟩])
     (.cond (.t 16)
      (.seq (.ops [⟨(some 17), none, .mv (.t 5)⟩,
        ⟨(some 4), none, .mv (.t 17)⟩])
      (.ret))
      (.skip)))))
    (.ops [⟨(some 18), none, .bin .add (.t 8) (.c (.int .i64 (1)))⟩,
      ⟨(some 8), none, .mv (.t 18)⟩])))))))
  (.seq (.ops [⟨(some 4), none, .mv (.c (.int .i64 (-1)))⟩])
  (.ret)))⟩
theorem a54_ok : funcC Tryd.prog Tryd.f54 = some a54 := by kernel_rfl
/-- permafrost/permafrostref02.digits -/
def a55 : AFunc := ⟨2, [.tmp 4],
  .seq (.ops [⟨(some 4), none, .mv (.c (.slice none 0 0))⟩])
  (.seq (.ops [⟨(some 5), none, .mv (.c (.slice none 0 0))⟩])
  (.seq (.seq (.ops [⟨(some 6), none, .mv (.c (.int .i64 (0)))⟩])
  (.block 0 (.loop (.seq (.seq (.ops [⟨(some 7), none, .mv (.t 6)⟩,
      ⟨(some 8), none, .mv (.t 1)⟩,
      ⟨(some 9), none, .bin .lss (.t 7) (.t 8)⟩])
    (.cond (.t 9)
     (.skip)
     (.exit 0)))
    (.seq (.block 1 (.seq (.ops [⟨(some 12), none, .mv (.t 5)⟩,
       ⟨(some 13), none, .mv (.t 0)⟩,
       ⟨(some 14), none, .bin .rem (.t 13) (.c (.int .i64 (65536)))⟩,
       ⟨(some 15), none, .buildSl none [(.int .i64 (0))] 1 [(0, 1, (.t 14))]⟩,
       ⟨(some 16), none, .append 1 8 none (.t 12) (.t 15)⟩,
       ⟨(some 5), none, .mv (.t 16)⟩])
     (.ops [⟨(some 17), none, .mv (.t 0)⟩,
       ⟨(some 18), none, .bin .quo (.t 17) (.c (.int .i64 (65536)))⟩,
       ⟨(some 0), none, .mv (.t 18)⟩])))
    (.ops [⟨(some 10), none, .mv (.t 6)⟩,
      ⟨(some 11), none, .bin .add (.t 10) (.c (.int .i64 (1)))⟩,
      ⟨(some 6), none, .mv (.t 11)⟩]))))))
  (.seq (.ops [⟨(some 19), none, .mv (.t 5)⟩,
    ⟨(some 4), none, .mv (.t 19)⟩])
  (.ret))))⟩
theorem a55_ok : funcC Tryd.prog Tryd.f55 = some a55 := by kernel_rfl
/-- permafrost/permafrostref02.times -/
def a56 : AFunc := ⟨2, [.tmp 4],
  .seq (.ops [⟨(some 4), none, .mv (.c (.slice none 0 0))⟩])
  (.seq (.ops [⟨(some 10), none, .mv (.t 0)⟩,
    ⟨(some 11), none, .lenSl (.t 10)⟩,
    ⟨(some 12), none, .mv (.t 1)⟩,
    ⟨(some 13), none, .lenSl (.t 12)⟩,
    ⟨(some 14), none, .bin .add (.t 11) (.t 13)⟩,
    ⟨(some 15), none, .makeSl 1 8 [(.int .i64 (0))] (.t 14) (.t 14)⟩,
    ⟨(some 5), none, .mv (.t 15)⟩])
  (.seq (.seq (.ops [⟨(some 6), none, .mv (.c (.int .i64 (0)))⟩])
  (.block 0 (.loop (.seq (.seq (.ops [⟨(some 16), none, .mv (.t 6)⟩,
      ⟨(some 17), none, .mv (.t 0)⟩,
      ⟨(some 18), none, .lenSl (.t 17)⟩,
      ⟨(some 19), none, .bin .lss (.t 16) (.t 18)⟩])
    (.cond (.t 19)
     (.skip)
     (.exit 0)))
    (.seq (.block 1 (.seq (.ops [⟨(some 7), none, .mv (.c (.int .i64 (0)))⟩])
     (.seq (.seq (.ops [⟨(some 8), none, .mv (.c (.int .i64 (0)))⟩])
     (.block 2 (.loop (.seq (.seq (.ops [⟨(some 22), none, .mv (.t 8)⟩,
         ⟨(some 23), none, .mv (.t 1)⟩,
         ⟨(some 24), none, .lenSl (.t 23)⟩,
         ⟨(some 25), none, .bin .lss (.t 22) (.t 24)⟩])
       (.cond (.t 25)
        (.skip)
        (.exit 2)))
       (.seq (.block 3 (.seq (.draw [⟨⟨(some 28), none, .mv (.t 5)⟩, 0, []⟩,
          ⟨⟨(some 29), none, .mv (.t 6)⟩, 1, []⟩,
          ⟨⟨(some 30), none, .mv (.t 8)⟩, 2, []⟩,
          ⟨⟨(some 31), none, .bin .add (.t 29) (.t 30)⟩, 3, [1, 2]⟩,
          ⟨⟨(some 32), none, .idxSl 1 (.t 28) (.t 31)⟩, 4, [0, 1, 2, 3]⟩,
          ⟨⟨(some 33), none, .load none (.t 32)⟩, 5, [0, 1, 2, 3, 4]⟩,
          ⟨⟨(some 34), none, .mv (.t 0)⟩, 6, []⟩,
          ⟨⟨(some 35), none, .mv (.t 6)⟩, 7, []⟩,
          ⟨⟨(some 36), none, .idxSl 1 (.t 34) (.t 35)⟩, 8, [6, 7]⟩,
          ⟨⟨(some 37), none, .load none (.t 36)⟩, 9, [6, 7, 8]⟩,
          ⟨⟨(some 38), none, .mv (.t 1)⟩, 10, []⟩,
          ⟨⟨(some 39), none, .mv (.t 8)⟩, 11, []⟩,
          ⟨⟨(some 40), none, .idxSl 1 (.t 38) (.t 39)⟩, 12, [10, 11]⟩,
          ⟨⟨(some 41), none, .load none (.t 40)⟩, 13, [10, 11, 12]⟩,
          ⟨⟨(some 42), none, .bin .mul (.t 37) (.t 41)⟩, 14, [6, 7, 8, 9, 10, 11, 12, 13]⟩,
          ⟨⟨(some 43), none, .bin .add (.t 33) (.t 42)⟩, 15, [0, 1, 2, 3, 4, 5, 6, 7, 8, 9, 10, 11, 12, 13, 14]⟩,
          ⟨⟨(some 44), none, .mv (.t 7)⟩, 16, []⟩,
          ⟨⟨(some 45), none, .bin .add (.t 43) (.t 44)⟩, 17, [0, 1, 2, 3, 4, 5, 6, 7, 8, 9, 10, 11, 12, 13, 14, 15, 16]⟩,
          ⟨⟨(some 9), none, .mv (.t 45)⟩, 18, [0, 1, 2, 3, 4, 5, 6, 7, 8, 9, 10, 11, 12, 13, 14, 15, 16, 17]⟩])
        (.seq (.ops [⟨(some 46), none, .mv (.t 5)⟩,
          ⟨(some 47), none, .mv (.t 6)⟩,
          ⟨(some 48), none, .mv (.t 8)⟩,
          ⟨(some 49), none, .bin .add (.t 47) (.t 48)⟩,
          ⟨(some 50), none, .mv (.t 9)⟩,
          ⟨(some 51), none, .bin .rem (.t 50) (.c (.int .i64 (65536)))⟩,
          ⟨(some 52), none, .idxSl 1 (.t 46) (.t 49)⟩,
          ⟨none, none, .store 1 (.t 52) (.t 51)⟩])
        (.ops [⟨(some 53), none, .mv (.t 9)⟩,
          ⟨(some 54), none, .bin .quo (.t 53) (.c (.int .i64 (65536)))⟩,
          ⟨(some 7), none, .mv (.t 54)⟩]))))
       (.ops [⟨(some 26), none, .mv (.t 8)⟩,
         ⟨(some 27), none, .bin .add (.t 26) (.c (.int .i64 (1)))⟩,
         ⟨(some 8), none, .mv (.t 27)⟩]))))))
     (.ops [⟨(some 55), none, .mv (.t 5)⟩,
       ⟨(some 56), none, .mv (.t 6)⟩,
       ⟨(some 57), none, .mv (.t 1)⟩,
       ⟨(some 58), none, .lenSl (.t 57)⟩,
       ⟨(some 59), none, .bin .add (.t 56) (.t 58)⟩,
       ⟨(some 60), none, .mv (.t 5)⟩,
       ⟨(some 61), none, .mv (.t 6)⟩,
       ⟨(some 62), none, .mv (.t 1)⟩,
       ⟨(some 63), none, .lenSl (.t 62)⟩,
       ⟨(some 64), none, .bin .add (.t 61) (.t 63)⟩,
       ⟨(some 65), none, .idxSl 1 (.t 60) (.t 64)⟩,
       ⟨(some 66), none, .load none (.t 65)⟩,
       ⟨(some 67), none, .mv (.t 7)⟩,
       ⟨(some 68), none, .bin .add (.t 66) (.t 67)⟩,
       ⟨(some 69), none, .idxSl 1 (.t 55) (.t 59)⟩,
       ⟨none, none, .store 1 (.t 69) (.t 68)⟩]))))
    (.ops [⟨(some 20), none, .mv (.t 6)⟩,
      ⟨(some 21), none, .bin .add (.t 20) (.c (.int .i64 (1)))⟩,
      ⟨(some 6), none, .mv (.t 21)⟩]))))))
  (.seq (.ops [⟨(some 70), none, .mv (.t 5)⟩,
    ⟨(some 4), none, .mv (.t 70)⟩])
  (.ret))))⟩
theorem a56_ok : funcC Tryd.prog Tryd.f56 = some a56 := by kernel_rfl
/-- permafrost/permafrostref02.above -/
def a57 : AFunc := ⟨2, [.tmp 4],
  .seq (.ops [⟨(some 4), none, .mv (.c (.bool false))⟩])
  (.seq (.seq (.ops [⟨(some 8), none, .mv (.t 0)⟩,
    ⟨(some 9), none, .lenSl (.t 8)⟩,
    ⟨(some 10), none, .mv (.t 1)⟩,
    ⟨(some 11), none, .lenSl (.t 10)⟩,
    ⟨(some 12), none, .max2 (.t 9) (.t 11)⟩,
    ⟨(some 13), none, .bin .sub (.t 12) (.c (.int .i64 (1)))⟩,
    ⟨(some 5), none, .mv (.t 13)⟩])
  (.block 0 (.loop (.seq (.seq (.ops [⟨(some 14), none, .mv (.t 5)⟩,
      ⟨(some 15), none, .bin .geq (.t 14) (.c (.int .i64 (0)))⟩])
    (.cond (.t 15)
     (.skip)
     (.exit 0)))
    (.seq (.block 1 (.seq (.ops [⟨(some 6), none, .mv (.c (.int .i64 (0)))⟩])
     (.seq (.ops [⟨(some 7), none, .mv (.c (.int .i64 (0)))⟩])
     (.seq (.seq (.ops [⟨(some 18), none, .mv (.t 5)⟩,
       ⟨(some 19), none, .mv (.t 0)⟩,
       ⟨(some 20), none, .lenSl (.t 19)⟩,
       ⟨(some 21), none, .bin .lss (.t 18) (.t 20)⟩])
     (.cond (.t 21)
      (.ops [⟨(some 22), none, .mv (.t 0)⟩,
        ⟨(some 23), none, .mv (.t 5)⟩,
        ⟨(some 24), none, .idxSl 1 (.t 22) (.t 23)⟩,
        ⟨(some 25), none, .load none (.t 24)⟩,
        ⟨(some 6), none, .mv (.t 25)⟩])
      (.skip)))
     (.seq (.seq (.ops [⟨(some 26), none, .mv (.t 5)⟩,
       ⟨(some 27), none, .mv (.t 1)⟩,
       ⟨(some 28), none, .lenSl (.t 27)⟩,
       ⟨(some 29), none, .bin .lss (.t 26) (.t 28)⟩])
     (.cond (.t 29)
      (.ops [⟨(some 30), none, .mv (.t 1)⟩,
        ⟨(some 31), none, .mv (.t 5)⟩,
        ⟨(some 32), none, .idxSl 1 (.t 30) (.t 31)⟩,
        ⟨(some 33), none, .load none (.t 32)⟩,
        ⟨(some 7), none, .mv (.t 33)⟩])
      (.skip)))
     (.seq (.ops [⟨(some 34), none, .mv (.t 6)⟩,
       ⟨(some 35), none, .mv (.t 7)⟩,
       ⟨(some 36), none, .bin .neq (.t 34) (.t 35)⟩])
     (.cond (.t 36)
      (.seq (.ops [⟨(some 37), none, .mv (.t 6)⟩,
        ⟨(some 38), none, .mv (.t 7)⟩,
        ⟨(some 39), none, .bin .gtr (.t 37) (.t 38)⟩,
        ⟨(some 4), none, .mv (.t 39)⟩])
      (.ret))
      (.skip))))))))
    (.ops [⟨(some 16), none, .mv (.t 5)⟩,
      ⟨(some 17), none, .bin .sub (.t 16) (.c (.int .i64 (1)))⟩,
      ⟨(some 5), none, .mv (.t 17)⟩]))))))
  (.seq (.ops [⟨(some 4), none, .mv (.c (.bool false))⟩])
  (.ret)))⟩
theorem a57_ok : funcC Tryd.prog Tryd.f57 = some a57 := by kernel_rfl
/-- permafrost/permafrostref02.word -/
def a58 : AFunc := ⟨1, [.tmp 2],
  .seq (.ops [⟨(some 2), none, .mv (.c (.int .i64 (0)))⟩])
  (.seq (.ops [⟨(some 3), none, .mv (.t 0)⟩,
    ⟨(some 4), none, .bin .rem (.t 3) (.c (.int .i64 (4294967296)))⟩,
    ⟨(some 2), none, .mv (.t 4)⟩])
  (.ret))⟩
theorem a58_ok : funcC Tryd.prog Tryd.f58 = some a58 := by kernel_rfl
/-- permafrost/permafrostref02.turn -/
def a59 : AFunc := ⟨2, [.tmp 4],
  .seq (.ops [⟨(some 4), none, .mv (.c (.int .i64 (0)))⟩])
  (.seq (.ops [⟨(some 5), none, .mv (.t 0)⟩,
    ⟨(some 6), none, .mv (.t 1)⟩,
    ⟨(some 7), none, .toInt .u64 (.t 6)⟩,
    ⟨(some 8), none, .bin .shr (.t 5) (.t 7)⟩,
    ⟨(some 9), none, .mv (.t 0)⟩,
    ⟨(some 10), none, .mv (.t 1)⟩,
    ⟨(some 11), none, .bin .sub (.c (.int .i64 (32))) (.t 10)⟩,
    ⟨(some 12), none, .toInt .u64 (.t 11)⟩,
    ⟨(some 13), none, .bin .shl (.t 9) (.t 12)⟩,
    ⟨(some 14), none, .bin .rem (.t 13) (.c (.int .i64 (4294967296)))⟩,
    ⟨(some 15), none, .bin .or (.t 8) (.t 14)⟩,
    ⟨(some 4), none, .mv (.t 15)⟩])
  (.ret))⟩
theorem a59_ok : funcC Tryd.prog Tryd.f59 = some a59 := by kernel_rfl
/-- (*permafrost/fixed.Reader).take -/
def a60 : AFunc := ⟨3, [.tmp 6],
  .seq (.ops [⟨(some 6), none, .mv (.c (.str []))⟩])
  (.seq (.block 0 (.seq (.ops [⟨(some 25), none, .mv (.t 0)⟩,
     ⟨(some 26), none, .nilck (.t 25)⟩,
     ⟨(some 27), none, .fieldAddr 1 (.t 26)⟩,
     ⟨(some 28), none, .load none (.t 27)⟩,
     ⟨(some 29), none, .bin .neq (.t 28) (.c (.int .i64 (0)))⟩,
     ⟨(some 24), none, .mv (.t 29)⟩])
   (.cond (.t 24)
    (.skip)
    (.seq (.ops [⟨(some 31), none, .mv (.t 2)⟩,
      ⟨(some 32), none, .bin .neq (.t 31) (.c (.int .i64 (0)))⟩,
      ⟨(some 30), none, .mv (.t 32)⟩])
    (.cond (.t 30)
     (.ops [⟨(some 33), none, .mv (.t 0)⟩,
       ⟨(some 34), none, .mv (.t 2)⟩,
       ⟨(some 35), none, .nilck (.t 33)⟩,
       ⟨(some 36), none, .fieldAddr 1 (.t 35)⟩,
       ⟨none, none, .store 1 (.t 36) (.t 34)⟩])
     (.seq (.ops [⟨(some 38), none, .mv (.t 1)⟩,
       ⟨(some 39), none, .mv (.t 0)⟩,
       ⟨(some 40), none, .nilck (.t 39)⟩,
       ⟨(some 41), none, .fieldAddr 0 (.t 40)⟩,
       ⟨(some 42), none, .load none (.t 41)⟩,
       ⟨(some 43), none, .lenStr (.t 42)⟩,
       ⟨(some 44), none, .bin .gtr (.t 38) (.t 43)⟩,
       ⟨(some 37), none, .mv (.t 44)⟩])
     (.cond (.t 37)
      (.ops [⟨(some 45), none, .mv (.t 0)⟩,
        ⟨(some 46), none, .nilck (.t 45)⟩,
        ⟨(some 47), none, .fieldAddr 1 (.t 46)⟩,
        ⟨none, none, .store 1 (.t 47) (.c (.int .i64 (2)))⟩])
      (.seq (.ops [⟨(some 8), none, .mv (.t 0)⟩,
        ⟨(some 9), none, .nilck (.t 8)⟩,
        ⟨(some 10), none, .fieldAddr 0 (.t 9)⟩,
        ⟨(some 11), none, .load none (.t 10)⟩,
        ⟨(some 12), none, .mv (.t 1)⟩,
        ⟨(some 13), none, .sliceStr (.t 11) none (some (.t 12))⟩,
        ⟨(some 7), none, .mv (.t 13)⟩])
      (.seq (.ops [⟨(some 14), none, .mv (.t 0)⟩,
        ⟨(some 15), none, .mv (.t 0)⟩,
        ⟨(some 16), none, .nilck (.t 15)⟩,
        ⟨(some 17), none, .fieldAddr 0 (.t 16)⟩,
        ⟨(some 18), none, .load none (.t 17)⟩,
        ⟨(some 19), none, .mv (.t 1)⟩,
        ⟨(some 20), none, .sliceStr (.t 18) (some (.t 19)) none⟩,
        ⟨(some 21), none, .nilck (.t 14)⟩,
        ⟨(some 22), none, .fieldAddr 0 (.t 21)⟩,
        ⟨none, none, .store 1 (.t 22) (.t 20)⟩])
      (.seq (.ops [⟨(some 23), none, .mv (.t 7)⟩,
        ⟨(some 6), none, .mv (.t 23)⟩])
      (.ret)))))))))))
  (.seq (.ops [⟨(some 6), none, .mv (.c (.str []))⟩])
  (.ret)))⟩
theorem a60_ok : funcC Tryd.prog Tryd.f60 = some a60 := by kernel_rfl
/-- permafrost/sum.begin -/
def a65 : AFunc := ⟨0, [.cell 0 (some 8)],
  .seq (.ops [⟨(some 0), none, .alloc none [(.int .u32 (0)), (.int .u32 (0)), (.int .u32 (0)), (.int .u32 (0)), (.int .u32 (0)), (.int .u32 (0)), (.int .u32 (0)), (.int .u32 (0))]⟩])
  (.seq (.ops [⟨(some 1), none, .build [(.int .u32 (0)), (.int .u32 (0)), (.int .u32 (0)), (.int .u32 (0)), (.int .u32 (0)), (.int .u32 (0)), (.int .u32 (0)), (.int .u32 (0))] [(0, 1, (.c (.int .u32 (1779033703)))), (1, 1, (.c (.int .u32 (3144134277)))), (2, 1, (.c (.int .u32 (1013904242)))), (3, 1, (.c (.int .u32 (2773480762)))), (4, 1, (.c (.int .u32 (1359893119)))), (5, 1, (.c (.int .u32 (2600822924)))), (6, 1, (.c (.int .u32 (528734635)))), (7, 1, (.c (.int .u32 (1541459225))))]⟩,
    ⟨none, none, .store 8 (.t 0) (.t 1)⟩])
  (.ret))⟩
theorem a65_ok : funcC Tryd.prog Tryd.f65 = some a65 := by kernel_rfl
/-- (permafrost/sum.words).behind -/
def a66 : AFunc := ⟨2, [.cell 4 (some 8)],
  .seq (.ops [⟨(some 2), none, .box (.t 0)⟩,
    ⟨(some 4), none, .alloc none [(.int .u32 (0)), (.int .u32 (0)), (.int .u32 (0)), (.int .u32 (0)), (.int .u32 (0)), (.int .u32 (0)), (.int .u32 (0)), (.int .u32 (0))]⟩])
  (.seq (.ops [⟨(some 5), none, .alloc none [(.int .u32 (0)), (.int .u32 (0)), (.int .u32 (0)), (.int .u32 (0)), (.int .u32 (0)), (.int .u32 (0)), (.int .u32 (0)), (.int .u32 (0)), (.int .u32 (0)), (.int .u32 (0)), (.int .u32 (0)), (.int .u32 (0)), (.int .u32 (0)), (.int .u32 (0)), (.int .u32 (0)), (.int .u32 (0)), (.int .u32 (0)), (.int .u32 (0)), (.int .u32 (0)), (.int .u32 (0)), (.int .u32 (0)), (.int .u32 (0)), (.int .u32 (0)), (.int .u32 (0)), (.int .u32 (0)), (.int .u32 (0)), (.int .u32 (0)), (.int .u32 (0)), (.int .u32 (0)), (.int .u32 (0)), (.int .u32 (0)), (.int .u32 (0)), (.int .u32 (0)), (.int .u32 (0)), (.int .u32 (0)), (.int .u32 (0)), (.int .u32 (0)), (.int .u32 (0)), (.int .u32 (0)), (.int .u32 (0)), (.int .u32 (0)), (.int .u32 (0)), (.int .u32 (0)), (.int .u32 (0)), (.int .u32 (0)), (.int .u32 (0)), (.int .u32 (0)), (.int .u32 (0)), (.int .u32 (0)), (.int .u32 (0)), (.int .u32 (0)), (.int .u32 (0)), (.int .u32 (0)), (.int .u32 (0)), (.int .u32 (0)), (.int .u32 (0)), (.int .u32 (0)), (.int .u32 (0)), (.int .u32 (0)), (.int .u32 (0)), (.int .u32 (0)), (.int .u32 (0)), (.int .u32 (0)), (.int .u32 (0))]⟩])
  (.seq (.seq (.ops [⟨(some 19), none, .mv (.c (.int .i64 (0)))⟩])
  (.block 0 (.loop (.seq (.ops [⟨(some 20), none, .bin .lss (.t 19) (.c (.int .i64 (64)))⟩])
    (.seq (.cond (.t 20)
     (.skip)
     (.exit 0))
    (.seq (.block 1 (.seq (.ops [⟨(some 21), none, .mv (.t 19)⟩,
       ⟨(some 6), none, .mv (.t 21)⟩])
     (.seq (.seq (.ops [⟨(some 22), none, .mv (.t 6)⟩,
       ⟨(some 23), none, .bin .lss (.t 22) (.c (.int .i64 (16)))⟩])
     (.cond (.t 23)
      (.seq (.seq (.ops [⟨(some 24), none, .mv (.c (.int .i64 (0)))⟩])
      (.block 2 (.loop (.seq (.ops [⟨(some 25), none, .bin .lss (.t 24) (.c (.int .i64 (4)))⟩])
        (.seq (.cond (.t 25)
         (.skip)
         (.exit 2))
        (.seq (.block 3 (.seq (.ops [⟨(some 26), none, .mv (.t 24)⟩,
           ⟨(some 7), none, .mv (.t 26)⟩])
         (.draw [⟨⟨(some 27), none, .mv (.t 6)⟩, 0, []⟩,
           ⟨⟨(some 28), none, .mv (.t 6)⟩, 1, []⟩,
           ⟨⟨(some 29), none, .idxArr 64 1 (.t 5) (.t 28)⟩, 2, [1]⟩,
           ⟨⟨(some 30), none, .load none (.t 29)⟩, 3, [1, 2]⟩,
           ⟨⟨(some 31), none, .bin .shl (.t 30) (.c (.int .u64 (8)))⟩, 4, [1, 2, 3]⟩,
           ⟨⟨(some 32), none, .mv (.t 1)⟩, 5, []⟩,
           ⟨⟨(some 33), none, .mv (.t 6)⟩, 6, []⟩,
           ⟨⟨(some 34), none, .bin .mul (.c (.int .i64 (4))) (.t 33)⟩, 7, [6]⟩,
           ⟨⟨(some 35), none, .mv (.t 7)⟩, 8, []⟩,
           ⟨⟨(some 36), none, .bin .add (.t 34) (.t 35)⟩, 9, [6, 7, 8]⟩,
           ⟨⟨(some 37), none, .atStr (.t 32) (.t 36)⟩, 10, [5, 6, 7, 8, 9]⟩,
           ⟨⟨(some 38), none, .toInt .u32 (.t 37)⟩, 11, [5, 6, 7, 8, 9, 10]⟩,
           ⟨⟨(some 39), none, .bin .or (.t 31) (.t 38)⟩, 12, [1, 2, 3, 4, 5, 6, 7, 8, 9, 10, 11]⟩,
           ⟨⟨(some 40), none, .idxArr 64 1 (.t 5) (.t 27)⟩, 13, [0, 1, 2, 3, 4, 5, 6, 7, 8, 9, 10, 11, 12]⟩,
           ⟨⟨none, none, .store 1 (.t 40) (.t 39)⟩, 14, [0, 1, 2, 3, 4, 5, 6, 7, 8, 9, 10, 11, 12, 13]⟩])))
        (.ops [⟨(some 41), none, .bin .add (.t 24) (.c (.int .i64 (1)))⟩,
          ⟨(some 24), none, .mv (.t 41)⟩])))))))
      (.exit 1))
      (.skip)))
     (.seq (.draw [⟨⟨(some 42), none, .mv (.t 6)⟩, 0, []⟩,
       ⟨⟨(some 43), none, .bin .sub (.t 42) (.c (.int .i64 (15)))⟩, 1, [0]⟩,
       ⟨⟨(some 44), none, .idxArr 64 1 (.t 5) (.t 43)⟩, 2, [0, 1]⟩,
       ⟨⟨(some 45), none, .load none (.t 44)⟩, 3, [0, 1, 2]⟩,
       ⟨⟨(some 46), none, .mv (.t 6)⟩, 4, []⟩,
       ⟨⟨(some 47), none, .bin .sub (.t 46) (.c (.int .i64 (2)))⟩, 5, [4]⟩,
       ⟨⟨(some 48), none, .idxArr 64 1 (.t 5) (.t 47)⟩, 6, [4, 5]⟩,
       ⟨⟨(some 49), none, .load none (.t 48)⟩, 7, [4, 5, 6]⟩,
       ⟨⟨(some 8), none, .mv (.t 45)⟩, 8, [0, 1, 2, 3]⟩,
       ⟨⟨(some 9), none, .mv (.t 49)⟩, 9, [0, 1, 2, 3, 4, 5, 6, 7, 8]⟩])
     (.seq (.ops [⟨(some 50), none, .mv (.t 8)⟩,
       ⟨(some 51), none, .call (.c (.func (.func 72) [] [])) [(.t 50), (.c (.int .i64 (7)))]⟩,
       ⟨(some 52), none, .mv (.t 8)⟩,
       ⟨(some 53), none, .call (.c (.func (.func 72) [] [])) [(.t 52), (.c (.int .i64 (18)))]⟩,
       ⟨(some 54), none, .bin .xor (.t 51) (.t 53)⟩,
       ⟨(some 55), none, .mv (.t 8)⟩,
       ⟨(some 56), none, .bin .shr (.t 55) (.c (.int .u64 (3)))⟩,
       ⟨(some 57), none, .bin .xor (.t 54) (.t 56)⟩,
       ⟨(some 10), none, .mv (.t 57)⟩])
     (.seq (.ops [⟨(some 58), none, .mv (.t 9)⟩,
       ⟨(some 59), none, .call (.c (.func (.func 72) [] [])) [(.t 58), (.c (.int .i64 (17)))]⟩,
       ⟨(some 60), none, .mv (.t 9)⟩,
       ⟨(some 61), none, .call (.c (.func (.func 72) [] [])) [(.t 60), (.c (.int .i64 (19)))]⟩,
       ⟨(some 62), none, .bin .xor (.t 59) (.t 61)⟩,
       ⟨(some 63), none, .mv (.t 9)⟩,
       ⟨(some 64), none, .bin .shr (.t 63) (.c (.int .u64 (10)))⟩,
       ⟨(some 65), none, .bin .xor (.t 62) (.t 64)⟩,
       ⟨(some 11), none, .mv (.t 65)⟩])
     (.draw [⟨⟨(some 66), none, .mv (.t 6)⟩, 0, []⟩,
       ⟨⟨(some 67), none, .mv (.t 11)⟩, 1, []⟩,
       ⟨⟨(some 68), none, .mv (.t 6)⟩, 2, []⟩,
       ⟨⟨(some 69), none, .bin .sub (.t 68) (.c (.int .i64 (7)))⟩, 3, [2]⟩,
       ⟨⟨(some 70), none, .idxArr 64 1 (.t 5) (.t 69)⟩, 4, [2, 3]⟩,
       ⟨⟨(some 71), none, .load none (.t 70)⟩, 5, [2, 3, 4]⟩,
       ⟨⟨(some 72), none, .bin .add (.t 67) (.t 71)⟩, 6, [1, 2, 3, 4, 5]⟩,
       ⟨⟨(some 73), none, .mv (.t 10)⟩, 7, []⟩,
       ⟨⟨(some 74), none, .bin .add (.t 72) (.t 73)⟩, 8, [1, 2, 3, 4, 5, 6, 7]⟩,
       ⟨⟨(some 75), none, .mv (.t 6)⟩, 9, []⟩,
       ⟨⟨(some 76), none, .bin .sub (.t 75) (.c (.int .i64 (16)))⟩, 10, [9]⟩,
       ⟨⟨(some 77), none, .idxArr 64 1 (.t 5) (.t 76)⟩, 11, [9, 10]⟩,
       ⟨⟨(some 78), none, .load none (.t 77)⟩, 12, [9, 10, 11]⟩,
       ⟨⟨(some 79), none, .bin .add (.t 74) (.t 78)⟩, 13, [1, 2, 3, 4, 5, 6, 7, 8, 9, 10, 11, 12]⟩,
       ⟨⟨(some 80), none, .idxArr 64 1 (.t 5) (.t 66)⟩, 14, [0, 1, 2, 3, 4, 5, 6, 7, 8, 9, 10, 11, 12, 13]⟩,
       ⟨⟨none, none, .store 1 (.t 80) (.t 79)⟩, 15, [0, 1, 2, 3, 4, 5, 6, 7, 8, 9, 10, 11, 12, 13, 14]⟩])))))))
    (.ops [⟨(some 81), none, .bin .add (.t 19) (.c (.int .i64 (1)))⟩,
      ⟨(some 19), none, .mv (.t 81)⟩])))))))
  (.seq (.ops [⟨(some 82), none, .load (some 8) (.t 2)⟩,
    ⟨(some 12), none, .alloc none [(.int .u32 (0)), (.int .u32 (0)), (.int .u32 (0)), (.int .u32 (0)), (.int .u32 (0)), (.int .u32 (0)), (.int .u32 (0)), (.int .u32 (0))]⟩,
    ⟨none, none, .store 8 (.t 12) (.t 82)⟩])
  (.seq (.seq (.ops [⟨(some 83), none, .mv (.c (.int .i64 (0)))⟩])
  (.block 4 (.loop (.seq (.ops [⟨(some 84), none, .bin .lss (.t 83) (.c (.int .i64 (64)))⟩])
    (.seq (.cond (.t 84)
     (.skip)
     (.exit 4))
    (.seq (.block 5 (.seq (.ops [⟨(some 85), none, .mv (.t 83)⟩,
       ⟨(some 13), none, .mv (.t 85)⟩])
     (.seq (.draw [⟨⟨(some 86), none, .idxArr 8 1 (.t 12) (.c (.int .i64 (0)))⟩, 0, []⟩,
       ⟨⟨(some 87), none, .load none (.t 86)⟩, 1, [0]⟩,
       ⟨⟨(some 88), none, .idxArr 8 1 (.t 12) (.c (.int .i64 (4)))⟩, 2, []⟩,
       ⟨⟨(some 89), none, .load none (.t 88)⟩, 3, [2]⟩,
       ⟨⟨(some 14), none, .mv (.t 87)⟩, 4, [0, 1]⟩,
       ⟨⟨(some 15), none, .mv (.t 89)⟩, 5, [0, 1, 2, 3, 4]⟩])
     (.seq (.draw [⟨⟨(some 90), none, .idxArr 8 1 (.t 12) (.c (.int .i64 (7)))⟩, 0, []⟩,
       ⟨⟨(some 91), none, .load none (.t 90)⟩, 1, [0]⟩,
       ⟨⟨(some 92), none, .mv (.t 15)⟩, 2, []⟩,
       ⟨⟨(some 94), none, .mv (.t 15)⟩, 4, []⟩,
       ⟨⟨(some 97), none, .mv (.t 15)⟩, 7, []⟩,
       ⟨⟨(some 101), none, .mv (.t 15)⟩, 11, []⟩,
       ⟨⟨(some 102), none, .idxArr 8 1 (.t 12) (.c (.int .i64 (5)))⟩, 12, []⟩,
       ⟨⟨(some 103), none, .load none (.t 102)⟩, 13, [6]⟩,
       ⟨⟨(some 104), none, .bin .and (.t 101) (.t 103)⟩, 14, [5, 6, 7]⟩,
       ⟨⟨(some 105), none, .mv (.t 15)⟩, 15, []⟩,
       ⟨⟨(some 106), none, .inv (.t 105)⟩, 16, [9]⟩,
       ⟨⟨(some 107), none, .idxArr 8 1 (.t 12) (.c (.int .i64 (6)))⟩, 17, []⟩,
       ⟨⟨(some 108), none, .load none (.t 107)⟩, 18, [11]⟩,
       ⟨⟨(some 109), none, .bin .and (.t 106) (.t 108)⟩, 19, [9, 10, 11, 12]⟩,
       ⟨⟨(some 110), none, .bin .xor (.t 104) (.t 109)⟩, 20, [5, 6, 7, 8, 9, 10, 11, 12, 13]⟩,
       ⟨⟨(some 112), none, .mv (.t 13)⟩, 22, []⟩,
       ⟨⟨(some 113), none, .idxArr 64 1 (.c (.ptr (some (0, 0)))) (.t 112)⟩, 23, [15]⟩,
       ⟨⟨(some 114), none, .load none (.t 113)⟩, 24, [15, 16]⟩,
       ⟨⟨(some 116), none, .mv (.t 13)⟩, 26, []⟩,
       ⟨⟨(some 117), none, .idxArr 64 1 (.t 5) (.t 116)⟩, 27, [18]⟩,
       ⟨⟨(some 118), none, .load none (.t 117)⟩, 28, [18, 19]⟩,
       ⟨⟨(some 93), none, .call (.c (.func (.func 72) [] [])) [(.t 92), (.c (.int .i64 (6)))]⟩, 3, [2]⟩,
       ⟨⟨(some 95), none, .call (.c (.func (.func 72) [] [])) [(.t 94), (.c (.int .i64 (11)))]⟩, 5, [2, 3, 21]⟩,
       ⟨⟨(some 96), none, .bin .xor (.t 93) (.t 95)⟩, 6, [2, 3, 21, 22]⟩,
       ⟨⟨(some 98), none, .call (.c (.func (.func 72) [] [])) [(.t 97), (.c (.int .i64 (25)))]⟩, 8, [2, 3, 4, 21, 22]⟩,
       ⟨⟨(some 99), none, .bin .xor (.t 96) (.t 98)⟩, 9, [2, 3, 4, 21, 22, 23, 24]⟩,
       ⟨⟨(some 100), none, .bin .add (.t 91) (.t 99)⟩, 10, [0, 1, 2, 3, 4, 21, 22, 23, 24, 25]⟩,
       ⟨⟨(some 111), none, .bin .add (.t 100) (.t 110)⟩, 21, [0, 1, 2, 3, 4, 5, 6, 7, 8, 9, 10, 11, 12, 13, 14, 21, 22, 23, 24, 25, 26]⟩,
       ⟨⟨(some 115), none, .bin .add (.t 111) (.t 114)⟩, 25, [0, 1, 2, 3, 4, 5, 6, 7, 8, 9, 10, 11, 12, 13, 14, 15, 16, 17, 21, 22, 23, 24, 25, 26, 27]⟩,
       ⟨⟨(some 119), none, .bin .add (.t 115) (.t 118)⟩, 29, [0, 1, 2, 3, 4, 5, 6, 7, 8, 9, 10, 11, 12, 13, 14, 15, 16, 17, 18, 19, 20, 21, 22, 23, 24, 25, 26, 27, 28]⟩,
       ⟨⟨(some 16), none, .mv (.t 119)⟩, 30, [0, 1, 2, 3, 4, 5, 6, 7, 8, 9, 10, 11, 12, 13, 14, 15, 16, 17, 18, 19, 20, 21, 22, 23, 24, 25, 26, 27, 28, 29]⟩])
     (.seq (.draw [⟨⟨(some 120), none, .mv (.t 14)⟩, 0, []⟩,
       ⟨⟨(some 122), none, .mv (.t 14)⟩, 2, []⟩,
       ⟨⟨(some 125), none, .mv (.t 14)⟩, 5, []⟩,
       ⟨⟨(some 128), none, .mv (.t 14)⟩, 8, []⟩,
       ⟨⟨(some 129), none, .idxArr 8 1 (.t 12) (.c (.int .i64 (1)))⟩, 9, []⟩,
       ⟨⟨(some 130), none, .load none (.t 129)⟩, 10, [4]⟩,
       ⟨⟨(some 131), none, .bin .and (.t 128) (.t 130)⟩, 11, [3, 4, 5]⟩,
       ⟨⟨(some 132), none, .mv (.t 14)⟩, 12, []⟩,
       ⟨⟨(some 133), none, .idxArr 8 1 (.t 12) (.c (.int .i64 (2)))⟩, 13, []⟩,
       ⟨⟨(some 134), none, .load none (.t 133)⟩, 14, [8]⟩,
       ⟨⟨(some 135), none, .bin .and (.t 132) (.t 134)⟩, 15, [7, 8, 9]⟩,
       ⟨⟨(some 136), none, .bin .xor (.t 131) (.t 135)⟩, 16, [3, 4, 5, 6, 7, 8, 9, 10]⟩,
       ⟨⟨(some 137), none, .idxArr 8 1 (.t 12) (.c (.int .i64 (1)))⟩, 17, []⟩,
       ⟨⟨(some 138), none, .load none (.t 137)⟩, 18, [12]⟩,
       ⟨⟨(some 139), none, .idxArr 8 1 (.t 12) (.c (.int .i64 (2)))⟩, 19, []⟩,
       ⟨⟨(some 140), none, .load none (.t 139)⟩, 20, [14]⟩,
       ⟨⟨(some 141), none, .bin .and (.t 138) (.t 140)⟩, 21, [12, 13, 14, 15]⟩,
       ⟨⟨(some 142), none, .bin .xor (.t 136) (.t 141)⟩, 22, [3, 4, 5, 6, 7, 8, 9, 10, 11, 12, 13, 14, 15, 16]⟩,
       ⟨⟨(some 121), none, .call (.c (.func (.func 72) [] [])) [(.t 120), (.c (.int .i64 (2)))]⟩, 1, [0]⟩,
       ⟨⟨(some 123), none, .call (.c (.func (.func 72) [] [])) [(.t 122), (.c (.int .i64 (13)))]⟩, 3, [0, 1, 18]⟩,
       ⟨⟨(some 124), none, .bin .xor (.t 121) (.t 123)⟩, 4, [0, 1, 18, 19]⟩,
       ⟨⟨(some 126), none, .call (.c (.func (.func 72) [] [])) [(.t 125), (.c (.int .i64 (22)))]⟩, 6, [0, 1, 2, 18, 19]⟩,
       ⟨⟨(some 127), none, .bin .xor (.t 124) (.t 126)⟩, 7, [0, 1, 2, 18, 19, 20, 21]⟩,
       ⟨⟨(some 143), none, .bin .add (.t 127) (.t 142)⟩, 23, [0, 1, 2, 3, 4, 5, 6, 7, 8, 9, 10, 11, 12, 13, 14, 15, 16, 17, 18, 19, 20, 21, 22]⟩,
       ⟨⟨(some 17), none, .mv (.t 143)⟩, 24, [0, 1, 2, 3, 4, 5, 6, 7, 8, 9, 10, 11, 12, 13, 14, 15, 16, 17, 18, 19, 20, 21, 22, 23]⟩])
     (.ops [⟨(some 144), none, .mv (.t 16)⟩,
       ⟨(some 145), none, .mv (.t 17)⟩,
       ⟨(some 146), none, .bin .add (.t 144) (.t 145)⟩,
       ⟨(some 147), none, .mv (.t 14)⟩,
       ⟨(some 148), none, .idxArr 8 1 (.t 12) (.c (.int .i64 (1)))⟩,
       ⟨(some 149), none, .load none (.t 148)⟩,
       ⟨(some 150), none, .idxArr 8 1 (.t 12) (.c (.int .i64 (2)))⟩,
       ⟨(some 151), none, .load none (.t 150)⟩,
       ⟨(some 152), none, .idxArr 8 1 (.t 12) (.c (.int .i64 (3)))⟩,
       ⟨(some 153), none, .load none (.t 152)⟩,
       ⟨(some 154), none, .mv (.t 16)⟩,
       ⟨(some 155), none, .bin .add (.t 153) (.t 154)⟩,
       ⟨(some 156), none, .mv (.t 15)⟩,
       ⟨(some 157), none, .idxArr 8 1 (.t 12) (.c (.int .i64 (5)))⟩,
       ⟨(some 158), none, .load none (.t 157)⟩,
       ⟨(some 159), none, .idxArr 8 1 (.t 12) (.c (.int .i64 (6)))⟩,
       ⟨(some 160), none, .load none (.t 159)⟩,
       ⟨(some 161), none, .build [(.int .u32 (0)), (.int .u32 (0)), (.int .u32 (0)), (.int .u32 (0)), (.int .u32 (0)), (.int .u32 (0)), (.int .u32 (0)), (.int .u32 (0))] [(0, 1, (.t 146)), (1, 1, (.t 147)), (2, 1, (.t 149)), (3, 1, (.t 151)), (4, 1, (.t 155)), (5, 1, (.t 156)), (6, 1, (.t 158)), (7, 1, (.t 160))]⟩,
       ⟨none, none, .store 8 (.t 12) (.t 161)⟩]))))))
    (.ops [⟨(some 162), none, .bin .add (.t 83) (.c (.int .i64 (1)))⟩,
      ⟨(some 83), none, .mv (.t 162)⟩])))))))
  (.seq (.seq (.ops [⟨(some 163), none, .mv (.c (.int .i64 (0)))⟩])
  (.block 6 (.loop (.seq (.ops [⟨(some 164), none, .bin .lss (.t 163) (.c (.int .i64 (8)))⟩])
    (.seq (.cond (.t 164)
     (.skip)
     (.exit 6))
    (.seq (.block 7 (.seq (.ops [⟨(some 165), none, .mv (.t 163)⟩,
       ⟨(some 18), none, .mv (.t 165)⟩])
     (.draw [⟨⟨(some 166), none, .mv (.t 18)⟩, 0, []⟩,
       ⟨⟨(some 167), none, .idxArr 8 1 (.t 2) (.t 166)⟩, 1, [0]⟩,
       ⟨⟨(some 168), none, .load none (.t 167)⟩, 2, [0, 1]⟩,
       ⟨⟨(some 169), none, .mv (.t 18)⟩, 3, []⟩,
       ⟨⟨(some 170), none, .idxArr 8 1 (.t 12) (.t 169)⟩, 4, [3]⟩,
       ⟨⟨(some 171), none, .load none (.t 170)⟩, 5, [3, 4]⟩,
       ⟨⟨(some 172), none, .bin .add (.t 168) (.t 171)⟩, 6, [0, 1, 2, 3, 4, 5]⟩,
       ⟨⟨(some 173), none, .idxArr 8 1 (.t 2) (.t 166)⟩, 7, [0, 1, 2, 3, 4, 5, 6]⟩,
       ⟨⟨none, none, .store 1 (.t 173) (.t 172)⟩, 8, [0, 1, 2, 3, 4, 5, 6, 7]⟩])))
    (.ops [⟨(some 174), none, .bin .add (.t 163) (.c (.int .i64 (1)))⟩,
      ⟨(some 163), none, .mv (.t 174)⟩])))))))
  (.seq (.ops [⟨(some 175), none, .load (some 8) (.t 2)⟩,
    ⟨none, none, .store 8 (.t 4) (.t 175)⟩])
  (.ret)))))))⟩
theorem a66_ok : funcC Tryd.prog Tryd.f66 = some a66 := by kernel_rfl
/-- (*strings.Builder).Write -/
def a68 : AFunc := ⟨2, [.tmp 4, .tmp 5],
  .seq (.ops [⟨(some 4), none, .mv (.c (.int .i64 (0)))⟩,
    ⟨(some 5), none, .mv (.c .nilIface)⟩])
  (.seq (.ops [⟨(some 6), none, .mv (.t 0)⟩,
    ⟨(some 7), none, .call (.c (.func (.func 48) [] [])) [(.t 6)]⟩])
  (.seq (.ops [⟨(some 8), none, .mv (.t 0)⟩,
    ⟨(some 9), none, .mv (.t 0)⟩,
    ⟨(some 10), none, .nilck (.t 9)⟩,
    ⟨(some 11), none, .fieldAddr 1 (.t 10)⟩,
    ⟨(some 12), none, .load none (.t 11)⟩,
    ⟨(some 13), none, .mv (.t 1)⟩,
    ⟨(some 14), none, .append 1 1 (some 5) (.t 12) (.t 13)⟩,
    ⟨(some 15), none, .nilck (.t 8)⟩,
    ⟨(some 16), none, .fieldAddr 1 (.t 15)⟩,
    ⟨none, none, .store 1 (.t 16) (.t 14)⟩])
  (.seq (.ops [⟨(some 17), none, .mv (.t 1)⟩,
    ⟨(some 18), none, .lenSl (.t 17)⟩,
    ⟨(some 4), none, .mv (.t 18)⟩,
    ⟨(some 5), none, .mv (.c .nilIface)⟩])
  (.ret))))⟩
theorem a68_ok : funcC Tryd.prog Tryd.f68 = some a68 := by kernel_rfl
/-- permafrost/sum.right -/
def a72 : AFunc := ⟨2, [.tmp 4],
  .seq (.ops [⟨(some 4), none, .mv (.c (.int .u32 (0)))⟩])
  (.seq (.draw [⟨⟨(some 5), none, .mv (.t 0)⟩, 0, []⟩,
    ⟨⟨(some 6), none, .mv (.t 1)⟩, 1, []⟩,
    ⟨⟨(some 7), none, .bin .shr (.t 5) (.t 6)⟩, 2, [0, 1]⟩,
    ⟨⟨(some 8), none, .mv (.t 0)⟩, 3, []⟩,
    ⟨⟨(some 9), none, .mv (.t 1)⟩, 4, []⟩,
    ⟨⟨(some 10), none, .bin .sub (.c (.int .i64 (32))) (.t 9)⟩, 5, [4]⟩,
    ⟨⟨(some 11), none, .bin .shl (.t 8) (.t 10)⟩, 6, [3, 4, 5]⟩,
    ⟨⟨(some 12), none, .bin .or (.t 7) (.t 11)⟩, 7, [0, 1, 2, 3, 4, 5, 6]⟩,
    ⟨⟨(some 4), none, .mv (.t 12)⟩, 8, [0, 1, 2, 3, 4, 5, 6, 7]⟩])
  (.ret))⟩
theorem a72_ok : funcC Tryd.prog Tryd.f72 = some a72 := by kernel_rfl
end Abs
end Go.Proofs.YthdgjjggndfbhaaDoor
