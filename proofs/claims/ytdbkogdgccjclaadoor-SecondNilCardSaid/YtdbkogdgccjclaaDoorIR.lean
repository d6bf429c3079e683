/- The functions of these statements, as the abstract machine's code: each is what the machine reads off the program; the table of them. -/
import Derived.Test.YtdbkogdgccjclaaDoorProg
import Derived.KernelRfl
import Derived.Test.YtdbkogdgccjclaaDoorA18
namespace Go.Proofs.YtdbkogdgccjclaaDoor
namespace Abs
set_option linter.unusedVariables false
set_option maxRecDepth 100000
/-- permafrost/permafrostlaw14.SecondNil -/
def a4 : AFunc := ⟨1, [.tmp 2],
  .seq (.ops [⟨(some 2), none, .mv (.c (.bool false))⟩])
  (.seq (.ops [⟨(some 3), none, .mv (.c (.ptr none))⟩])
  (.seq (.ops [⟨(some 7), none, .mv (.t 3)⟩,
    ⟨(some 8), none, .mv (.t 0)⟩,
    ⟨(some 9), none, .call (.c (.func (.func 12) [] [])) [(.t 7), (.t 8)]⟩,
    ⟨(some 6), none, .mv (.t 9)⟩,
    ⟨(some 10), none, .extract 0 (.t 6)⟩,
    ⟨(some 11), none, .extract 1 (.t 6)⟩,
    ⟨(some 4), none, .mv (.t 10)⟩,
    ⟨(some 5), none, .mv (.t 11)⟩])
  (.seq (.ops [⟨(some 12), none, .mv (.t 4)⟩,
    ⟨(some 13), none, .bin .eql (.t 12) (.c (.str []))⟩,
    ⟨(some 14), none, .mv (.t 13)⟩,
    ⟨(some 15), (some (14, true)), .mv (.t 5)⟩,
    ⟨(some 16), (some (14, true)), .not (.t 15)⟩,
    ⟨(some 17), none, .pick (.t 14) (.t 16) (.c (.bool false))⟩,
    ⟨(some 18), none, .mv (.t 17)⟩,
    ⟨(some 19), (some (18, true)), .mv (.t 3)⟩,
    ⟨(some 20), (some (18, true)), .mv (.t 0)⟩,
    ⟨(some 21), (some (18, true)), .mv (.t 0)⟩,
    ⟨(some 22), (some (18, true)), .call (.c (.func (.func 10) [] [])) [(.t 19), (.t 20), (.t 21)]⟩,
    ⟨(some 23), (some (18, true)), .not (.t 22)⟩,
    ⟨(some 24), none, .pick (.t 18) (.t 23) (.c (.bool false))⟩,
    ⟨(some 25), none, .mv (.t 24)⟩,
    ⟨(some 26), (some (25, true)), .mv (.t 3)⟩,
    ⟨(some 27), (some (25, true)), .call (.c (.func (.func 14) [] [])) [(.t 26)]⟩,
    ⟨(some 28), (some (25, true)), .lenSl (.t 27)⟩,
    ⟨(some 29), (some (25, true)), .bin .eql (.t 28) (.c (.int .i64 (0)))⟩,
    ⟨(some 30), none, .pick (.t 25) (.t 29) (.c (.bool false))⟩,
    ⟨(some 31), none, .mv (.t 30)⟩,
    ⟨(some 32), (some (31, true)), .mv (.t 3)⟩,
    ⟨(some 33), (some (31, true)), .call (.c (.func (.func 13) [] [])) [(.t 32)]⟩,
    ⟨(some 34), (some (31, true)), .bin .eql (.t 33) (.c (.int .i64 (0)))⟩,
    ⟨(some 35), none, .pick (.t 31) (.t 34) (.c (.bool false))⟩,
    ⟨(some 36), none, .mv (.t 35)⟩,
    ⟨(some 37), (some (36, true)), .call (.c (.func (.func 7) [] [])) []⟩,
    ⟨(some 38), none, .pick (.t 36) (.t 37) (.c (.bool false))⟩,
    ⟨(some 2), none, .mv (.t 38)⟩])
  (.ret))))⟩
theorem a4_ok : funcC Tryd.prog Tryd.f4 = some a4 := by kernel_rfl
/-- permafrost/permafrostlaw14.live -/
def a7 : AFunc := ⟨0, [.tmp 0],
  .seq (.ops [⟨(some 0), none, .mv (.c (.bool false))⟩])
  (.seq (.ops [⟨(some 14), none, .call (.c (.func (.func 8) [] [])) [(.c (.int .i64 (4))), (.c (.int .i64 (20)))]⟩,
    ⟨(some 1), none, .mv (.t 14)⟩])
  (.seq (.ops [⟨(some 15), none, .mv (.t 1)⟩,
    ⟨(some 16), none, .call (.c (.func (.func 9) [] [])) [(.t 15), (.c (.int .i64 (4))), (.c (.int .i64 (10)))]⟩,
    ⟨(some 2), none, .mv (.t 16)⟩])
  (.seq (.seq (.ops [⟨(some 17), none, .mv (.t 2)⟩,
    ⟨(some 18), none, .eq false (.flat .ptr) (.t 17) (.c (.ptr none))⟩])
  (.cond (.t 18)
   (.seq (.ops [⟨(some 0), none, .mv (.c (.bool false))⟩])
   (.ret))
   (.skip)))
  (.seq (.ops [⟨(some 19), none, .mv (.t 2)⟩,
    ⟨(some 20), none, .call (.c (.func (.func 10) [] [])) [(.t 19), (.c (.str [107])), (.c (.str [104, 101, 108, 108, 111]))]⟩,
    ⟨(some 3), none, .mv (.t 20)⟩])
  (.seq (.ops [⟨(some 21), none, .mv (.t 2)⟩,
    ⟨(some 22), none, .call (.c (.func (.func 10) [] [])) [(.t 21), (.c (.str [107])), (.c (.str [111, 116, 104, 101, 114]))]⟩,
    ⟨(some 4), none, .mv (.t 22)⟩])
  (.seq (.ops [⟨(some 24), none, .mv (.t 2)⟩,
    ⟨(some 25), none, .call (.c (.func (.func 12) [] [])) [(.t 24), (.c (.str [107]))]⟩,
    ⟨(some 23), none, .mv (.t 25)⟩,
    ⟨(some 26), none, .extract 0 (.t 23)⟩,
    ⟨(some 27), none, .extract 1 (.t 23)⟩,
    ⟨(some 5), none, .mv (.t 26)⟩,
    ⟨(some 6), none, .mv (.t 27)⟩])
  (.seq (.ops [⟨(some 29), none, .mv (.t 2)⟩,
    ⟨(some 30), none, .call (.c (.func (.func 12) [] [])) [(.t 29), (.c (.str [108]))]⟩,
    ⟨(some 28), none, .mv (.t 30)⟩,
    ⟨(some 31), none, .extract 0 (.t 28)⟩,
    ⟨(some 32), none, .extract 1 (.t 28)⟩,
    ⟨(some 7), none, .mv (.t 31)⟩,
    ⟨(some 8), none, .mv (.t 32)⟩])
  (.seq (.ops [⟨(some 33), none, .mv (.t 1)⟩,
    ⟨(some 34), none, .call (.c (.func (.func 11) [] [])) [(.t 33)]⟩])
  (.seq (.ops [⟨(some 35), none, .mv (.t 1)⟩,
    ⟨(some 36), none, .call (.c (.func (.func 9) [] [])) [(.t 35), (.c (.int .i64 (4))), (.c (.int .i64 (10)))]⟩,
    ⟨(some 9), none, .mv (.t 36)⟩])
  (.seq (.ops [⟨(some 38), none, .mv (.t 9)⟩,
    ⟨(some 39), none, .call (.c (.func (.func 12) [] [])) [(.t 38), (.c (.str [107]))]⟩,
    ⟨(some 37), none, .mv (.t 39)⟩,
    ⟨(some 40), none, .extract 0 (.t 37)⟩,
    ⟨(some 41), none, .extract 1 (.t 37)⟩,
    ⟨(some 10), none, .mv (.t 40)⟩,
    ⟨(some 11), none, .mv (.t 41)⟩])
  (.seq (.ops [⟨(some 42), none, .mv (.t 1)⟩,
    ⟨(some 43), none, .build [(.int .i64 (0)), (.int .i64 (0))] [(0, 1, (.c (.int .i64 (1)))), (1, 1, (.c (.int .i64 (5))))]⟩,
    ⟨(some 44), none, .call (.c (.func (.func 17) [] [])) [(.t 42), (.t 43), (.c (.str [104, 101, 108, 108, 79, 33]))]⟩])
  (.seq (.ops [⟨(some 46), none, .mv (.t 9)⟩,
    ⟨(some 47), none, .call (.c (.func (.func 12) [] [])) [(.t 46), (.c (.str [107]))]⟩,
    ⟨(some 45), none, .mv (.t 47)⟩,
    ⟨(some 48), none, .extract 0 (.t 45)⟩,
    ⟨(some 49), none, .extract 1 (.t 45)⟩,
    ⟨(some 12), none, .mv (.t 48)⟩,
    ⟨(some 13), none, .mv (.t 49)⟩])
  (.seq (.ops [⟨(some 50), none, .mv (.t 3)⟩,
    ⟨(some 51), none, .mv (.t 50)⟩,
    ⟨(some 52), (some (51, true)), .mv (.t 4)⟩,
    ⟨(some 53), none, .pick (.t 51) (.t 52) (.c (.bool false))⟩,
    ⟨(some 54), none, .mv (.t 53)⟩,
    ⟨(some 55), (some (54, true)), .mv (.t 5)⟩,
    ⟨(some 56), (some (54, true)), .bin .eql (.t 55) (.c (.str [104, 101, 108, 108, 111]))⟩,
    ⟨(some 57), none, .pick (.t 54) (.t 56) (.c (.bool false))⟩,
    ⟨(some 58), none, .mv (.t 57)⟩,
    ⟨(some 59), (some (58, true)), .mv (.t 6)⟩,
    ⟨(some 60), none, .pick (.t 58) (.t 59) (.c (.bool false))⟩,
    ⟨(some 61), none, .mv (.t 60)⟩,
    ⟨(some 62), (some (61, true)), .mv (.t 8)⟩,
    ⟨(some 63), (some (61, true)), .not (.t 62)⟩,
    ⟨(some 64), none, .pick (.t 61) (.t 63) (.c (.bool false))⟩,
    ⟨(some 65), none, .mv (.t 64)⟩,
    ⟨(some 66), (some (65, true)), .mv (.t 10)⟩,
    ⟨(some 67), (some (65, true)), .bin .eql (.t 66) (.c (.str [104, 101, 108, 108, 111]))⟩,
    ⟨(some 68), none, .pick (.t 65) (.t 67) (.c (.bool false))⟩,
    ⟨(some 69), none, .mv (.t 68)⟩,
    ⟨(some 70), (some (69, true)), .mv (.t 11)⟩,
    ⟨(some 71), none, .pick (.t 69) (.t 70) (.c (.bool false))⟩,
    ⟨(some 72), none, .mv (.t 71)⟩,
    ⟨(some 73), (some (72, true)), .mv (.t 13)⟩,
    ⟨(some 74), (some (72, true)), .not (.t 73)⟩,
    ⟨(some 75), none, .pick (.t 72) (.t 74) (.c (.bool false))⟩,
    ⟨(some 76), none, .mv (.t 75)⟩,
    ⟨(some 77), (some (76, true)), .mv (.t 2)⟩,
    ⟨(some 78), (some (76, true)), .call (.c (.func (.func 13) [] [])) [(.t 77)]⟩,
    ⟨(some 79), (some (76, true)), .bin .eql (.t 78) (.c (.int .i64 (8)))⟩,
    ⟨(some 80), none, .pick (.t 76) (.t 79) (.c (.bool false))⟩,
    ⟨(some 81), none, .mv (.t 80)⟩,
    ⟨(some 82), (some (81, true)), .mv (.t 2)⟩,
    ⟨(some 83), (some (81, true)), .call (.c (.func (.func 14) [] [])) [(.t 82)]⟩,
    ⟨(some 84), (some (81, true)), .lenSl (.t 83)⟩,
    ⟨(some 85), (some (81, true)), .bin .eql (.t 84) (.c (.int .i64 (1)))⟩,
    ⟨(some 86), none, .pick (.t 81) (.t 85) (.c (.bool false))⟩,
    ⟨(some 87), none, .mv (.t 86)⟩,
    ⟨(some 88), (some (87, true)), .mv (.t 9)⟩,
    ⟨(some 89), (some (87, true)), .call (.c (.func (.func 14) [] [])) [(.t 88)]⟩,
    ⟨(some 90), (some (87, true)), .lenSl (.t 89)⟩,
    ⟨(some 91), (some (87, true)), .bin .eql (.t 90) (.c (.int .i64 (0)))⟩,
    ⟨(some 92), none, .pick (.t 87) (.t 91) (.c (.bool false))⟩,
    ⟨(some 93), none, .mv (.t 92)⟩,
    ⟨(some 94), (some (93, true)), .mv (.t 1)⟩,
    ⟨(some 95), (some (93, true)), .call (.c (.func (.func 9) [] [])) [(.t 94), (.c (.int .i64 (4))), (.c (.int .i64 (17)))]⟩,
    ⟨(some 96), (some (93, true)), .eq false (.flat .ptr) (.t 95) (.c (.ptr none))⟩,
    ⟨(some 97), none, .pick (.t 93) (.t 96) (.c (.bool false))⟩,
    ⟨(some 98), none, .mv (.t 97)⟩,
    ⟨(some 99), (some (98, true)), .call (.c (.func (.func 9) [] [])) [(.c (.ptr none)), (.c (.int .i64 (0))), (.c (.int .i64 (4)))]⟩,
    ⟨(some 100), (some (98, true)), .eq false (.flat .ptr) (.t 99) (.c (.ptr none))⟩,
    ⟨(some 101), none, .pick (.t 98) (.t 100) (.c (.bool false))⟩,
    ⟨(some 102), none, .mv (.t 101)⟩,
    ⟨(some 103), (some (102, true)), .mv (.t 2)⟩,
    ⟨(some 104), (some (102, true)), .call (.c (.func (.func 10) [] [])) [(.t 103), (.c (.str [])), (.c (.str [120]))]⟩,
    ⟨(some 105), (some (102, true)), .not (.t 104)⟩,
    ⟨(some 106), none, .pick (.t 102) (.t 105) (.c (.bool false))⟩,
    ⟨(some 0), none, .mv (.t 106)⟩])
  (.ret))))))))))))))⟩
theorem a7_ok : funcC Tryd.prog Tryd.f7 = some a7 := by kernel_rfl
/-- permafrost/dev.New -/
def a8 : AFunc := ⟨2, [.tmp 4],
  .seq (.ops [⟨(some 4), none, .mv (.c (.ptr none))⟩])
  (.seq (.seq (.ops [⟨(some 5), none, .mv (.t 0)⟩,
    ⟨(some 6), none, .mv (.t 1)⟩,
    ⟨(some 7), none, .min2 (.t 5) (.t 6)⟩,
    ⟨(some 8), none, .bin .lss (.t 7) (.c (.int .i64 (1)))⟩,
    ⟨(some 9), none, .mv (.t 8)⟩,
    ⟨(some 10), (some (9, false)), .mv (.t 0)⟩,
    ⟨(some 11), (some (9, false)), .mv (.t 1)⟩,
    ⟨(some 12), (some (9, false)), .max2 (.t 10) (.t 11)⟩,
    ⟨(some 13), (some (9, false)), .bin .gtr (.t 12) (.c (.int .i64 (512)))⟩,
    ⟨(some 14), none, .pick (.t 9) (.c (.bool true)) (.t 13)⟩])
  (.cond (.t 14)
   (.seq (.ops [⟨(some 4), none, .mv (.c (.ptr none))⟩])
   (.ret))
   (.skip)))
  (.seq (.draw [⟨⟨(some 15), none, .mv (.t 0)⟩, 0, []⟩,
    ⟨⟨(some 16), none, .makeSl 1 16 [(.str [])] (.t 15) (.t 15)⟩, 1, [0]⟩,
    ⟨⟨(some 17), none, .mv (.t 1)⟩, 2, []⟩,
    ⟨⟨(some 18), none, .makeSl 1 16 [(.str [])] (.t 17) (.t 17)⟩, 3, [2]⟩,
    ⟨⟨(some 19), none, .build [(.slice none 0 0), (.slice none 0 0)] [(0, 1, (.t 16)), (1, 1, (.t 18))]⟩, 4, [0, 1, 2, 3]⟩,
    ⟨⟨(some 20), none, .build [(.slice none 0 0), (.slice none 0 0), (.bool false), (.bool false), (.slice none 0 0)] [(0, 2, (.t 19))]⟩, 5, [0, 1, 2, 3, 4]⟩,
    ⟨⟨(some 21), none, .box (.t 20)⟩, 6, [0, 1, 2, 3, 4, 5]⟩,
    ⟨⟨(some 4), none, .mv (.t 21)⟩, 7, [0, 1, 2, 3, 4, 5, 6]⟩])
  (.ret)))⟩
theorem a8_ok : funcC Tryd.prog Tryd.f8 = some a8 := by kernel_rfl
/-- permafrost/second.Open -/
def a9 : AFunc := ⟨3, [.tmp 6],
  .seq (.ops [⟨(some 6), none, .mv (.c (.ptr none))⟩])
  (.seq (.seq (.ops [⟨(some 12), none, .mv (.t 0)⟩,
    ⟨(some 13), none, .eq false (.flat .ptr) (.t 12) (.c (.ptr none))⟩,
    ⟨(some 14), none, .mv (.t 13)⟩,
    ⟨(some 15), (some (14, false)), .mv (.t 1)⟩,
    ⟨(some 16), (some (14, false)), .bin .lss (.t 15) (.c (.int .i64 (0)))⟩,
    ⟨(some 17), none, .pick (.t 14) (.c (.bool true)) (.t 16)⟩,
    ⟨(some 18), none, .mv (.t 17)⟩,
    ⟨(some 19), (some (18, false)), .mv (.t 2)⟩,
    ⟨(some 20), (some (18, false)), .bin .lss (.t 19) (.c (.int .i64 (2)))⟩,
    ⟨(some 21), none, .pick (.t 18) (.c (.bool true)) (.t 20)⟩,
    ⟨(some 22), none, .mv (.t 21)⟩,
    ⟨(some 23), (some (22, false)), .mv (.t 1)⟩,
    ⟨(some 24), (some (22, false)), .mv (.t 0)⟩,
    ⟨(some 25), (some (22, false)), .call (.c (.func (.func 15) [] [])) [(.t 24), (.c (.int .i64 (1)))]⟩,
    ⟨(some 26), (some (22, false)), .mv (.t 2)⟩,
    ⟨(some 27), (some (22, false)), .bin .sub (.t 25) (.t 26)⟩,
    ⟨(some 28), (some (22, false)), .bin .gtr (.t 23) (.t 27)⟩,
    ⟨(some 29), none, .pick (.t 22) (.c (.bool true)) (.t 28)⟩])
  (.cond (.t 29)
   (.seq (.ops [⟨(some 6), none, .mv (.c (.ptr none))⟩])
   (.ret))
   (.skip)))
  (.seq (.ops [⟨(some 30), none, .mv (.t 0)⟩,
    ⟨(some 31), none, .mv (.t 1)⟩,
    ⟨(some 32), none, .mv (.t 2)⟩,
    ⟨(some 33), none, .makeMap⟩,
    ⟨(some 34), none, .build [(.ptr none), (.int .i64 (0)), (.int .i64 (0)), (.map none), (.int .i64 (0)), (.int .i64 (0))] [(0, 1, (.t 30)), (1, 1, (.t 31)), (2, 1, (.t 32)), (3, 1, (.t 33))]⟩,
    ⟨(some 35), none, .box (.t 34)⟩,
    ⟨(some 7), none, .mv (.t 35)⟩])
  (.seq (.ops [⟨(some 8), none, .mv (.c (.int .i64 (-1)))⟩])
  (.seq (.seq (.ops [⟨(some 36), none, .mv (.t 7)⟩,
    ⟨(some 37), none, .call (.c (.func (.func 13) [] [])) [(.t 36)]⟩,
    ⟨(some 38), none, .bin .add (.t 37) (.c (.int .i64 (7)))⟩,
    ⟨(some 39), none, .bin .sub (.t 38) (.c (.int .i64 (1)))⟩,
    ⟨(some 40), none, .bin .quo (.t 39) (.c (.int .i64 (7)))⟩,
    ⟨(some 41), none, .mv (.c (.int .i64 (0)))⟩])
  (.block 0 (.loop (.seq (.ops [⟨(some 42), none, .bin .lss (.t 41) (.t 40)⟩])
    (.seq (.cond (.t 42)
     (.skip)
     (.exit 0))
    (.seq (.block 1 (.seq (.ops [⟨(some 43), none, .mv (.t 41)⟩,
       ⟨(some 9), none, .mv (.t 43)⟩])
     (.seq (.ops [⟨(some 45), none, .mv (.t 7)⟩,
       ⟨(some 46), none, .mv (.t 9)⟩,
       ⟨(some 47), none, .call (.c (.func (.func 18) [] [])) [(.t 45), (.t 46)]⟩,
       ⟨(some 44), none, .mv (.t 47)⟩,
       ⟨(some 48), none, .extract 0 (.t 44)⟩,
       ⟨(some 49), none, .extract 1 (.t 44)⟩,
       ⟨(some 10), none, .alloc none [(.int .i64 (0)), (.slice none 0 0)]⟩,
       ⟨none, none, .store 2 (.t 10) (.t 48)⟩,
       ⟨(some 11), none, .mv (.t 49)⟩])
     (.seq (.seq (.ops [⟨(some 50), none, .mv (.t 11)⟩,
       ⟨(some 51), none, .not (.t 50)⟩,
       ⟨(some 52), none, .mv (.t 51)⟩,
       ⟨(some 53), (some (52, false)), .fieldAddr 0 (.t 10)⟩,
       ⟨(some 54), (some (52, false)), .load none (.t 53)⟩,
       ⟨(some 55), (some (52, false)), .mv (.t 8)⟩,
       ⟨(some 56), (some (52, false)), .bin .lss (.t 54) (.t 55)⟩,
       ⟨(some 57), none, .pick (.t 52) (.c (.bool true)) (.t 56)⟩])
     (.cond (.t 57)
      (.exit 1)
      (.skip)))
     (.seq (.draw [⟨⟨(some 58), none, .mv (.t 7)⟩, 0, []⟩,
       ⟨⟨(some 59), none, .fieldAddr 0 (.t 10)⟩, 1, []⟩,
       ⟨⟨(some 60), none, .load none (.t 59)⟩, 2, [1]⟩,
       ⟨⟨(some 61), none, .fieldAddr 0 (.t 10)⟩, 3, []⟩,
       ⟨⟨(some 62), none, .load none (.t 61)⟩, 4, [3]⟩,
       ⟨⟨(some 8), none, .mv (.t 60)⟩, 5, [1, 2]⟩,
       ⟨⟨(some 63), none, .nilck (.t 58)⟩, 6, [0, 1, 2, 3, 4, 5]⟩,
       ⟨⟨(some 64), none, .fieldAddr 4 (.t 63)⟩, 7, [0, 1, 2, 3, 4, 5, 6]⟩,
       ⟨⟨none, none, .store 1 (.t 64) (.t 62)⟩, 8, [0, 1, 2, 3, 4, 5, 6, 7]⟩])
     (.seq (.ops [⟨(some 65), none, .mv (.t 7)⟩,
       ⟨(some 66), none, .mv (.t 9)⟩,
       ⟨(some 67), none, .bin .add (.t 66) (.c (.int .i64 (1)))⟩,
       ⟨(some 68), none, .bin .mul (.c (.int .i64 (7))) (.t 67)⟩,
       ⟨(some 69), none, .nilck (.t 65)⟩,
       ⟨(some 70), none, .fieldAddr 5 (.t 69)⟩,
       ⟨none, none, .store 1 (.t 70) (.t 68)⟩])
     (.seq (.draw [⟨⟨(some 71), none, .mv (.t 7)⟩, 0, []⟩,
       ⟨⟨(some 72), none, .nilck (.t 71)⟩, 1, [0]⟩,
       ⟨⟨(some 73), none, .fieldAddr 5 (.t 72)⟩, 2, [0, 1]⟩,
       ⟨⟨(some 74), none, .load none (.t 73)⟩, 3, [0, 1, 2]⟩,
       ⟨⟨(some 75), none, .mv (.t 7)⟩, 4, []⟩,
       ⟨⟨(some 76), none, .call (.c (.func (.func 13) [] [])) [(.t 75)]⟩, 5, [4]⟩,
       ⟨⟨(some 77), none, .bin .geq (.t 74) (.t 76)⟩, 6, [0, 1, 2, 3, 4, 5]⟩])
     (.cond (.t 77)
      (.ops [⟨(some 78), none, .mv (.t 7)⟩,
        ⟨(some 79), none, .nilck (.t 78)⟩,
        ⟨(some 80), none, .fieldAddr 5 (.t 79)⟩,
        ⟨none, none, .store 1 (.t 80) (.c (.int .i64 (0)))⟩])
      (.skip)))))))))
    (.ops [⟨(some 81), none, .bin .add (.t 41) (.c (.int .i64 (1)))⟩,
      ⟨(some 41), none, .mv (.t 81)⟩])))))))
  (.seq (.ops [⟨(some 82), none, .mv (.t 7)⟩,
    ⟨(some 6), none, .mv (.t 82)⟩])
  (.ret))))))⟩
theorem a9_ok : funcC Tryd.prog Tryd.f9 = some a9 := by kernel_rfl
/-- (*permafrost/second.Second).Feed -/
def a10 : AFunc := ⟨3, [.tmp 6],
  .seq (.ops [⟨(some 3), none, .box (.t 0)⟩,
    ⟨(some 4), none, .box (.t 1)⟩,
    ⟨(some 5), none, .box (.t 2)⟩,
    ⟨(some 6), none, .mv (.c (.bool false))⟩])
  (.seq (.seq (.ops [⟨(some 12), none, .load none (.t 3)⟩,
    ⟨(some 13), none, .eq false (.flat .ptr) (.t 12) (.c (.ptr none))⟩,
    ⟨(some 14), none, .mv (.t 13)⟩,
    ⟨(some 15), (some (14, false)), .load none (.t 4)⟩,
    ⟨(some 16), (some (14, false)), .bin .eql (.t 15) (.c (.str []))⟩,
    ⟨(some 17), none, .pick (.t 14) (.c (.bool true)) (.t 16)⟩,
    ⟨(some 18), none, .mv (.t 17)⟩,
    ⟨(some 19), (some (18, false)), .load none (.t 4)⟩,
    ⟨(some 20), (some (18, false)), .lenStr (.t 19)⟩,
    ⟨(some 21), (some (18, false)), .bin .gtr (.t 20) (.c (.int .i64 (60)))⟩,
    ⟨(some 22), none, .pick (.t 18) (.c (.bool true)) (.t 21)⟩,
    ⟨(some 23), none, .mv (.t 22)⟩,
    ⟨(some 24), (some (23, false)), .load none (.t 5)⟩,
    ⟨(some 25), (some (23, false)), .lenStr (.t 24)⟩,
    ⟨(some 26), (some (23, false)), .bin .gtr (.t 25) (.c (.int .i64 (960)))⟩,
    ⟨(some 27), none, .pick (.t 23) (.c (.bool true)) (.t 26)⟩,
    ⟨(some 28), none, .mv (.t 27)⟩,
    ⟨(some 29), (some (28, false)), .load none (.t 3)⟩,
    ⟨(some 30), (some (28, false)), .nilck (.t 29)⟩,
    ⟨(some 31), (some (28, false)), .fieldAddr 0 (.t 30)⟩,
    ⟨(some 32), (some (28, false)), .load none (.t 31)⟩,
    ⟨(some 33), (some (28, false)), .call (.c (.func (.func 19) [] [])) [(.t 32), (.c (.int .i64 (1)))]⟩,
    ⟨(some 34), none, .pick (.t 28) (.c (.bool true)) (.t 33)⟩])
  (.cond (.t 34)
   (.seq (.ops [⟨(some 6), none, .mv (.c (.bool false))⟩])
   (.ret))
   (.skip)))
  (.seq (.seq (.ops [⟨(some 36), none, .load none (.t 3)⟩,
    ⟨(some 37), none, .load none (.t 4)⟩,
    ⟨(some 38), none, .call (.c (.func (.func 20) [] [])) [(.t 36), (.t 37)]⟩,
    ⟨(some 35), none, .mv (.t 38)⟩,
    ⟨(some 39), none, .extract 0 (.t 35)⟩,
    ⟨(some 40), none, .extract 1 (.t 35)⟩,
    ⟨(some 7), none, .mv (.t 39)⟩,
    ⟨(some 8), none, .mv (.t 40)⟩])
  (.seq (.ops [⟨(some 41), none, .mv (.t 8)⟩])
  (.cond (.t 41)
   (.seq (.ops [⟨(some 6), none, .mv (.c (.bool true))⟩])
   (.ret))
   (.skip))))
  (.seq (.ops [⟨(some 42), none, .load none (.t 3)⟩,
    ⟨(some 43), none, .nilck (.t 42)⟩,
    ⟨(some 44), none, .fieldAddr 5 (.t 43)⟩,
    ⟨(some 45), none, .load none (.t 44)⟩,
    ⟨(some 46), none, .bin .quo (.t 45) (.c (.int .i64 (7)))⟩,
    ⟨(some 9), none, .alloc none [(.int .i64 (0))]⟩,
    ⟨none, none, .store 1 (.t 9) (.t 46)⟩])
  (.seq (.seq (.ops [⟨(some 47), none, .load none (.t 3)⟩,
    ⟨(some 48), none, .load none (.t 9)⟩,
    ⟨(some 49), none, .call (.c (.func (.func 21) [] [])) [(.t 47), (.t 48)]⟩])
  (.block 0 (.range 110 (.t 49) [50, 51]
    (.seq (.ops [⟨(some 10), none, .mv (.t 50)⟩])
    (.ops [⟨(some 11), none, .mv (.t 51)⟩]))
    (.block 1 (.seq (.seq (.ops [⟨(some 52), none, .mv (.t 10)⟩,
       ⟨(some 53), none, .load none (.t 3)⟩,
       ⟨(some 54), none, .nilck (.t 53)⟩,
       ⟨(some 55), none, .fieldAddr 5 (.t 54)⟩,
       ⟨(some 56), none, .load none (.t 55)⟩,
       ⟨(some 57), none, .bin .neq (.t 52) (.t 56)⟩])
     (.cond (.t 57)
      (.exit 1)
      (.skip)))
     (.seq (.ops [⟨(some 58), none, .load none (.t 3)⟩,
       ⟨(some 59), none, .nilck (.t 58)⟩,
       ⟨(some 60), none, .fieldAddr 3 (.t 59)⟩,
       ⟨(some 61), none, .load none (.t 60)⟩,
       ⟨(some 62), none, .mv (.t 10)⟩,
       ⟨none, none, .mapDel .int (.t 61) (.t 62)⟩])
     (.seq (.ops [⟨(some 63), none, .load none (.t 3)⟩,
       ⟨(some 64), none, .load none (.t 9)⟩,
       ⟨(some 65), none, .call (.c (.func (.func 22) [] [])) [(.t 63), (.t 64)]⟩])
     (.seq (.ops [⟨(some 66), none, .load none (.t 3)⟩,
       ⟨(some 67), none, .nilck (.t 66)⟩,
       ⟨(some 68), none, .fieldAddr 0 (.t 67)⟩,
       ⟨(some 69), none, .load none (.t 68)⟩,
       ⟨(some 70), none, .call (.c (.func (.func 11) [] [])) [(.t 69)]⟩])
     (.seq (.draw [⟨⟨(some 71), none, .load none (.t 3)⟩, 0, []⟩,
       ⟨⟨(some 72), none, .nilck (.t 71)⟩, 1, [0]⟩,
       ⟨⟨(some 73), none, .fieldAddr 0 (.t 72)⟩, 2, [0, 1]⟩,
       ⟨⟨(some 74), none, .load none (.t 73)⟩, 3, [0, 1, 2]⟩,
       ⟨⟨(some 75), none, .mv (.t 11)⟩, 4, []⟩,
       ⟨⟨(some 76), none, .build [(.int .i64 (0)), (.int .i64 (0))] [(0, 1, (.c (.int .i64 (1)))), (1, 1, (.t 75))]⟩, 5, [4]⟩,
       ⟨⟨(some 77), none, .load none (.t 5)⟩, 6, []⟩,
       ⟨⟨(some 78), none, .call (.c (.func (.func 23) [] [])) [(.t 74), (.t 76), (.t 77)]⟩, 7, [0, 1, 2, 3, 4, 5, 6]⟩])
     (.seq (.ops [⟨(some 79), none, .load none (.t 3)⟩,
       ⟨(some 80), none, .nilck (.t 79)⟩,
       ⟨(some 81), none, .fieldAddr 0 (.t 80)⟩,
       ⟨(some 82), none, .load none (.t 81)⟩,
       ⟨(some 83), none, .call (.c (.func (.func 11) [] [])) [(.t 82)]⟩])
     (.seq (.draw [⟨⟨(some 84), none, .load none (.t 3)⟩, 0, []⟩,
       ⟨⟨(some 85), none, .nilck (.t 84)⟩, 1, [0]⟩,
       ⟨⟨(some 86), none, .fieldAddr 3 (.t 85)⟩, 2, [0, 1]⟩,
       ⟨⟨(some 87), none, .load none (.t 86)⟩, 3, [0, 1, 2]⟩,
       ⟨⟨(some 88), none, .mv (.t 10)⟩, 4, []⟩,
       ⟨⟨(some 89), none, .load none (.t 4)⟩, 5, []⟩,
       ⟨⟨(some 90), none, .load none (.t 5)⟩, 6, []⟩,
       ⟨⟨(some 92), none, .load none (.t 5)⟩, 8, []⟩,
       ⟨⟨(some 93), none, .lenStr (.t 92)⟩, 9, [7]⟩,
       ⟨⟨(some 94), none, .mv (.t 11)⟩, 10, []⟩,
       ⟨⟨(some 91), none, .call (.c (.func (.func 24) [] [])) [(.t 90)]⟩, 7, [6]⟩,
       ⟨⟨(some 95), none, .build [(.str []), (.str []), (.int .i64 (0)), (.int .i64 (0))] [(0, 1, (.t 89)), (1, 1, (.t 91)), (2, 1, (.t 93)), (3, 1, (.t 94))]⟩, 11, [5, 6, 7, 8, 9, 10]⟩,
       ⟨⟨none, none, .mapUpd .int (.t 87) (.t 88) (.t 95)⟩, 12, [0, 1, 2, 3, 4, 5, 6, 7, 8, 9, 10, 11]⟩])
     (.ops [⟨(some 96), none, .load none (.t 3)⟩,
       ⟨(some 97), none, .load none (.t 9)⟩,
       ⟨(some 98), none, .call (.c (.func (.func 22) [] [])) [(.t 96), (.t 97)]⟩]))))))))))))
  (.seq (.draw [⟨⟨(some 99), none, .load none (.t 3)⟩, 0, []⟩,
    ⟨⟨(some 100), none, .load none (.t 3)⟩, 1, []⟩,
    ⟨⟨(some 101), none, .nilck (.t 100)⟩, 2, [1]⟩,
    ⟨⟨(some 102), none, .fieldAddr 5 (.t 101)⟩, 3, [1, 2]⟩,
    ⟨⟨(some 103), none, .load none (.t 102)⟩, 4, [1, 2, 3]⟩,
    ⟨⟨(some 104), none, .bin .add (.t 103) (.c (.int .i64 (1)))⟩, 5, [1, 2, 3, 4]⟩,
    ⟨⟨(some 105), none, .load none (.t 3)⟩, 6, []⟩,
    ⟨⟨(some 106), none, .call (.c (.func (.func 13) [] [])) [(.t 105)]⟩, 7, [6]⟩,
    ⟨⟨(some 107), none, .bin .rem (.t 104) (.t 106)⟩, 8, [1, 2, 3, 4, 5, 6, 7]⟩,
    ⟨⟨(some 108), none, .nilck (.t 99)⟩, 9, [0, 1, 2, 3, 4, 5, 6, 7, 8]⟩,
    ⟨⟨(some 109), none, .fieldAddr 5 (.t 108)⟩, 10, [0, 1, 2, 3, 4, 5, 6, 7, 8, 9]⟩,
    ⟨⟨none, none, .store 1 (.t 109) (.t 107)⟩, 11, [0, 1, 2, 3, 4, 5, 6, 7, 8, 9, 10]⟩])
  (.seq (.ops [⟨(some 6), none, .mv (.c (.bool true))⟩])
  (.ret)))))))⟩
theorem a10_ok : funcC Tryd.prog Tryd.f10 = some a10 := by kernel_rfl
/-- (*permafrost/dev.Devs).Flush -/
def a11 : AFunc := ⟨1, [.tmp 2],
  .seq (.ops [⟨(some 2), none, .mv (.c (.int .i64 (0)))⟩])
  (.seq (.ops [⟨(some 3), none, .mv (.t 0)⟩,
    ⟨(some 4), none, .call (.c (.func (.func 25) [] [])) [(.t 3), (.c (.func (.func 26) [] []))]⟩,
    ⟨(some 2), none, .mv (.t 4)⟩])
  (.ret))⟩
theorem a11_ok : funcC Tryd.prog Tryd.f11 = some a11 := by kernel_rfl
/-- (*permafrost/second.Second).Find -/
def a12 : AFunc := ⟨2, [.tmp 4, .tmp 5],
  .seq (.ops [⟨(some 4), none, .mv (.c (.str []))⟩,
    ⟨(some 5), none, .mv (.c (.bool false))⟩])
  (.seq (.seq (.ops [⟨(some 11), none, .mv (.t 0)⟩,
    ⟨(some 12), none, .eq false (.flat .ptr) (.t 11) (.c (.ptr none))⟩])
  (.cond (.t 12)
   (.seq (.ops [⟨(some 4), none, .mv (.c (.str []))⟩,
     ⟨(some 5), none, .mv (.c (.bool false))⟩])
   (.ret))
   (.skip)))
  (.seq (.ops [⟨(some 14), none, .mv (.t 0)⟩,
    ⟨(some 15), none, .mv (.t 1)⟩,
    ⟨(some 16), none, .call (.c (.func (.func 20) [] [])) [(.t 14), (.t 15)]⟩,
    ⟨(some 13), none, .mv (.t 16)⟩,
    ⟨(some 17), none, .extract 0 (.t 13)⟩,
    ⟨(some 18), none, .extract 1 (.t 13)⟩,
    ⟨(some 6), none, .mv (.t 17)⟩,
    ⟨(some 7), none, .mv (.t 18)⟩])
  (.seq (.seq (.ops [⟨(some 19), none, .mv (.t 7)⟩,
    ⟨(some 20), none, .not (.t 19)⟩])
  (.cond (.t 20)
   (.seq (.ops [⟨(some 4), none, .mv (.c (.str []))⟩,
     ⟨(some 5), none, .mv (.c (.bool false))⟩])
   (.ret))
   (.skip)))
  (.seq (.ops [⟨(some 21), none, .mv (.t 0)⟩,
    ⟨(some 22), none, .nilck (.t 21)⟩,
    ⟨(some 23), none, .fieldAddr 3 (.t 22)⟩,
    ⟨(some 24), none, .load none (.t 23)⟩,
    ⟨(some 25), none, .mv (.t 6)⟩,
    ⟨(some 26), none, .lookup .int (.agg [(.str []), (.str []), (.int .i64 (0)), (.int .i64 (0))]) false (.t 24) (.t 25)⟩,
    ⟨(some 8), none, .alloc none [(.str []), (.str []), (.int .i64 (0)), (.int .i64 (0))]⟩,
    ⟨none, none, .store 4 (.t 8) (.t 26)⟩])
  (.seq (.draw [⟨⟨(some 28), none, .mv (.t 0)⟩, 0, []⟩,
    ⟨⟨(some 29), none, .nilck (.t 28)⟩, 1, [0]⟩,
    ⟨⟨(some 30), none, .fieldAddr 0 (.t 29)⟩, 2, [0, 1]⟩,
    ⟨⟨(some 31), none, .load none (.t 30)⟩, 3, [0, 1, 2]⟩,
    ⟨⟨(some 32), none, .fieldAddr 3 (.t 8)⟩, 4, []⟩,
    ⟨⟨(some 33), none, .load none (.t 32)⟩, 5, [4]⟩,
    ⟨⟨(some 34), none, .build [(.int .i64 (0)), (.int .i64 (0))] [(0, 1, (.c (.int .i64 (1)))), (1, 1, (.t 33))]⟩, 6, [4, 5]⟩,
    ⟨⟨(some 35), none, .call (.c (.func (.func 16) [] [])) [(.t 31), (.t 34)]⟩, 7, [0, 1, 2, 3, 4, 5, 6]⟩,
    ⟨⟨(some 27), none, .mv (.t 35)⟩, 8, [0, 1, 2, 3, 4, 5, 6, 7]⟩,
    ⟨⟨(some 36), none, .extract 0 (.t 27)⟩, 9, [0, 1, 2, 3, 4, 5, 6, 7, 8]⟩,
    ⟨⟨(some 37), none, .extract 1 (.t 27)⟩, 10, [0, 1, 2, 3, 4, 5, 6, 7, 8]⟩,
    ⟨⟨(some 9), none, .mv (.t 36)⟩, 11, [0, 1, 2, 3, 4, 5, 6, 7, 8, 9]⟩,
    ⟨⟨(some 10), none, .mv (.t 37)⟩, 12, [0, 1, 2, 3, 4, 5, 6, 7, 8, 9, 10, 11]⟩])
  (.seq (.seq (.draw [⟨⟨(some 38), none, .mv (.t 10)⟩, 0, []⟩,
    ⟨⟨(some 39), none, .bin .eql (.t 38) (.c (.int .i64 (0)))⟩, 1, [0]⟩,
    ⟨⟨(some 40), none, .mv (.t 39)⟩, 2, [0, 1]⟩,
    ⟨⟨(some 41), (some (40, true)), .mv (.t 9)⟩, 3, [0, 1, 2]⟩,
    ⟨⟨(some 42), (some (40, true)), .lenStr (.t 41)⟩, 4, [0, 1, 2, 3]⟩,
    ⟨⟨(some 43), (some (40, true)), .fieldAddr 2 (.t 8)⟩, 5, [0, 1, 2]⟩,
    ⟨⟨(some 44), (some (40, true)), .load none (.t 43)⟩, 6, [0, 1, 2, 5]⟩,
    ⟨⟨(some 45), (some (40, true)), .bin .eql (.t 42) (.t 44)⟩, 7, [0, 1, 2, 3, 4, 5, 6]⟩,
    ⟨⟨(some 46), none, .pick (.t 40) (.t 45) (.c (.bool false))⟩, 8, [0, 1, 2, 3, 4, 5, 6, 7]⟩,
    ⟨⟨(some 47), none, .mv (.t 46)⟩, 9, [0, 1, 2, 3, 4, 5, 6, 7, 8]⟩,
    ⟨⟨(some 48), (some (47, true)), .mv (.t 9)⟩, 10, [0, 1, 2, 3, 4, 5, 6, 7, 8, 9]⟩,
    ⟨⟨(some 50), (some (47, true)), .fieldAddr 1 (.t 8)⟩, 12, [0, 1, 2, 3, 4, 5, 6, 7, 8, 9]⟩,
    ⟨⟨(some 51), (some (47, true)), .load none (.t 50)⟩, 13, [0, 1, 2, 3, 4, 5, 6, 7, 8, 9, 11]⟩,
    ⟨⟨(some 49), (some (47, true)), .call (.c (.func (.func 24) [] [])) [(.t 48)]⟩, 11, [0, 1, 2, 3, 4, 5, 6, 7, 8, 9, 10]⟩,
    ⟨⟨(some 52), (some (47, true)), .bin .eql (.t 49) (.t 51)⟩, 14, [0, 1, 2, 3, 4, 5, 6, 7, 8, 9, 10, 11, 12, 13]⟩,
    ⟨⟨(some 53), none, .pick (.t 47) (.t 52) (.c (.bool false))⟩, 15, [0, 1, 2, 3, 4, 5, 6, 7, 8, 9, 10, 11, 12, 13, 14]⟩])
  (.cond (.t 53)
   (.seq (.ops [⟨(some 54), none, .mv (.t 9)⟩,
     ⟨(some 4), none, .mv (.t 54)⟩,
     ⟨(some 5), none, .mv (.c (.bool true))⟩])
   (.ret))
   (.skip)))
  (.seq (.ops [⟨(some 55), none, .mv (.t 0)⟩,
    ⟨(some 56), none, .nilck (.t 55)⟩,
    ⟨(some 57), none, .fieldAddr 3 (.t 56)⟩,
    ⟨(some 58), none, .load none (.t 57)⟩,
    ⟨(some 59), none, .mv (.t 6)⟩,
    ⟨none, none, .mapDel .int (.t 58) (.t 59)⟩])
  (.seq (.ops [⟨(some 4), none, .mv (.c (.str []))⟩,
    ⟨(some 5), none, .mv (.c (.bool false))⟩])
  (.ret)))))))))⟩
theorem a12_ok : funcC Tryd.prog Tryd.f12 = some a12 := by kernel_rfl
/-- (*permafrost/second.Second).Room -/
def a13 : AFunc := ⟨1, [.tmp 2],
  .seq (.ops [⟨(some 2), none, .mv (.c (.int .i64 (0)))⟩])
  (.seq (.seq (.ops [⟨(some 3), none, .mv (.t 0)⟩,
    ⟨(some 4), none, .eq false (.flat .ptr) (.t 3) (.c (.ptr none))⟩])
  (.cond (.t 4)
   (.seq (.ops [⟨(some 2), none, .mv (.c (.int .i64 (0)))⟩])
   (.ret))
   (.skip)))
  (.seq (.draw [⟨⟨(some 5), none, .mv (.t 0)⟩, 0, []⟩,
    ⟨⟨(some 6), none, .nilck (.t 5)⟩, 1, [0]⟩,
    ⟨⟨(some 7), none, .fieldAddr 2 (.t 6)⟩, 2, [0, 1]⟩,
    ⟨⟨(some 8), none, .load none (.t 7)⟩, 3, [0, 1, 2]⟩,
    ⟨⟨(some 9), none, .bin .quo (.t 8) (.c (.int .i64 (8)))⟩, 4, [0, 1, 2, 3]⟩,
    ⟨⟨(some 10), none, .bin .mul (.t 9) (.c (.int .i64 (7)))⟩, 5, [0, 1, 2, 3, 4]⟩,
    ⟨⟨(some 11), none, .mv (.t 0)⟩, 6, []⟩,
    ⟨⟨(some 12), none, .nilck (.t 11)⟩, 7, [6]⟩,
    ⟨⟨(some 13), none, .fieldAddr 2 (.t 12)⟩, 8, [6, 7]⟩,
    ⟨⟨(some 14), none, .load none (.t 13)⟩, 9, [6, 7, 8]⟩,
    ⟨⟨(some 15), none, .bin .rem (.t 14) (.c (.int .i64 (8)))⟩, 10, [6, 7, 8, 9]⟩,
    ⟨⟨(some 16), none, .bin .sub (.t 15) (.c (.int .i64 (1)))⟩, 11, [6, 7, 8, 9, 10]⟩,
    ⟨⟨(some 17), none, .max2 (.t 16) (.c (.int .i64 (0)))⟩, 12, [6, 7, 8, 9, 10, 11]⟩,
    ⟨⟨(some 18), none, .bin .add (.t 10) (.t 17)⟩, 13, [0, 1, 2, 3, 4, 5, 6, 7, 8, 9, 10, 11, 12]⟩,
    ⟨⟨(some 2), none, .mv (.t 18)⟩, 14, [0, 1, 2, 3, 4, 5, 6, 7, 8, 9, 10, 11, 12, 13]⟩])
  (.ret)))⟩
theorem a13_ok : funcC Tryd.prog Tryd.f13 = some a13 := by kernel_rfl
/-- (*permafrost/second.Second).Entries -/
def a14 : AFunc := ⟨1, [.tmp 2],
  .seq (.ops [⟨(some 2), none, .mv (.c (.slice none 0 0))⟩])
  (.seq (.seq (.ops [⟨(some 6), none, .mv (.t 0)⟩,
    ⟨(some 7), none, .eq false (.flat .ptr) (.t 6) (.c (.ptr none))⟩])
  (.cond (.t 7)
   (.seq (.ops [⟨(some 2), none, .mv (.c (.slice none 0 0))⟩])
   (.ret))
   (.skip)))
  (.seq (.ops [⟨(some 3), none, .mv (.c (.slice none 0 0))⟩])
  (.seq (.seq (.ops [⟨(some 8), none, .mv (.t 0)⟩,
    ⟨(some 9), none, .nilck (.t 8)⟩,
    ⟨(some 10), none, .fieldAddr 3 (.t 9)⟩,
    ⟨(some 11), none, .load none (.t 10)⟩,
    ⟨(some 12), none, .call (.c (.func (.func 28) [] [])) [(.t 11)]⟩,
    ⟨(some 13), none, .call (.c (.func (.func 27) [] [])) [(.t 12)]⟩,
    ⟨(some 14), none, .lenSl (.t 13)⟩,
    ⟨(some 15), none, .mv (.c (.int .i64 (0)))⟩])
  (.block 0 (.loop (.seq (.ops [⟨(some 16), none, .bin .lss (.t 15) (.t 14)⟩])
    (.seq (.cond (.t 16)
     (.skip)
     (.exit 0))
    (.seq (.block 1 (.seq (.ops [⟨(some 17), none, .idxSl 1 (.t 13) (.t 15)⟩,
       ⟨(some 18), none, .load none (.t 17)⟩,
       ⟨(some 5), none, .mv (.t 18)⟩])
     (.ops [⟨(some 19), none, .mv (.t 3)⟩,
       ⟨(some 20), none, .mv (.t 0)⟩,
       ⟨(some 21), none, .nilck (.t 20)⟩,
       ⟨(some 22), none, .fieldAddr 3 (.t 21)⟩,
       ⟨(some 23), none, .load none (.t 22)⟩,
       ⟨(some 24), none, .mv (.t 5)⟩,
       ⟨(some 25), none, .lookup .int (.agg [(.str []), (.str []), (.int .i64 (0)), (.int .i64 (0))]) false (.t 23) (.t 24)⟩,
       ⟨(some 26), none, .buildSl [(.str []), (.str []), (.int .i64 (0)), (.int .i64 (0))] 1 [(0, 4, (.t 25))]⟩,
       ⟨(some 27), none, .append 4 48 none (.t 19) (.t 26)⟩,
       ⟨(some 3), none, .mv (.t 27)⟩])))
    (.ops [⟨(some 28), none, .bin .add (.t 15) (.c (.int .i64 (1)))⟩,
      ⟨(some 15), none, .mv (.t 28)⟩])))))))
  (.seq (.ops [⟨(some 29), none, .mv (.t 3)⟩,
    ⟨(some 2), none, .mv (.t 29)⟩])
  (.ret)))))⟩
theorem a14_ok : funcC Tryd.prog Tryd.f14 = some a14 := by kernel_rfl
/-- (*permafrost/dev.Devs).Size -/
def a15 : AFunc := ⟨2, [.tmp 4],
  .seq (.ops [⟨(some 4), none, .mv (.c (.int .i64 (0)))⟩])
  (.seq (.seq (.ops [⟨(some 5), none, .mv (.t 0)⟩,
    ⟨(some 6), none, .mv (.t 1)⟩,
    ⟨(some 7), none, .call (.c (.func (.func 29) [] [])) [(.t 5), (.t 6)]⟩,
    ⟨(some 8), none, .not (.t 7)⟩])
  (.cond (.t 8)
   (.seq (.ops [⟨(some 4), none, .mv (.c (.int .i64 (0)))⟩])
   (.ret))
   (.skip)))
  (.seq (.ops [⟨(some 9), none, .mv (.t 0)⟩,
    ⟨(some 10), none, .mv (.t 1)⟩,
    ⟨(some 11), none, .nilck (.t 9)⟩,
    ⟨(some 12), none, .fieldAddr 0 (.t 11)⟩,
    ⟨(some 13), none, .idxArr 2 1 (.t 12) (.t 10)⟩,
    ⟨(some 14), none, .load none (.t 13)⟩,
    ⟨(some 15), none, .lenSl (.t 14)⟩,
    ⟨(some 4), none, .mv (.t 15)⟩])
  (.ret)))⟩
theorem a15_ok : funcC Tryd.prog Tryd.f15 = some a15 := by kernel_rfl
/-- (*permafrost/dev.Devs).Read -/
def a16 : AFunc := ⟨2, [.cell 4 none, .cell 5 none],
  .seq (.ops [⟨(some 3), none, .box (.t 1)⟩,
    ⟨(some 4), none, .alloc none [(.str [])]⟩,
    ⟨(some 5), none, .alloc none [(.int .i64 (0))]⟩])
  (.seq (.seq (.ops [⟨(some 9), none, .mv (.t 0)⟩,
    ⟨(some 10), none, .load (some 2) (.t 3)⟩,
    ⟨(some 11), none, .call (.c (.func (.func 30) [] [])) [(.t 9), (.t 10), (.c (.str []))]⟩,
    ⟨(some 6), none, .mv (.t 11)⟩])
  (.seq (.ops [⟨(some 12), none, .mv (.t 6)⟩,
    ⟨(some 13), none, .bin .neq (.t 12) (.c (.int .i64 (0)))⟩])
  (.cond (.t 13)
   (.seq (.ops [⟨(some 14), none, .mv (.t 6)⟩,
     ⟨none, none, .store 1 (.t 4) (.c (.str []))⟩,
     ⟨none, none, .store 1 (.t 5) (.t 14)⟩])
   (.ret))
   (.skip))))
  (.seq (.seq (.ops [⟨(some 15), none, .mv (.t 0)⟩,
    ⟨(some 16), none, .nilck (.t 15)⟩,
    ⟨(some 17), none, .fieldAddr 4 (.t 16)⟩,
    ⟨(some 18), none, .load none (.t 17)⟩,
    ⟨(some 19), none, .call (.c (.func (.func 31) [] [])) [(.t 18)]⟩])
  (.block 0 (.range 39 (.t 19) [20, 21]
    (.ops [⟨(some 8), none, .alloc none [(.int .i64 (0)), (.int .i64 (0)), (.str [])]⟩,
      ⟨none, none, .store 3 (.t 8) (.t 21)⟩])
    (.block 1 (.seq (.ops [⟨(some 22), none, .fieldAddr 0 (.t 8)⟩,
       ⟨(some 23), none, .load (some 2) (.t 22)⟩,
       ⟨(some 24), none, .load (some 2) (.t 3)⟩,
       ⟨(some 25), none, .eq false (.struct [(0, none, (.flat .int)), (1, none, (.flat .int))]) (.t 23) (.t 24)⟩])
     (.cond (.t 25)
      (.seq (.ops [⟨(some 26), none, .fieldAddr 2 (.t 8)⟩,
        ⟨(some 27), none, .load none (.t 26)⟩,
        ⟨none, none, .store 1 (.t 4) (.t 27)⟩,
        ⟨none, none, .store 1 (.t 5) (.c (.int .i64 (0)))⟩])
      (.ret))
      (.skip)))))))
  (.seq (.draw [⟨⟨(some 28), none, .mv (.t 0)⟩, 0, []⟩,
    ⟨⟨(some 29), none, .fieldAddr 0 (.t 3)⟩, 1, []⟩,
    ⟨⟨(some 30), none, .load none (.t 29)⟩, 2, [1]⟩,
    ⟨⟨(some 31), none, .nilck (.t 28)⟩, 3, [0]⟩,
    ⟨⟨(some 32), none, .fieldAddr 0 (.t 31)⟩, 4, [0, 3]⟩,
    ⟨⟨(some 33), none, .idxArr 2 1 (.t 32) (.t 30)⟩, 5, [0, 1, 2, 3, 4]⟩,
    ⟨⟨(some 34), none, .load none (.t 33)⟩, 6, [0, 1, 2, 3, 4, 5]⟩,
    ⟨⟨(some 35), none, .fieldAddr 1 (.t 3)⟩, 7, []⟩,
    ⟨⟨(some 36), none, .load none (.t 35)⟩, 8, [7]⟩,
    ⟨⟨(some 37), none, .idxSl 1 (.t 34) (.t 36)⟩, 9, [0, 1, 2, 3, 4, 5, 6, 7, 8]⟩,
    ⟨⟨(some 38), none, .load none (.t 37)⟩, 10, [0, 1, 2, 3, 4, 5, 6, 7, 8, 9]⟩,
    ⟨⟨none, none, .store 1 (.t 4) (.t 38)⟩, 11, [0, 1, 2, 3, 4, 5, 6, 7, 8, 9, 10]⟩,
    ⟨⟨none, none, .store 1 (.t 5) (.c (.int .i64 (0)))⟩, 12, [0, 1, 2, 3, 4, 5, 6, 7, 8, 9, 10, 11]⟩])
  (.ret))))⟩
theorem a16_ok : funcC Tryd.prog Tryd.f16 = some a16 := by kernel_rfl
/-- (*permafrost/dev.Devs).Spoil -/
def a17 : AFunc := ⟨3, [.tmp 6],
  .seq (.ops [⟨(some 4), none, .box (.t 1)⟩,
    ⟨(some 6), none, .mv (.c (.int .i64 (0)))⟩])
  (.seq (.seq (.ops [⟨(some 8), none, .mv (.t 0)⟩,
    ⟨(some 9), none, .load (some 2) (.t 4)⟩,
    ⟨(some 10), none, .mv (.t 2)⟩,
    ⟨(some 11), none, .call (.c (.func (.func 30) [] [])) [(.t 8), (.t 9), (.t 10)]⟩,
    ⟨(some 7), none, .mv (.t 11)⟩])
  (.seq (.ops [⟨(some 12), none, .mv (.t 7)⟩,
    ⟨(some 13), none, .bin .neq (.t 12) (.c (.int .i64 (0)))⟩])
  (.cond (.t 13)
   (.seq (.ops [⟨(some 14), none, .mv (.t 7)⟩,
     ⟨(some 6), none, .mv (.t 14)⟩])
   (.ret))
   (.skip))))
  (.seq (.ops [⟨(some 15), none, .mv (.t 0)⟩,
    ⟨(some 16), none, .mkFn (.func 33) [] [(.t 4)]⟩,
    ⟨(some 17), none, .call (.c (.func (.func 32) [] [])) [(.t 15), (.t 16)]⟩])
  (.seq (.ops [⟨(some 18), none, .mv (.t 0)⟩,
    ⟨(some 19), none, .load (some 2) (.t 4)⟩,
    ⟨(some 20), none, .mv (.t 2)⟩,
    ⟨(some 21), none, .build [(.int .i64 (0)), (.int .i64 (0)), (.str [])] [(0, 2, (.t 19)), (2, 1, (.t 20))]⟩,
    ⟨(some 22), none, .call (.c (.func (.func 34) [] [])) [(.t 18), (.t 21)]⟩])
  (.seq (.ops [⟨(some 6), none, .mv (.c (.int .i64 (0)))⟩])
  (.ret)))))⟩
theorem a17_ok : funcC Tryd.prog Tryd.f17 = some a17 := by kernel_rfl
/-- (*permafrost/second.Second).load -/
def a18 : AFunc := ⟨2, [.cell 4 (some 2), .tmp 5],
  .seq (.ops [⟨(some 4), none, .alloc none [(.int .i64 (0)), (.slice none 0 0)]⟩,
    ⟨(some 5), none, .mv (.c (.bool false))⟩])
  (.seq (.draw [⟨⟨(some 20), none, .mv (.t 0)⟩, 0, []⟩,
    ⟨⟨(some 21), none, .nilck (.t 20)⟩, 1, [0]⟩,
    ⟨⟨(some 22), none, .fieldAddr 0 (.t 21)⟩, 2, [0, 1]⟩,
    ⟨⟨(some 23), none, .load none (.t 22)⟩, 3, [0, 1, 2]⟩,
    ⟨⟨(some 24), none, .mv (.t 0)⟩, 4, []⟩,
    ⟨⟨(some 25), none, .mv (.t 1)⟩, 5, []⟩,
    ⟨⟨(some 26), none, .call (.c (.func (.func 35) [] [])) [(.t 24), (.t 25)]⟩, 6, [4, 5]⟩,
    ⟨⟨(some 27), none, .call (.c (.func (.func 16) [] [])) [(.t 23), (.t 26)]⟩, 7, [0, 1, 2, 3, 4, 5, 6]⟩,
    ⟨⟨(some 19), none, .mv (.t 27)⟩, 8, [0, 1, 2, 3, 4, 5, 6, 7]⟩,
    ⟨⟨(some 28), none, .extract 0 (.t 19)⟩, 9, [0, 1, 2, 3, 4, 5, 6, 7, 8]⟩,
    ⟨⟨(some 29), none, .extract 1 (.t 19)⟩, 10, [0, 1, 2, 3, 4, 5, 6, 7, 8]⟩,
    ⟨⟨(some 6), none, .mv (.t 28)⟩, 11, [0, 1, 2, 3, 4, 5, 6, 7, 8, 9]⟩,
    ⟨⟨(some 7), none, .mv (.t 29)⟩, 12, [0, 1, 2, 3, 4, 5, 6, 7, 8, 9, 10, 11]⟩])
  (.seq (.ops [⟨(some 31), none, .mv (.t 6)⟩,
    ⟨(some 32), none, .call (.c (.func (.func 36) [] [])) [(.t 31)]⟩,
    ⟨(some 30), none, .mv (.t 32)⟩,
    ⟨(some 33), none, .extract 0 (.t 30)⟩,
    ⟨(some 34), none, .extract 1 (.t 30)⟩,
    ⟨(some 8), none, .alloc none [(.int .i64 (0)), (.slice none 0 0)]⟩,
    ⟨none, none, .store 2 (.t 8) (.t 33)⟩,
    ⟨(some 9), none, .mv (.t 34)⟩])
  (.seq (.seq (.ops [⟨(some 35), none, .mv (.t 7)⟩,
    ⟨(some 36), none, .bin .neq (.t 35) (.c (.int .i64 (0)))⟩,
    ⟨(some 37), none, .mv (.t 36)⟩,
    ⟨(some 38), (some (37, false)), .mv (.t 9)⟩,
    ⟨(some 39), (some (37, false)), .bin .neq (.t 38) (.c (.int .i64 (0)))⟩,
    ⟨(some 40), none, .pick (.t 37) (.c (.bool true)) (.t 39)⟩])
  (.cond (.t 40)
   (.seq (.ops [⟨(some 41), none, .build [(.int .i64 (0)), (.slice none 0 0)] []⟩,
     ⟨none, none, .store 2 (.t 4) (.t 41)⟩,
     ⟨(some 5), none, .mv (.c (.bool false))⟩])
   (.ret))
   (.skip)))
  (.seq (.ops [⟨(some 42), none, .makeMap⟩,
    ⟨(some 10), none, .alloc none [(.map none)]⟩,
    ⟨none, none, .store 1 (.t 10) (.t 42)⟩])
  (.seq (.seq (.ops [⟨(some 43), none, .mv (.t 0)⟩,
    ⟨(some 44), none, .mv (.t 1)⟩,
    ⟨(some 45), none, .call (.c (.func (.func 21) [] [])) [(.t 43), (.t 44)]⟩])
  (.block 0 (.range 87 (.t 45) [46, 47]
    (.seq (.ops [⟨(some 11), none, .mv (.t 46)⟩])
    (.ops [⟨(some 12), none, .mv (.t 47)⟩]))
    (.block 1 (.ops [⟨(some 48), none, .load none (.t 10)⟩,
       ⟨(some 49), none, .mv (.t 12)⟩,
       ⟨(some 50), none, .mv (.t 11)⟩,
       ⟨none, none, .mapUpd .int (.t 48) (.t 49) (.t 50)⟩])))))
  (.seq (.seq (.ops [⟨(some 51), none, .fieldAddr 1 (.t 8)⟩,
    ⟨(some 52), none, .load none (.t 51)⟩,
    ⟨(some 53), none, .lenSl (.t 52)⟩,
    ⟨(some 54), none, .mv (.c (.int .i64 (0)))⟩])
  (.block 2 (.loop (.seq (.ops [⟨(some 55), none, .bin .lss (.t 54) (.t 53)⟩])
    (.seq (.cond (.t 55)
     (.skip)
     (.exit 2))
    (.seq (.block 3 (.seq (.ops [⟨(some 56), none, .idxSl 4 (.t 52) (.t 54)⟩,
       ⟨(some 57), none, .load (some 4) (.t 56)⟩,
       ⟨(some 14), none, .alloc none [(.str []), (.str []), (.int .i64 (0)), (.int .i64 (0))]⟩,
       ⟨none, none, .store 4 (.t 14) (.t 57)⟩])
     (.seq (.ops [⟨(some 59), none, .load none (.t 10)⟩,
       ⟨(some 60), none, .fieldAddr 3 (.t 14)⟩,
       ⟨(some 61), none, .load none (.t 60)⟩,
       ⟨(some 62), none, .lookup .int (.int .i64 (0)) true (.t 59) (.t 61)⟩,
       ⟨(some 58), none, .mv (.t 62)⟩,
       ⟨(some 63), none, .extract 0 (.t 58)⟩,
       ⟨(some 64), none, .extract 1 (.t 58)⟩,
       ⟨(some 15), none, .mv (.t 63)⟩,
       ⟨(some 16), none, .mv (.t 64)⟩])
     (.seq (.ops [⟨(some 65), none, .mv (.t 16)⟩,
       ⟨(some 66), none, .not (.t 65)⟩])
     (.cond (.t 66)
      (.seq (.ops [⟨(some 67), none, .build [(.int .i64 (0)), (.slice none 0 0)] []⟩,
        ⟨none, none, .store 2 (.t 4) (.t 67)⟩,
        ⟨(some 5), none, .mv (.c (.bool false))⟩])
      (.ret))
      (.skip))))))
    (.ops [⟨(some 68), none, .bin .add (.t 54) (.c (.int .i64 (1)))⟩,
      ⟨(some 54), none, .mv (.t 68)⟩])))))))
  (.seq (.seq (.ops [⟨(some 69), none, .fieldAddr 1 (.t 8)⟩,
    ⟨(some 70), none, .load none (.t 69)⟩,
    ⟨(some 71), none, .lenSl (.t 70)⟩,
    ⟨(some 72), none, .mv (.c (.int .i64 (0)))⟩])
  (.block 4 (.loop (.seq (.ops [⟨(some 73), none, .bin .lss (.t 72) (.t 71)⟩])
    (.seq (.cond (.t 73)
     (.skip)
     (.exit 4))
    (.seq (.block 5 (.seq (.ops [⟨(some 74), none, .idxSl 4 (.t 70) (.t 72)⟩,
       ⟨(some 75), none, .load (some 4) (.t 74)⟩,
       ⟨(some 18), none, .alloc none [(.str []), (.str []), (.int .i64 (0)), (.int .i64 (0))]⟩,
       ⟨none, none, .store 4 (.t 18) (.t 75)⟩])
     (.draw [⟨⟨(some 76), none, .mv (.t 0)⟩, 0, []⟩,
       ⟨⟨(some 77), none, .nilck (.t 76)⟩, 1, [0]⟩,
       ⟨⟨(some 78), none, .fieldAddr 3 (.t 77)⟩, 2, [0, 1]⟩,
       ⟨⟨(some 79), none, .load none (.t 78)⟩, 3, [0, 1, 2]⟩,
       ⟨⟨(some 80), none, .load none (.t 10)⟩, 4, []⟩,
       ⟨⟨(some 81), none, .fieldAddr 3 (.t 18)⟩, 5, []⟩,
       ⟨⟨(some 82), none, .load none (.t 81)⟩, 6, [5]⟩,
       ⟨⟨(some 83), none, .lookup .int (.int .i64 (0)) false (.t 80) (.t 82)⟩, 7, [4, 5, 6]⟩,
       ⟨⟨(some 84), none, .load (some 4) (.t 18)⟩, 8, []⟩,
       ⟨⟨none, none, .mapUpd .int (.t 79) (.t 83) (.t 84)⟩, 9, [0, 1, 2, 3, 4, 5, 6, 7, 8]⟩])))
    (.ops [⟨(some 85), none, .bin .add (.t 72) (.c (.int .i64 (1)))⟩,
      ⟨(some 72), none, .mv (.t 85)⟩])))))))
  (.seq (.ops [⟨(some 86), none, .load (some 2) (.t 8)⟩,
    ⟨none, none, .store 2 (.t 4) (.t 86)⟩,
    ⟨(some 5), none, .mv (.c (.bool true))⟩])
  (.ret)))))))))⟩
theorem a18_ok : funcC Tryd.prog Tryd.f18 = some a18 := by kernel_rfl
/-- (*permafrost/dev.Devs).Lost -/
def a19 : AFunc := ⟨2, [.tmp 4],
  .seq (.ops [⟨(some 4), none, .mv (.c (.bool false))⟩])
  (.seq (.ops [⟨(some 5), none, .mv (.t 0)⟩,
    ⟨(some 6), none, .mv (.t 1)⟩,
    ⟨(some 7), none, .call (.c (.func (.func 29) [] [])) [(.t 5), (.t 6)]⟩,
    ⟨(some 8), none, .mv (.t 7)⟩,
    ⟨(some 9), (some (8, true)), .mv (.t 0)⟩,
    ⟨(some 10), (some (8, true)), .mv (.t 1)⟩,
    ⟨(some 11), (some (8, true)), .nilck (.t 9)⟩,
    ⟨(some 12), (some (8, true)), .fieldAddr 2 (.t 11)⟩,
    ⟨(some 13), (some (8, true)), .idxArr 2 1 (.t 12) (.t 10)⟩,
    ⟨(some 14), (some (8, true)), .load none (.t 13)⟩,
    ⟨(some 15), none, .pick (.t 8) (.t 14) (.c (.bool false))⟩,
    ⟨(some 4), none, .mv (.t 15)⟩])
  (.ret))⟩
theorem a19_ok : funcC Tryd.prog Tryd.f19 = some a19 := by kernel_rfl
/-- (*permafrost/second.Second).find -/
def a20 : AFunc := ⟨2, [.tmp 4, .tmp 5],
  .seq (.ops [⟨(some 4), none, .mv (.c (.int .i64 (0)))⟩,
    ⟨(some 5), none, .mv (.c (.bool false))⟩])
  (.seq (.seq (.ops [⟨(some 8), none, .mv (.t 0)⟩,
    ⟨(some 9), none, .nilck (.t 8)⟩,
    ⟨(some 10), none, .fieldAddr 3 (.t 9)⟩,
    ⟨(some 11), none, .load none (.t 10)⟩,
    ⟨(some 12), none, .call (.c (.func (.func 28) [] [])) [(.t 11)]⟩,
    ⟨(some 13), none, .call (.c (.func (.func 27) [] [])) [(.t 12)]⟩,
    ⟨(some 14), none, .lenSl (.t 13)⟩,
    ⟨(some 15), none, .mv (.c (.int .i64 (0)))⟩])
  (.block 0 (.loop (.seq (.ops [⟨(some 16), none, .bin .lss (.t 15) (.t 14)⟩])
    (.seq (.cond (.t 16)
     (.skip)
     (.exit 0))
    (.seq (.block 1 (.seq (.ops [⟨(some 17), none, .idxSl 1 (.t 13) (.t 15)⟩,
       ⟨(some 18), none, .load none (.t 17)⟩,
       ⟨(some 7), none, .mv (.t 18)⟩])
     (.seq (.ops [⟨(some 19), none, .mv (.t 0)⟩,
       ⟨(some 20), none, .nilck (.t 19)⟩,
       ⟨(some 21), none, .fieldAddr 3 (.t 20)⟩,
       ⟨(some 22), none, .load none (.t 21)⟩,
       ⟨(some 23), none, .mv (.t 7)⟩,
       ⟨(some 24), none, .lookup .int (.agg [(.str []), (.str []), (.int .i64 (0)), (.int .i64 (0))]) false (.t 22) (.t 23)⟩,
       ⟨(some 25), none, .field 0 none (.t 24)⟩,
       ⟨(some 26), none, .mv (.t 1)⟩,
       ⟨(some 27), none, .bin .eql (.t 25) (.t 26)⟩])
     (.cond (.t 27)
      (.seq (.ops [⟨(some 28), none, .mv (.t 7)⟩,
        ⟨(some 4), none, .mv (.t 28)⟩,
        ⟨(some 5), none, .mv (.c (.bool true))⟩])
      (.ret))
      (.skip)))))
    (.ops [⟨(some 29), none, .bin .add (.t 15) (.c (.int .i64 (1)))⟩,
      ⟨(some 15), none, .mv (.t 29)⟩])))))))
  (.seq (.ops [⟨(some 4), none, .mv (.c (.int .i64 (0)))⟩,
    ⟨(some 5), none, .mv (.c (.bool false))⟩])
  (.ret)))⟩
theorem a20_ok : funcC Tryd.prog Tryd.f20 = some a20 := by kernel_rfl
/-- (*permafrost/second.Second).sectors -/
def a21 : AFunc := ⟨2, [.tmp 4],
  .seq (.ops [⟨(some 2), none, .box (.t 0)⟩,
    ⟨(some 3), none, .box (.t 1)⟩,
    ⟨(some 4), none, .mv (.c .nilFunc)⟩])
  (.seq (.ops [⟨(some 5), none, .mkFn (.func 37) [] [(.t 3), (.t 2)]⟩,
    ⟨(some 4), none, .mv (.t 5)⟩])
  (.ret))⟩
theorem a21_ok : funcC Tryd.prog Tryd.f21 = some a21 := by kernel_rfl
/-- (*permafrost/second.Second).tell -/
def a22 : AFunc := ⟨2, [],
  .seq (.ops [⟨(some 2), none, .box (.t 0)⟩])
  (.seq (.ops [⟨(some 10), none, .load none (.t 2)⟩,
    ⟨(some 11), none, .nilck (.t 10)⟩,
    ⟨(some 12), none, .fieldAddr 4 (.t 11)⟩,
    ⟨(some 13), none, .load none (.t 12)⟩,
    ⟨(some 14), none, .bin .add (.t 13) (.c (.int .i64 (1)))⟩,
    ⟨(some 15), none, .nilck (.t 10)⟩,
    ⟨(some 16), none, .fieldAddr 4 (.t 15)⟩,
    ⟨none, none, .store 1 (.t 16) (.t 14)⟩])
  (.seq (.ops [⟨(some 17), none, .load none (.t 2)⟩,
    ⟨(some 18), none, .nilck (.t 17)⟩,
    ⟨(some 19), none, .fieldAddr 4 (.t 18)⟩,
    ⟨(some 20), none, .load none (.t 19)⟩,
    ⟨(some 21), none, .build [(.int .i64 (0)), (.slice none 0 0)] [(0, 1, (.t 20))]⟩,
    ⟨(some 4), none, .alloc none [(.int .i64 (0)), (.slice none 0 0)]⟩,
    ⟨none, none, .store 2 (.t 4) (.t 21)⟩])
  (.seq (.seq (.ops [⟨(some 22), none, .load none (.t 2)⟩,
    ⟨(some 23), none, .mv (.t 1)⟩,
    ⟨(some 24), none, .call (.c (.func (.func 21) [] [])) [(.t 22), (.t 23)]⟩])
  (.block 0 (.range 57 (.t 24) [25, 26]
    (.ops [⟨(some 5), none, .mv (.t 25)⟩])
    (.block 1 (.seq (.ops [⟨(some 28), none, .load none (.t 2)⟩,
       ⟨(some 29), none, .nilck (.t 28)⟩,
       ⟨(some 30), none, .fieldAddr 3 (.t 29)⟩,
       ⟨(some 31), none, .load none (.t 30)⟩,
       ⟨(some 32), none, .mv (.t 5)⟩,
       ⟨(some 33), none, .lookup .int (.agg [(.str []), (.str []), (.int .i64 (0)), (.int .i64 (0))]) true (.t 31) (.t 32)⟩,
       ⟨(some 27), none, .mv (.t 33)⟩,
       ⟨(some 34), none, .extract 0 (.t 27)⟩,
       ⟨(some 35), none, .extract 1 (.t 27)⟩,
       ⟨(some 6), none, .alloc none [(.str []), (.str []), (.int .i64 (0)), (.int .i64 (0))]⟩,
       ⟨none, none, .store 4 (.t 6) (.t 34)⟩,
       ⟨(some 7), none, .mv (.t 35)⟩])
     (.seq (.ops [⟨(some 36), none, .mv (.t 7)⟩])
     (.cond (.t 36)
      (.ops [⟨(some 37), none, .fieldAddr 1 (.t 4)⟩,
        ⟨(some 38), none, .load none (.t 37)⟩,
        ⟨(some 39), none, .load (some 4) (.t 6)⟩,
        ⟨(some 40), none, .buildSl [(.str []), (.str []), (.int .i64 (0)), (.int .i64 (0))] 1 [(0, 4, (.t 39))]⟩,
        ⟨(some 41), none, .append 4 48 none (.t 38) (.t 40)⟩,
        ⟨(some 42), none, .fieldAddr 1 (.t 4)⟩,
        ⟨none, none, .store 1 (.t 42) (.t 41)⟩])
      (.skip))))))))
  (.seq (.ops [⟨(some 44), none, .load (some 2) (.t 4)⟩,
    ⟨(some 45), none, .call (.c (.func (.func 38) [] [])) [(.t 44)]⟩,
    ⟨(some 43), none, .mv (.t 45)⟩,
    ⟨(some 46), none, .extract 0 (.t 43)⟩,
    ⟨(some 47), none, .extract 1 (.t 43)⟩,
    ⟨(some 8), none, .mv (.t 46)⟩,
    ⟨(some 9), none, .mv (.t 47)⟩])
  (.draw [⟨⟨(some 48), none, .load none (.t 2)⟩, 0, []⟩,
    ⟨⟨(some 49), none, .nilck (.t 48)⟩, 1, [0]⟩,
    ⟨⟨(some 50), none, .fieldAddr 0 (.t 49)⟩, 2, [0, 1]⟩,
    ⟨⟨(some 51), none, .load none (.t 50)⟩, 3, [0, 1, 2]⟩,
    ⟨⟨(some 52), none, .load none (.t 2)⟩, 4, []⟩,
    ⟨⟨(some 53), none, .mv (.t 1)⟩, 5, []⟩,
    ⟨⟨(some 55), none, .mv (.t 8)⟩, 7, []⟩,
    ⟨⟨(some 54), none, .call (.c (.func (.func 35) [] [])) [(.t 52), (.t 53)]⟩, 6, [4, 5]⟩,
    ⟨⟨(some 56), none, .call (.c (.func (.func 23) [] [])) [(.t 51), (.t 54), (.t 55)]⟩, 8, [0, 1, 2, 3, 4, 5, 6, 7]⟩])))))⟩
theorem a22_ok : funcC Tryd.prog Tryd.f22 = some a22 := by kernel_rfl
/-- (*permafrost/dev.Devs).Write -/
def a23 : AFunc := ⟨3, [.tmp 6],
  .seq (.ops [⟨(some 4), none, .box (.t 1)⟩,
    ⟨(some 6), none, .mv (.c (.int .i64 (0)))⟩])
  (.seq (.ops [⟨(some 8), none, .mv (.t 0)⟩,
    ⟨(some 9), none, .load (some 2) (.t 4)⟩,
    ⟨(some 10), none, .mv (.t 2)⟩,
    ⟨(some 11), none, .call (.c (.func (.func 30) [] [])) [(.t 8), (.t 9), (.t 10)]⟩,
    ⟨(some 7), none, .mv (.t 11)⟩])
  (.seq (.seq (.ops [⟨(some 12), none, .mv (.t 7)⟩,
    ⟨(some 13), none, .bin .eql (.t 12) (.c (.int .i64 (0)))⟩])
  (.cond (.t 13)
   (.draw [⟨⟨(some 14), none, .mv (.t 0)⟩, 0, []⟩,
     ⟨⟨(some 15), none, .mv (.t 0)⟩, 1, []⟩,
     ⟨⟨(some 16), none, .nilck (.t 15)⟩, 2, [1]⟩,
     ⟨⟨(some 17), none, .fieldAddr 4 (.t 16)⟩, 3, [1, 2]⟩,
     ⟨⟨(some 18), none, .load none (.t 17)⟩, 4, [1, 2, 3]⟩,
     ⟨⟨(some 19), none, .load (some 2) (.t 4)⟩, 5, []⟩,
     ⟨⟨(some 20), none, .mv (.t 2)⟩, 6, []⟩,
     ⟨⟨(some 21), none, .build [(.int .i64 (0)), (.int .i64 (0)), (.str [])] [(0, 2, (.t 19)), (2, 1, (.t 20))]⟩, 7, [5, 6]⟩,
     ⟨⟨(some 22), none, .buildSl [(.int .i64 (0)), (.int .i64 (0)), (.str [])] 1 [(0, 3, (.t 21))]⟩, 8, [5, 6, 7]⟩,
     ⟨⟨(some 23), none, .append 3 32 none (.t 18) (.t 22)⟩, 9, [1, 2, 3, 4, 5, 6, 7, 8]⟩,
     ⟨⟨(some 24), none, .nilck (.t 14)⟩, 10, [0, 1, 2, 3, 4, 5, 6, 7, 8, 9]⟩,
     ⟨⟨(some 25), none, .fieldAddr 4 (.t 24)⟩, 11, [0, 1, 2, 3, 4, 5, 6, 7, 8, 9, 10]⟩,
     ⟨⟨none, none, .store 1 (.t 25) (.t 23)⟩, 12, [0, 1, 2, 3, 4, 5, 6, 7, 8, 9, 10, 11]⟩])
   (.skip)))
  (.seq (.ops [⟨(some 26), none, .mv (.t 7)⟩,
    ⟨(some 6), none, .mv (.t 26)⟩])
  (.ret))))⟩
theorem a23_ok : funcC Tryd.prog Tryd.f23 = some a23 := by kernel_rfl
/-- permafrost/sum.Of -/
def a24 : AFunc := ⟨1, [.tmp 2],
  .seq (.ops [⟨(some 2), none, .mv (.c (.str []))⟩])
  (.seq (.ops [⟨(some 4), none, .call (.c (.func (.func 39) [] [])) []⟩,
    ⟨(some 3), none, .mv (.t 4)⟩])
  (.seq (.ops [⟨(some 5), none, .mv (.t 3)⟩,
    ⟨(some 6), none, .mv (.t 0)⟩,
    ⟨(some 7), none, .call (.c (.func (.func 40) [] [])) [(.t 5), (.t 6)]⟩])
  (.seq (.ops [⟨(some 8), none, .mv (.t 3)⟩,
    ⟨(some 9), none, .call (.c (.func (.func 41) [] [])) [(.t 8)]⟩,
    ⟨(some 2), none, .mv (.t 9)⟩])
  (.ret))))⟩
theorem a24_ok : funcC Tryd.prog Tryd.f24 = some a24 := by kernel_rfl
/-- (*permafrost/dev.Devs).done -/
def a25 : AFunc := ⟨2, [.tmp 4],
  .seq (.ops [⟨(some 4), none, .mv (.c (.int .i64 (0)))⟩])
  (.seq (.seq (.ops [⟨(some 5), none, .mv (.t 0)⟩,
    ⟨(some 6), none, .eq false (.flat .ptr) (.t 5) (.c (.ptr none))⟩])
  (.cond (.t 6)
   (.seq (.ops [⟨(some 4), none, .mv (.c (.int .i64 (1)))⟩])
   (.ret))
   (.skip)))
  (.seq (.ops [⟨(some 7), none, .mv (.t 0)⟩,
    ⟨(some 8), none, .nilck (.t 7)⟩,
    ⟨(some 9), none, .fieldAddr 4 (.t 8)⟩,
    ⟨(some 10), none, .load none (.t 9)⟩,
    ⟨(some 11), none, .mv (.t 1)⟩,
    ⟨(some 12), none, .mv (.t 0)⟩,
    ⟨(some 13), none, .mkFn (.func 34) [(.t 12)] []⟩,
    ⟨(some 14), none, .call (.c (.func (.func 42) [] [])) [(.t 10), (.t 11), (.t 13)]⟩])
  (.seq (.ops [⟨(some 15), none, .mv (.t 0)⟩,
    ⟨(some 16), none, .nilck (.t 15)⟩,
    ⟨(some 17), none, .fieldAddr 4 (.t 16)⟩,
    ⟨none, none, .store 1 (.t 17) (.c (.slice none 0 0))⟩])
  (.seq (.ops [⟨(some 4), none, .mv (.c (.int .i64 (0)))⟩])
  (.ret)))))⟩
theorem a25_ok : funcC Tryd.prog Tryd.f25 = some a25 := by kernel_rfl
/-- (*permafrost/dev.Devs).Flush$1 -/
def a26 : AFunc := ⟨1, [.tmp 2],
  .seq (.ops [⟨(some 2), none, .mv (.c (.bool false))⟩])
  (.seq (.ops [⟨(some 2), none, .mv (.c (.bool true))⟩])
  (.ret))⟩
theorem a26_ok : funcC Tryd.prog Tryd.f26 = some a26 := by kernel_rfl
/-- (*permafrost/dev.Devs).is -/
def a29 : AFunc := ⟨2, [.tmp 4],
  .seq (.ops [⟨(some 4), none, .mv (.c (.bool false))⟩])
  (.seq (.ops [⟨(some 5), none, .mv (.t 0)⟩,
    ⟨(some 6), none, .eq true (.flat .ptr) (.t 5) (.c (.ptr none))⟩,
    ⟨(some 7), none, .mv (.t 6)⟩,
    ⟨(some 8), (some (7, true)), .mv (.t 1)⟩,
    ⟨(some 9), (some (7, true)), .bin .eql (.t 8) (.c (.int .i64 (0)))⟩,
    ⟨(some 10), (some (7, true)), .mv (.t 9)⟩,
    ⟨(some 11), (some (10, false)), .mv (.t 1)⟩,
    ⟨(some 12), (some (10, false)), .bin .eql (.t 11) (.c (.int .i64 (1)))⟩,
    ⟨(some 13), (some (7, true)), .pick (.t 10) (.c (.bool true)) (.t 12)⟩,
    ⟨(some 14), none, .pick (.t 7) (.t 13) (.c (.bool false))⟩,
    ⟨(some 4), none, .mv (.t 14)⟩])
  (.ret))⟩
theorem a29_ok : funcC Tryd.prog Tryd.f29 = some a29 := by kernel_rfl
/-- (*permafrost/dev.Devs).may -/
def a30 : AFunc := ⟨3, [.tmp 6],
  .seq (.ops [⟨(some 4), none, .box (.t 1)⟩,
    ⟨(some 6), none, .mv (.c (.int .i64 (0)))⟩])
  (.seq (.block 0 (.seq (.draw [⟨⟨(some 8), none, .mv (.t 0)⟩, 0, []⟩,
     ⟨⟨(some 9), none, .fieldAddr 0 (.t 4)⟩, 1, []⟩,
     ⟨⟨(some 10), none, .load none (.t 9)⟩, 2, [1]⟩,
     ⟨⟨(some 11), none, .call (.c (.func (.func 29) [] [])) [(.t 8), (.t 10)]⟩, 3, [0, 1, 2]⟩,
     ⟨⟨(some 12), none, .not (.t 11)⟩, 4, [0, 1, 2, 3]⟩,
     ⟨⟨(some 13), none, .mv (.t 12)⟩, 5, [0, 1, 2, 3, 4]⟩,
     ⟨⟨(some 14), (some (13, false)), .fieldAddr 1 (.t 4)⟩, 6, [0, 1, 2, 3, 4, 5]⟩,
     ⟨⟨(some 15), (some (13, false)), .load none (.t 14)⟩, 7, [0, 1, 2, 3, 4, 5, 6]⟩,
     ⟨⟨(some 16), (some (13, false)), .bin .lss (.t 15) (.c (.int .i64 (0)))⟩, 8, [0, 1, 2, 3, 4, 5, 6, 7]⟩,
     ⟨⟨(some 17), none, .pick (.t 13) (.c (.bool true)) (.t 16)⟩, 9, [0, 1, 2, 3, 4, 5, 6, 7, 8]⟩,
     ⟨⟨(some 18), none, .mv (.t 17)⟩, 10, [0, 1, 2, 3, 4, 5, 6, 7, 8, 9]⟩,
     ⟨⟨(some 19), (some (18, false)), .fieldAddr 1 (.t 4)⟩, 11, [0, 1, 2, 3, 4, 5, 6, 7, 8, 9, 10]⟩,
     ⟨⟨(some 20), (some (18, false)), .load none (.t 19)⟩, 12, [0, 1, 2, 3, 4, 5, 6, 7, 8, 9, 10, 11]⟩,
     ⟨⟨(some 21), (some (18, false)), .mv (.t 0)⟩, 13, [0, 1, 2, 3, 4, 5, 6, 7, 8, 9, 10]⟩,
     ⟨⟨(some 22), (some (18, false)), .fieldAddr 0 (.t 4)⟩, 14, [0, 1, 2, 3, 4, 5, 6, 7, 8, 9, 10]⟩,
     ⟨⟨(some 23), (some (18, false)), .load none (.t 22)⟩, 15, [0, 1, 2, 3, 4, 5, 6, 7, 8, 9, 10, 14]⟩,
     ⟨⟨(some 24), (some (18, false)), .nilck (.t 21)⟩, 16, [0, 1, 2, 3, 4, 5, 6, 7, 8, 9, 10, 13]⟩,
     ⟨⟨(some 25), (some (18, false)), .fieldAddr 0 (.t 24)⟩, 17, [0, 1, 2, 3, 4, 5, 6, 7, 8, 9, 10, 13, 16]⟩,
     ⟨⟨(some 26), (some (18, false)), .idxArr 2 1 (.t 25) (.t 23)⟩, 18, [0, 1, 2, 3, 4, 5, 6, 7, 8, 9, 10, 13, 14, 15, 16, 17]⟩,
     ⟨⟨(some 27), (some (18, false)), .load none (.t 26)⟩, 19, [0, 1, 2, 3, 4, 5, 6, 7, 8, 9, 10, 13, 14, 15, 16, 17, 18]⟩,
     ⟨⟨(some 28), (some (18, false)), .lenSl (.t 27)⟩, 20, [0, 1, 2, 3, 4, 5, 6, 7, 8, 9, 10, 13, 14, 15, 16, 17, 18, 19]⟩,
     ⟨⟨(some 29), (some (18, false)), .bin .geq (.t 20) (.t 28)⟩, 21, [0, 1, 2, 3, 4, 5, 6, 7, 8, 9, 10, 11, 12, 13, 14, 15, 16, 17, 18, 19, 20]⟩,
     ⟨⟨(some 30), none, .pick (.t 18) (.c (.bool true)) (.t 29)⟩, 22, [0, 1, 2, 3, 4, 5, 6, 7, 8, 9, 10, 11, 12, 13, 14, 15, 16, 17, 18, 19, 20, 21]⟩,
     ⟨⟨(some 31), none, .mv (.t 30)⟩, 23, [0, 1, 2, 3, 4, 5, 6, 7, 8, 9, 10, 11, 12, 13, 14, 15, 16, 17, 18, 19, 20, 21, 22]⟩,
     ⟨⟨(some 32), (some (31, false)), .mv (.t 2)⟩, 24, [0, 1, 2, 3, 4, 5, 6, 7, 8, 9, 10, 11, 12, 13, 14, 15, 16, 17, 18, 19, 20, 21, 22, 23]⟩,
     ⟨⟨(some 33), (some (31, false)), .lenStr (.t 32)⟩, 25, [0, 1, 2, 3, 4, 5, 6, 7, 8, 9, 10, 11, 12, 13, 14, 15, 16, 17, 18, 19, 20, 21, 22, 23, 24]⟩,
     ⟨⟨(some 34), (some (31, false)), .bin .gtr (.t 33) (.c (.int .i64 (1024)))⟩, 26, [0, 1, 2, 3, 4, 5, 6, 7, 8, 9, 10, 11, 12, 13, 14, 15, 16, 17, 18, 19, 20, 21, 22, 23, 24, 25]⟩,
     ⟨⟨(some 35), none, .pick (.t 31) (.c (.bool true)) (.t 34)⟩, 27, [0, 1, 2, 3, 4, 5, 6, 7, 8, 9, 10, 11, 12, 13, 14, 15, 16, 17, 18, 19, 20, 21, 22, 23, 24, 25, 26]⟩,
     ⟨⟨(some 7), none, .mv (.t 35)⟩, 28, [0, 1, 2, 3, 4, 5, 6, 7, 8, 9, 10, 11, 12, 13, 14, 15, 16, 17, 18, 19, 20, 21, 22, 23, 24, 25, 26, 27]⟩])
   (.cond (.t 7)
    (.seq (.ops [⟨(some 6), none, .mv (.c (.int .i64 (1)))⟩])
    (.ret))
    (.seq (.draw [⟨⟨(some 37), none, .mv (.t 0)⟩, 0, []⟩,
      ⟨⟨(some 38), none, .fieldAddr 0 (.t 4)⟩, 1, []⟩,
      ⟨⟨(some 39), none, .load none (.t 38)⟩, 2, [1]⟩,
      ⟨⟨(some 40), none, .nilck (.t 37)⟩, 3, [0]⟩,
      ⟨⟨(some 41), none, .fieldAddr 2 (.t 40)⟩, 4, [0, 3]⟩,
      ⟨⟨(some 42), none, .idxArr 2 1 (.t 41) (.t 39)⟩, 5, [0, 1, 2, 3, 4]⟩,
      ⟨⟨(some 43), none, .load none (.t 42)⟩, 6, [0, 1, 2, 3, 4, 5]⟩,
      ⟨⟨(some 36), none, .mv (.t 43)⟩, 7, [0, 1, 2, 3, 4, 5, 6]⟩])
    (.cond (.t 36)
     (.seq (.ops [⟨(some 6), none, .mv (.c (.int .i64 (5)))⟩])
     (.ret))
     (.skip))))))
  (.seq (.ops [⟨(some 6), none, .mv (.c (.int .i64 (0)))⟩])
  (.ret)))⟩
theorem a30_ok : funcC Tryd.prog Tryd.f30 = some a30 := by kernel_rfl
/-- slices.Backward[[]permafrost/dev.write,permafrost/dev.write] -/
def a31 : AFunc := ⟨1, [.tmp 2],
  .seq (.ops [⟨(some 1), none, .box (.t 0)⟩,
    ⟨(some 2), none, .mv (.c .nilFunc)⟩])
  (.seq (.ops [⟨(some 3), none, .mkFn (.func 46) [] [(.t 1)]⟩,
    ⟨(some 2), none, .mv (.t 3)⟩])
  (.ret))⟩
theorem a31_ok : funcC Tryd.prog Tryd.f31 = some a31 := by kernel_rfl
/-- (*permafrost/dev.Devs).forget -/
def a32 : AFunc := ⟨2, [],
  .ops [⟨(some 4), none, .mv (.t 0)⟩,
    ⟨(some 5), none, .mv (.t 0)⟩,
    ⟨(some 6), none, .nilck (.t 5)⟩,
    ⟨(some 7), none, .fieldAddr 4 (.t 6)⟩,
    ⟨(some 8), none, .load none (.t 7)⟩,
    ⟨(some 9), none, .mv (.t 1)⟩,
    ⟨(some 10), none, .call (.c (.func (.func 47) [] [])) [(.t 8), (.t 9)]⟩,
    ⟨(some 11), none, .nilck (.t 4)⟩,
    ⟨(some 12), none, .fieldAddr 4 (.t 11)⟩,
    ⟨none, none, .store 1 (.t 12) (.t 10)⟩]⟩
theorem a32_ok : funcC Tryd.prog Tryd.f32 = some a32 := by kernel_rfl
/-- (*permafrost/dev.Devs).Spoil$1 -/
def a33 : AFunc := ⟨2, [.tmp 3],
  .seq (.ops [⟨(some 2), none, .box (.t 0)⟩,
    ⟨(some 3), none, .mv (.c (.bool false))⟩])
  (.seq (.ops [⟨(some 4), none, .fieldAddr 0 (.t 2)⟩,
    ⟨(some 5), none, .load (some 2) (.t 4)⟩,
    ⟨(some 6), none, .load (some 2) (.t 1)⟩,
    ⟨(some 7), none, .eq false (.struct [(0, none, (.flat .int)), (1, none, (.flat .int))]) (.t 5) (.t 6)⟩,
    ⟨(some 3), none, .mv (.t 7)⟩])
  (.ret))⟩
theorem a33_ok : funcC Tryd.prog Tryd.f33 = some a33 := by kernel_rfl
/-- (*permafrost/dev.Devs).put -/
def a34 : AFunc := ⟨2, [],
  .seq (.ops [⟨(some 3), none, .box (.t 1)⟩])
  (.draw [⟨⟨(some 4), none, .mv (.t 0)⟩, 0, []⟩,
    ⟨⟨(some 5), none, .fieldAddr 0 (.t 3)⟩, 1, []⟩,
    ⟨⟨(some 6), none, .fieldAddr 0 (.t 5)⟩, 2, [1]⟩,
    ⟨⟨(some 7), none, .load none (.t 6)⟩, 3, [1, 2]⟩,
    ⟨⟨(some 8), none, .nilck (.t 4)⟩, 4, [0]⟩,
    ⟨⟨(some 9), none, .fieldAddr 0 (.t 8)⟩, 5, [0, 4]⟩,
    ⟨⟨(some 10), none, .idxArr 2 1 (.t 9) (.t 7)⟩, 6, [0, 1, 2, 3, 4, 5]⟩,
    ⟨⟨(some 11), none, .load none (.t 10)⟩, 7, [0, 1, 2, 3, 4, 5, 6]⟩,
    ⟨⟨(some 12), none, .fieldAddr 0 (.t 3)⟩, 8, []⟩,
    ⟨⟨(some 13), none, .fieldAddr 1 (.t 12)⟩, 9, [8]⟩,
    ⟨⟨(some 14), none, .load none (.t 13)⟩, 10, [8, 9]⟩,
    ⟨⟨(some 15), none, .fieldAddr 2 (.t 3)⟩, 11, []⟩,
    ⟨⟨(some 16), none, .load none (.t 15)⟩, 12, [11]⟩,
    ⟨⟨(some 17), none, .idxSl 1 (.t 11) (.t 14)⟩, 13, [0, 1, 2, 3, 4, 5, 6, 7, 8, 9, 10, 11, 12]⟩,
    ⟨⟨none, none, .store 1 (.t 17) (.t 16)⟩, 14, [0, 1, 2, 3, 4, 5, 6, 7, 8, 9, 10, 11, 12, 13]⟩])⟩
theorem a34_ok : funcC Tryd.prog Tryd.f34 = some a34 := by kernel_rfl
/-- (*permafrost/second.Second).log -/
def a35 : AFunc := ⟨2, [.cell 4 (some 2)],
  .seq (.ops [⟨(some 4), none, .alloc none [(.int .i64 (0)), (.int .i64 (0))]⟩])
  (.seq (.ops [⟨(some 5), none, .mv (.t 0)⟩,
    ⟨(some 6), none, .nilck (.t 5)⟩,
    ⟨(some 7), none, .fieldAddr 1 (.t 6)⟩,
    ⟨(some 8), none, .load none (.t 7)⟩,
    ⟨(some 9), none, .mv (.t 1)⟩,
    ⟨(some 10), none, .bin .mul (.c (.int .i64 (8))) (.t 9)⟩,
    ⟨(some 11), none, .bin .add (.t 8) (.t 10)⟩,
    ⟨(some 12), none, .build [(.int .i64 (0)), (.int .i64 (0))] [(0, 1, (.c (.int .i64 (1)))), (1, 1, (.t 11))]⟩,
    ⟨none, none, .store 2 (.t 4) (.t 12)⟩])
  (.ret))⟩
theorem a35_ok : funcC Tryd.prog Tryd.f35 = some a35 := by kernel_rfl
/-- permafrost/clog.Decode -/
def a36 : AFunc := ⟨1, [.cell 2 (some 2), .tmp 3],
  .seq (.ops [⟨(some 2), none, .alloc none [(.int .i64 (0)), (.slice none 0 0)]⟩,
    ⟨(some 3), none, .mv (.c (.int .i64 (0)))⟩])
  (.seq (.seq (.ops [⟨(some 9), none, .mv (.t 0)⟩,
    ⟨(some 10), none, .lenStr (.t 9)⟩,
    ⟨(some 11), none, .bin .lss (.t 10) (.c (.int .i64 (41)))⟩])
  (.cond (.t 11)
   (.seq (.ops [⟨(some 12), none, .build [(.int .i64 (0)), (.slice none 0 0)] []⟩,
     ⟨none, none, .store 2 (.t 2) (.t 12)⟩,
     ⟨(some 3), none, .mv (.c (.int .i64 (2)))⟩])
   (.ret))
   (.skip)))
  (.seq (.draw [⟨⟨(some 13), none, .mv (.t 0)⟩, 0, []⟩,
    ⟨⟨(some 14), none, .mv (.t 0)⟩, 1, []⟩,
    ⟨⟨(some 15), none, .lenStr (.t 14)⟩, 2, [1]⟩,
    ⟨⟨(some 16), none, .bin .sub (.t 15) (.c (.int .i64 (32)))⟩, 3, [1, 2]⟩,
    ⟨⟨(some 17), none, .sliceStr (.t 13) none (some (.t 16))⟩, 4, [0, 1, 2, 3]⟩,
    ⟨⟨(some 18), none, .mv (.t 0)⟩, 5, []⟩,
    ⟨⟨(some 19), none, .mv (.t 0)⟩, 6, []⟩,
    ⟨⟨(some 20), none, .lenStr (.t 19)⟩, 7, [6]⟩,
    ⟨⟨(some 21), none, .bin .sub (.t 20) (.c (.int .i64 (32)))⟩, 8, [6, 7]⟩,
    ⟨⟨(some 22), none, .sliceStr (.t 18) (some (.t 21)) none⟩, 9, [5, 6, 7, 8]⟩,
    ⟨⟨(some 4), none, .mv (.t 17)⟩, 10, [0, 1, 2, 3, 4]⟩,
    ⟨⟨(some 5), none, .mv (.t 22)⟩, 11, [0, 1, 2, 3, 4, 5, 6, 7, 8, 9, 10]⟩])
  (.seq (.seq (.ops [⟨(some 23), none, .mv (.t 4)⟩,
    ⟨(some 24), none, .call (.c (.func (.func 24) [] [])) [(.t 23)]⟩,
    ⟨(some 25), none, .mv (.t 5)⟩,
    ⟨(some 26), none, .bin .neq (.t 24) (.t 25)⟩])
  (.cond (.t 26)
   (.seq (.ops [⟨(some 27), none, .build [(.int .i64 (0)), (.slice none 0 0)] []⟩,
     ⟨none, none, .store 2 (.t 2) (.t 27)⟩,
     ⟨(some 3), none, .mv (.c (.int .i64 (4)))⟩])
   (.ret))
   (.skip)))
  (.seq (.ops [⟨(some 28), none, .mv (.t 4)⟩,
    ⟨(some 29), none, .call (.c (.func (.func 48) [] [])) [(.t 28)]⟩,
    ⟨(some 6), none, .mv (.t 29)⟩])
  (.seq (.ops [⟨(some 30), none, .mv (.t 6)⟩,
    ⟨(some 31), none, .call (.c (.func (.func 49) [] [])) [(.t 30), (.c (.int .i64 (2)))]⟩,
    ⟨(some 32), none, .bin .eql (.t 31) (.c (.str [80, 76]))⟩,
    ⟨(some 7), none, .mv (.t 32)⟩])
  (.seq (.ops [⟨(some 33), none, .mv (.t 6)⟩,
    ⟨(some 34), none, .call (.c (.func (.func 50) [] [])) [(.t 33), (.c (.int .i64 (6)))]⟩,
    ⟨(some 35), none, .build [(.int .i64 (0)), (.slice none 0 0)] [(0, 1, (.t 34))]⟩,
    ⟨(some 8), none, .alloc none [(.int .i64 (0)), (.slice none 0 0)]⟩,
    ⟨none, none, .store 2 (.t 8) (.t 35)⟩])
  (.seq (.seq (.ops [⟨(some 36), none, .mv (.t 6)⟩,
    ⟨(some 37), none, .call (.c (.func (.func 50) [] [])) [(.t 36), (.c (.int .i64 (1)))]⟩,
    ⟨(some 38), none, .mv (.c (.int .i64 (0)))⟩])
  (.block 0 (.loop (.seq (.ops [⟨(some 39), none, .bin .lss (.t 38) (.t 37)⟩])
    (.seq (.cond (.t 39)
     (.skip)
     (.exit 0))
    (.seq (.block 1 (.draw [⟨⟨(some 40), none, .fieldAddr 1 (.t 8)⟩, 0, []⟩,
       ⟨⟨(some 41), none, .load none (.t 40)⟩, 1, [0]⟩,
       ⟨⟨(some 42), none, .mv (.t 6)⟩, 2, []⟩,
       ⟨⟨(some 44), none, .mv (.t 6)⟩, 4, []⟩,
       ⟨⟨(some 46), none, .mv (.t 6)⟩, 6, []⟩,
       ⟨⟨(some 48), none, .mv (.t 6)⟩, 8, []⟩,
       ⟨⟨(some 43), none, .call (.c (.func (.func 51) [] [])) [(.t 42), (.c (.int .i64 (1)))]⟩, 3, [2]⟩,
       ⟨⟨(some 45), none, .call (.c (.func (.func 49) [] [])) [(.t 44), (.c (.int .i64 (32)))]⟩, 5, [2, 3, 6]⟩,
       ⟨⟨(some 47), none, .call (.c (.func (.func 50) [] [])) [(.t 46), (.c (.int .i64 (2)))]⟩, 7, [2, 3, 4, 6, 7]⟩,
       ⟨⟨(some 49), none, .call (.c (.func (.func 50) [] [])) [(.t 48), (.c (.int .i64 (2)))]⟩, 9, [2, 3, 4, 5, 6, 7, 8]⟩,
       ⟨⟨(some 50), none, .build [(.str []), (.str []), (.int .i64 (0)), (.int .i64 (0))] [(0, 1, (.t 43)), (1, 1, (.t 45)), (2, 1, (.t 47)), (3, 1, (.t 49))]⟩, 10, [2, 3, 4, 5, 6, 7, 8, 9]⟩,
       ⟨⟨(some 51), none, .buildSl [(.str []), (.str []), (.int .i64 (0)), (.int .i64 (0))] 1 [(0, 4, (.t 50))]⟩, 11, [2, 3, 4, 5, 6, 7, 8, 9, 10]⟩,
       ⟨⟨(some 52), none, .append 4 48 none (.t 41) (.t 51)⟩, 12, [0, 1, 2, 3, 4, 5, 6, 7, 8, 9, 10, 11]⟩,
       ⟨⟨(some 53), none, .fieldAddr 1 (.t 8)⟩, 13, [0, 1, 2, 3, 4, 5, 6, 7, 8, 9, 10, 11, 12]⟩,
       ⟨⟨none, none, .store 1 (.t 53) (.t 52)⟩, 14, [0, 1, 2, 3, 4, 5, 6, 7, 8, 9, 10, 11, 12, 13]⟩]))
    (.ops [⟨(some 54), none, .bin .add (.t 38) (.c (.int .i64 (1)))⟩,
      ⟨(some 38), none, .mv (.t 54)⟩])))))))
  (.seq (.seq (.ops [⟨(some 55), none, .mv (.t 7)⟩,
    ⟨(some 56), none, .not (.t 55)⟩,
    ⟨(some 57), none, .mv (.t 56)⟩,
    ⟨(some 58), (some (57, false)), .mv (.t 6)⟩,
    ⟨(some 59), (some (57, false)), .call (.c (.func (.func 52) [] [])) [(.t 58)]⟩,
    ⟨(some 60), (some (57, false)), .bin .neq (.t 59) (.c (.int .i64 (0)))⟩,
    ⟨(some 61), none, .pick (.t 57) (.c (.bool true)) (.t 60)⟩,
    ⟨(some 62), none, .mv (.t 61)⟩,
    ⟨(some 63), (some (62, false)), .load (some 2) (.t 8)⟩,
    ⟨(some 64), (some (62, false)), .call (.c (.func (.func 53) [] [])) [(.t 63)]⟩,
    ⟨(some 65), (some (62, false)), .bin .neq (.t 64) (.c (.int .i64 (0)))⟩,
    ⟨(some 66), none, .pick (.t 62) (.c (.bool true)) (.t 65)⟩])
  (.cond (.t 66)
   (.seq (.ops [⟨(some 67), none, .build [(.int .i64 (0)), (.slice none 0 0)] []⟩,
     ⟨none, none, .store 2 (.t 2) (.t 67)⟩,
     ⟨(some 3), none, .mv (.c (.int .i64 (3)))⟩])
   (.ret))
   (.skip)))
  (.seq (.ops [⟨(some 68), none, .load (some 2) (.t 8)⟩,
    ⟨none, none, .store 2 (.t 2) (.t 68)⟩,
    ⟨(some 3), none, .mv (.c (.int .i64 (0)))⟩])
  (.ret))))))))))⟩
theorem a36_ok : funcC Tryd.prog Tryd.f36 = some a36 := by kernel_rfl
/-- (*permafrost/second.Second).sectors$1 -/
def a37 : AFunc := ⟨3, [],
  .seq (.ops [⟨(some 6), none, .mv (.c (.int .i64 (0)))⟩])
  (.block 0 (.loop (.seq (.ops [⟨(some 7), none, .bin .lss (.t 6) (.c (.int .i64 (7)))⟩])
    (.seq (.cond (.t 7)
     (.skip)
     (.exit 0))
    (.seq (.block 1 (.seq (.ops [⟨(some 8), none, .mv (.t 6)⟩,
       ⟨(some 4), none, .mv (.t 8)⟩])
     (.seq (.ops [⟨(some 9), none, .load none (.t 1)⟩,
       ⟨(some 10), none, .bin .mul (.c (.int .i64 (7))) (.t 9)⟩,
       ⟨(some 11), none, .mv (.t 4)⟩,
       ⟨(some 12), none, .bin .add (.t 10) (.t 11)⟩,
       ⟨(some 5), none, .mv (.t 12)⟩])
     (.seq (.ops [⟨(some 13), none, .mv (.t 5)⟩,
       ⟨(some 14), none, .load none (.t 2)⟩,
       ⟨(some 15), none, .call (.c (.func (.func 13) [] [])) [(.t 14)]⟩,
       ⟨(some 16), none, .bin .geq (.t 13) (.t 15)⟩,
       ⟨(some 17), none, .mv (.t 16)⟩,
       ⟨(some 18), (some (17, false)), .mv (.t 0)⟩,
       ⟨(some 19), (some (17, false)), .mv (.t 5)⟩,
       ⟨(some 20), (some (17, false)), .load none (.t 2)⟩,
       ⟨(some 21), (some (17, false)), .load none (.t 1)⟩,
       ⟨(some 22), (some (17, false)), .call (.c (.func (.func 35) [] [])) [(.t 20), (.t 21)]⟩,
       ⟨(some 23), (some (17, false)), .field 1 none (.t 22)⟩,
       ⟨(some 24), (some (17, false)), .bin .add (.t 23) (.c (.int .i64 (1)))⟩,
       ⟨(some 25), (some (17, false)), .mv (.t 4)⟩,
       ⟨(some 26), (some (17, false)), .bin .add (.t 24) (.t 25)⟩,
       ⟨(some 27), (some (17, false)), .call (.t 18) [(.t 19), (.t 26)]⟩,
       ⟨(some 28), (some (17, false)), .not (.t 27)⟩,
       ⟨(some 29), none, .pick (.t 17) (.c (.bool true)) (.t 28)⟩])
     (.cond (.t 29)
      (.ret)
      (.skip))))))
    (.ops [⟨(some 30), none, .bin .add (.t 6) (.c (.int .i64 (1)))⟩,
      ⟨(some 6), none, .mv (.t 30)⟩]))))))⟩
theorem a37_ok : funcC Tryd.prog Tryd.f37 = some a37 := by kernel_rfl
/-- permafrost/clog.Encode -/
def a38 : AFunc := ⟨1, [.tmp 2, .tmp 3],
  .seq (.ops [⟨(some 1), none, .box (.t 0)⟩,
    ⟨(some 2), none, .mv (.c (.str []))⟩,
    ⟨(some 3), none, .mv (.c (.int .i64 (0)))⟩])
  (.seq (.seq (.ops [⟨(some 8), none, .load (some 2) (.t 1)⟩,
    ⟨(some 9), none, .call (.c (.func (.func 53) [] [])) [(.t 8)]⟩,
    ⟨(some 4), none, .mv (.t 9)⟩])
  (.seq (.ops [⟨(some 10), none, .mv (.t 4)⟩,
    ⟨(some 11), none, .bin .neq (.t 10) (.c (.int .i64 (0)))⟩])
  (.cond (.t 11)
   (.seq (.ops [⟨(some 12), none, .mv (.t 4)⟩,
     ⟨(some 2), none, .mv (.c (.str []))⟩,
     ⟨(some 3), none, .mv (.t 12)⟩])
   (.ret))
   (.skip))))
  (.seq (.ops [⟨(some 5), none, .alloc (some 107) [(.ptr none), (.slice none 0 0)]⟩])
  (.seq (.draw [⟨⟨(some 13), none, .fieldAddr 0 (.t 1)⟩, 0, []⟩,
    ⟨⟨(some 14), none, .load none (.t 13)⟩, 1, [0]⟩,
    ⟨⟨(some 17), none, .fieldAddr 1 (.t 1)⟩, 4, []⟩,
    ⟨⟨(some 18), none, .load none (.t 17)⟩, 5, [2]⟩,
    ⟨⟨(some 19), none, .lenSl (.t 18)⟩, 6, [2, 3]⟩,
    ⟨⟨(some 15), none, .call (.c (.func (.func 55) [] [])) [(.t 14), (.c (.int .i64 (6)))]⟩, 2, [0, 1]⟩,
    ⟨⟨(some 16), none, .bin .add (.c (.str [80, 76])) (.t 15)⟩, 3, [0, 1, 5]⟩,
    ⟨⟨(some 20), none, .call (.c (.func (.func 55) [] [])) [(.t 19), (.c (.int .i64 (1)))]⟩, 7, [0, 1, 2, 3, 4, 5]⟩,
    ⟨⟨(some 21), none, .bin .add (.t 16) (.t 20)⟩, 8, [0, 1, 2, 3, 4, 5, 6, 7]⟩,
    ⟨⟨(some 22), none, .call (.c (.func (.func 54) [] [])) [(.t 5), (.t 21)]⟩, 9, [0, 1, 2, 3, 4, 5, 6, 7, 8]⟩])
  (.seq (.seq (.ops [⟨(some 23), none, .fieldAddr 1 (.t 1)⟩,
    ⟨(some 24), none, .load none (.t 23)⟩,
    ⟨(some 25), none, .lenSl (.t 24)⟩,
    ⟨(some 26), none, .mv (.c (.int .i64 (0)))⟩])
  (.block 0 (.loop (.seq (.ops [⟨(some 27), none, .bin .lss (.t 26) (.t 25)⟩])
    (.seq (.cond (.t 27)
     (.skip)
     (.exit 0))
    (.seq (.block 1 (.seq (.ops [⟨(some 28), none, .idxSl 4 (.t 24) (.t 26)⟩,
       ⟨(some 29), none, .load (some 4) (.t 28)⟩,
       ⟨(some 7), none, .alloc none [(.str []), (.str []), (.int .i64 (0)), (.int .i64 (0))]⟩,
       ⟨none, none, .store 4 (.t 7) (.t 29)⟩])
     (.draw [⟨⟨(some 30), none, .fieldAddr 0 (.t 7)⟩, 0, []⟩,
       ⟨⟨(some 31), none, .load none (.t 30)⟩, 1, [0]⟩,
       ⟨⟨(some 33), none, .fieldAddr 1 (.t 7)⟩, 3, []⟩,
       ⟨⟨(some 34), none, .load none (.t 33)⟩, 4, [2]⟩,
       ⟨⟨(some 36), none, .fieldAddr 2 (.t 7)⟩, 6, []⟩,
       ⟨⟨(some 37), none, .load none (.t 36)⟩, 7, [4]⟩,
       ⟨⟨(some 40), none, .fieldAddr 3 (.t 7)⟩, 10, []⟩,
       ⟨⟨(some 41), none, .load none (.t 40)⟩, 11, [6]⟩,
       ⟨⟨(some 32), none, .call (.c (.func (.func 56) [] [])) [(.t 31), (.c (.int .i64 (1)))]⟩, 2, [0, 1]⟩,
       ⟨⟨(some 35), none, .bin .add (.t 32) (.t 34)⟩, 5, [0, 1, 2, 3, 8]⟩,
       ⟨⟨(some 38), none, .call (.c (.func (.func 55) [] [])) [(.t 37), (.c (.int .i64 (2)))]⟩, 8, [0, 1, 4, 5, 8]⟩,
       ⟨⟨(some 39), none, .bin .add (.t 35) (.t 38)⟩, 9, [0, 1, 2, 3, 4, 5, 8, 9, 10]⟩,
       ⟨⟨(some 42), none, .call (.c (.func (.func 55) [] [])) [(.t 41), (.c (.int .i64 (2)))]⟩, 12, [0, 1, 4, 5, 6, 7, 8, 10]⟩,
       ⟨⟨(some 43), none, .bin .add (.t 39) (.t 42)⟩, 13, [0, 1, 2, 3, 4, 5, 6, 7, 8, 9, 10, 11, 12]⟩,
       ⟨⟨(some 44), none, .call (.c (.func (.func 54) [] [])) [(.t 5), (.t 43)]⟩, 14, [0, 1, 2, 3, 4, 5, 6, 7, 8, 9, 10, 11, 12, 13]⟩])))
    (.ops [⟨(some 45), none, .bin .add (.t 26) (.c (.int .i64 (1)))⟩,
      ⟨(some 26), none, .mv (.t 45)⟩])))))))
  (.seq (.ops [⟨(some 46), none, .call (.c (.func (.func 57) [] [])) [(.t 5)]⟩,
    ⟨(some 47), none, .call (.c (.func (.func 57) [] [])) [(.t 5)]⟩,
    ⟨(some 48), none, .call (.c (.func (.func 24) [] [])) [(.t 47)]⟩,
    ⟨(some 49), none, .bin .add (.t 46) (.t 48)⟩,
    ⟨(some 2), none, .mv (.t 49)⟩,
    ⟨(some 3), none, .mv (.c (.int .i64 (0)))⟩])
  (.ret))))))⟩
theorem a38_ok : funcC Tryd.prog Tryd.f38 = some a38 := by kernel_rfl
/-- permafrost/sum.New -/
def a39 : AFunc := ⟨0, [.tmp 0],
  .seq (.ops [⟨(some 0), none, .mv (.c (.ptr none))⟩])
  (.seq (.ops [⟨(some 1), none, .call (.c (.func (.func 58) [] [])) []⟩,
    ⟨(some 2), none, .build [(.int .u32 (0)), (.int .u32 (0)), (.int .u32 (0)), (.int .u32 (0)), (.int .u32 (0)), (.int .u32 (0)), (.int .u32 (0)), (.int .u32 (0)), (.str []), (.int .i64 (0))] [(0, 8, (.t 1))]⟩,
    ⟨(some 3), none, .box (.t 2)⟩,
    ⟨(some 0), none, .mv (.t 3)⟩])
  (.ret))⟩
theorem a39_ok : funcC Tryd.prog Tryd.f39 = some a39 := by kernel_rfl
/-- (*permafrost/sum.Writer).Write -/
def a40 : AFunc := ⟨2, [],
  .seq (.seq (.ops [⟨(some 4), none, .mv (.t 0)⟩,
    ⟨(some 5), none, .eq false (.flat .ptr) (.t 4) (.c (.ptr none))⟩])
  (.cond (.t 5)
   (.ret)
   (.skip)))
  (.seq (.ops [⟨(some 6), none, .mv (.t 0)⟩,
    ⟨(some 7), none, .nilck (.t 6)⟩,
    ⟨(some 8), none, .fieldAddr 9 (.t 7)⟩,
    ⟨(some 9), none, .load none (.t 8)⟩,
    ⟨(some 10), none, .mv (.t 1)⟩,
    ⟨(some 11), none, .lenStr (.t 10)⟩,
    ⟨(some 12), none, .bin .add (.t 9) (.t 11)⟩,
    ⟨(some 13), none, .nilck (.t 6)⟩,
    ⟨(some 14), none, .fieldAddr 9 (.t 13)⟩,
    ⟨none, none, .store 1 (.t 14) (.t 12)⟩])
  (.seq (.ops [⟨(some 15), none, .mv (.t 0)⟩,
    ⟨(some 16), none, .nilck (.t 15)⟩,
    ⟨(some 17), none, .fieldAddr 8 (.t 16)⟩,
    ⟨(some 18), none, .load none (.t 17)⟩,
    ⟨(some 19), none, .mv (.t 1)⟩,
    ⟨(some 20), none, .bin .add (.t 18) (.t 19)⟩,
    ⟨(some 1), none, .mv (.t 20)⟩])
  (.seq (.block 0 (.loop (.seq (.seq (.ops [⟨(some 21), none, .mv (.t 1)⟩,
      ⟨(some 22), none, .lenStr (.t 21)⟩,
      ⟨(some 23), none, .bin .geq (.t 22) (.c (.int .i64 (64)))⟩])
    (.cond (.t 23)
     (.skip)
     (.exit 0)))
    (.block 1 (.draw [⟨⟨(some 24), none, .mv (.t 0)⟩, 0, []⟩,
       ⟨⟨(some 25), none, .mv (.t 0)⟩, 1, []⟩,
       ⟨⟨(some 26), none, .nilck (.t 25)⟩, 2, [1]⟩,
       ⟨⟨(some 27), none, .fieldAddr 0 (.t 26)⟩, 3, [1, 2]⟩,
       ⟨⟨(some 28), none, .load (some 8) (.t 27)⟩, 4, [1, 2, 3]⟩,
       ⟨⟨(some 29), none, .mv (.t 1)⟩, 5, []⟩,
       ⟨⟨(some 30), none, .sliceStr (.t 29) none (some (.c (.int .i64 (64))))⟩, 6, [5]⟩,
       ⟨⟨(some 32), none, .mv (.t 1)⟩, 8, []⟩,
       ⟨⟨(some 33), none, .sliceStr (.t 32) (some (.c (.int .i64 (64)))) none⟩, 9, [7]⟩,
       ⟨⟨(some 31), none, .call (.c (.func (.func 59) [] [])) [(.t 28), (.t 30)]⟩, 7, [1, 2, 3, 4, 5, 6]⟩,
       ⟨⟨(some 34), none, .nilck (.t 24)⟩, 10, [0, 1, 2, 3, 4, 5, 6, 9]⟩,
       ⟨⟨(some 35), none, .fieldAddr 0 (.t 34)⟩, 11, [0, 1, 2, 3, 4, 5, 6, 9, 10]⟩,
       ⟨⟨none, none, .store 8 (.t 35) (.t 31)⟩, 12, [0, 1, 2, 3, 4, 5, 6, 9, 10, 11]⟩,
       ⟨⟨(some 1), none, .mv (.t 33)⟩, 13, [0, 1, 2, 3, 4, 5, 6, 7, 8, 9, 10, 11, 12]⟩])))))
  (.ops [⟨(some 36), none, .mv (.t 0)⟩,
    ⟨(some 37), none, .mv (.t 1)⟩,
    ⟨(some 38), none, .nilck (.t 36)⟩,
    ⟨(some 39), none, .fieldAddr 8 (.t 38)⟩,
    ⟨none, none, .store 1 (.t 39) (.t 37)⟩]))))⟩
theorem a40_ok : funcC Tryd.prog Tryd.f40 = some a40 := by kernel_rfl
/-- (*permafrost/sum.Writer).Sum -/
def a41 : AFunc := ⟨1, [.tmp 2],
  .seq (.ops [⟨(some 2), none, .mv (.c (.str []))⟩])
  (.seq (.seq (.ops [⟨(some 9), none, .mv (.t 0)⟩,
    ⟨(some 10), none, .eq false (.flat .ptr) (.t 9) (.c (.ptr none))⟩])
  (.cond (.t 10)
   (.ops [⟨(some 11), none, .call (.c (.func (.func 39) [] [])) []⟩,
     ⟨(some 0), none, .mv (.t 11)⟩])
   (.skip)))
  (.seq (.ops [⟨(some 12), none, .mv (.t 0)⟩,
    ⟨(some 13), none, .nilck (.t 12)⟩,
    ⟨(some 14), none, .fieldAddr 8 (.t 13)⟩,
    ⟨(some 15), none, .load none (.t 14)⟩,
    ⟨(some 16), none, .lenStr (.t 15)⟩,
    ⟨(some 17), none, .bin .sub (.c (.int .i64 (119))) (.t 16)⟩,
    ⟨(some 18), none, .bin .rem (.t 17) (.c (.int .i64 (64)))⟩,
    ⟨(some 19), none, .call (.c (.func (.func 60) [] [])) [(.c (.str [0])), (.t 18)]⟩,
    ⟨(some 20), none, .bin .add (.c (.str [128])) (.t 19)⟩,
    ⟨(some 3), none, .mv (.t 20)⟩])
  (.seq (.seq (.ops [⟨(some 4), none, .mv (.c (.int .i64 (56)))⟩])
  (.block 0 (.loop (.seq (.seq (.ops [⟨(some 21), none, .mv (.t 4)⟩,
      ⟨(some 22), none, .bin .geq (.t 21) (.c (.int .i64 (0)))⟩])
    (.cond (.t 22)
     (.skip)
     (.exit 0)))
    (.seq (.block 1 (.ops [⟨(some 25), none, .mv (.t 3)⟩,
       ⟨(some 26), none, .mv (.t 0)⟩,
       ⟨(some 27), none, .nilck (.t 26)⟩,
       ⟨(some 28), none, .fieldAddr 9 (.t 27)⟩,
       ⟨(some 29), none, .load none (.t 28)⟩,
       ⟨(some 30), none, .bin .mul (.c (.int .i64 (8))) (.t 29)⟩,
       ⟨(some 31), none, .mv (.t 4)⟩,
       ⟨(some 32), none, .bin .shr (.t 30) (.t 31)⟩,
       ⟨(some 33), none, .toInt .u8 (.t 32)⟩,
       ⟨(some 34), none, .buildSl [(.int .u8 (0))] 1 [(0, 1, (.t 33))]⟩,
       ⟨(some 35), none, .toStr (.t 34)⟩,
       ⟨(some 36), none, .bin .add (.t 25) (.t 35)⟩,
       ⟨(some 3), none, .mv (.t 36)⟩]))
    (.ops [⟨(some 23), none, .mv (.t 4)⟩,
      ⟨(some 24), none, .bin .sub (.t 23) (.c (.int .i64 (8)))⟩,
      ⟨(some 4), none, .mv (.t 24)⟩]))))))
  (.seq (.ops [⟨(some 37), none, .mv (.t 0)⟩,
    ⟨(some 38), none, .nilck (.t 37)⟩,
    ⟨(some 39), none, .load (some 10) (.t 38)⟩,
    ⟨(some 5), none, .alloc none [(.int .u32 (0)), (.int .u32 (0)), (.int .u32 (0)), (.int .u32 (0)), (.int .u32 (0)), (.int .u32 (0)), (.int .u32 (0)), (.int .u32 (0)), (.str []), (.int .i64 (0))]⟩,
    ⟨none, none, .store 10 (.t 5) (.t 39)⟩])
  (.seq (.ops [⟨(some 40), none, .mv (.t 3)⟩,
    ⟨(some 41), none, .call (.c (.func (.func 40) [] [])) [(.t 5), (.t 40)]⟩])
  (.seq (.ops [⟨(some 6), none, .alloc (some 107) [(.ptr none), (.slice none 0 0)]⟩])
  (.seq (.seq (.ops [⟨(some 42), none, .fieldAddr 0 (.t 5)⟩,
    ⟨(some 43), none, .load (some 8) (.t 42)⟩,
    ⟨(some 44), none, .mv (.c (.int .i64 (0)))⟩])
  (.block 2 (.loop (.seq (.ops [⟨(some 45), none, .bin .lss (.t 44) (.c (.int .i64 (8)))⟩])
    (.seq (.cond (.t 45)
     (.skip)
     (.exit 2))
    (.seq (.block 3 (.seq (.ops [⟨(some 46), none, .atArr 8 1 none (.t 43) (.t 44)⟩,
       ⟨(some 8), none, .mv (.t 46)⟩])
     (.ops [⟨(some 47), none, .mv (.t 8)⟩,
       ⟨(some 48), none, .bin .shr (.t 47) (.c (.int .u64 (24)))⟩,
       ⟨(some 49), none, .toInt .u8 (.t 48)⟩,
       ⟨(some 50), none, .mv (.t 8)⟩,
       ⟨(some 51), none, .bin .shr (.t 50) (.c (.int .u64 (16)))⟩,
       ⟨(some 52), none, .toInt .u8 (.t 51)⟩,
       ⟨(some 53), none, .mv (.t 8)⟩,
       ⟨(some 54), none, .bin .shr (.t 53) (.c (.int .u64 (8)))⟩,
       ⟨(some 55), none, .toInt .u8 (.t 54)⟩,
       ⟨(some 56), none, .mv (.t 8)⟩,
       ⟨(some 57), none, .toInt .u8 (.t 56)⟩,
       ⟨(some 58), none, .buildSl [(.int .u8 (0)), (.int .u8 (0)), (.int .u8 (0)), (.int .u8 (0))] 4 [(0, 1, (.t 49)), (1, 1, (.t 52)), (2, 1, (.t 55)), (3, 1, (.t 57))]⟩,
       ⟨(some 59), none, .call (.c (.func (.func 61) [] [])) [(.t 6), (.t 58)]⟩])))
    (.ops [⟨(some 60), none, .bin .add (.t 44) (.c (.int .i64 (1)))⟩,
      ⟨(some 44), none, .mv (.t 60)⟩])))))))
  (.seq (.ops [⟨(some 61), none, .call (.c (.func (.func 57) [] [])) [(.t 6)]⟩,
    ⟨(some 2), none, .mv (.t 61)⟩])
  (.ret)))))))))⟩
theorem a41_ok : funcC Tryd.prog Tryd.f41 = some a41 := by kernel_rfl
/-- permafrost/dev.settle -/
def a42 : AFunc := ⟨3, [],
  .seq (.ops [⟨(some 8), none, .mv (.t 0)⟩,
    ⟨(some 9), none, .lenSl (.t 8)⟩,
    ⟨(some 10), none, .mv (.c (.int .i64 (0)))⟩])
  (.block 0 (.loop (.seq (.ops [⟨(some 11), none, .bin .lss (.t 10) (.t 9)⟩])
    (.seq (.cond (.t 11)
     (.skip)
     (.exit 0))
    (.seq (.block 1 (.seq (.ops [⟨(some 12), none, .mv (.t 10)⟩,
       ⟨(some 13), none, .idxSl 3 (.t 8) (.t 10)⟩,
       ⟨(some 14), none, .load (some 3) (.t 13)⟩,
       ⟨(some 7), none, .alloc none [(.int .i64 (0)), (.int .i64 (0)), (.str [])]⟩,
       ⟨(some 6), none, .mv (.t 12)⟩,
       ⟨none, none, .store 3 (.t 7) (.t 14)⟩])
     (.seq (.ops [⟨(some 15), none, .mv (.t 1)⟩,
       ⟨(some 16), none, .mv (.t 6)⟩,
       ⟨(some 17), none, .call (.t 15) [(.t 16)]⟩])
     (.cond (.t 17)
      (.ops [⟨(some 18), none, .mv (.t 2)⟩,
        ⟨(some 19), none, .load (some 3) (.t 7)⟩,
        ⟨(some 20), none, .call (.t 18) [(.t 19)]⟩])
      (.skip)))))
    (.ops [⟨(some 21), none, .bin .add (.t 10) (.c (.int .i64 (1)))⟩,
      ⟨(some 10), none, .mv (.t 21)⟩]))))))⟩
theorem a42_ok : funcC Tryd.prog Tryd.f42 = some a42 := by kernel_rfl
/-- slices.Backward[[]permafrost/dev.write,permafrost/dev.write]$1 -/
def a46 : AFunc := ⟨2, [],
  .seq (.ops [⟨(some 4), none, .load none (.t 1)⟩,
    ⟨(some 5), none, .lenSl (.t 4)⟩,
    ⟨(some 6), none, .bin .sub (.t 5) (.c (.int .i64 (1)))⟩,
    ⟨(some 3), none, .mv (.t 6)⟩])
  (.block 0 (.loop (.seq (.seq (.ops [⟨(some 7), none, .mv (.t 3)⟩,
      ⟨(some 8), none, .bin .geq (.t 7) (.c (.int .i64 (0)))⟩])
    (.cond (.t 8)
     (.skip)
     (.exit 0)))
    (.seq (.block 1 (.seq (.ops [⟨(some 11), none, .mv (.t 0)⟩,
       ⟨(some 12), none, .mv (.t 3)⟩,
       ⟨(some 13), none, .load none (.t 1)⟩,
       ⟨(some 14), none, .mv (.t 3)⟩,
       ⟨(some 15), none, .idxSl 3 (.t 13) (.t 14)⟩,
       ⟨(some 16), none, .load (some 3) (.t 15)⟩,
       ⟨(some 17), none, .call (.t 11) [(.t 12), (.t 16)]⟩,
       ⟨(some 18), none, .not (.t 17)⟩])
     (.cond (.t 18)
      (.ret)
      (.skip))))
    (.ops [⟨(some 9), none, .mv (.t 3)⟩,
      ⟨(some 10), none, .bin .sub (.t 9) (.c (.int .i64 (1)))⟩,
      ⟨(some 3), none, .mv (.t 10)⟩])))))⟩
theorem a46_ok : funcC Tryd.prog Tryd.f46 = some a46 := by kernel_rfl
/-- slices.DeleteFunc[[]permafrost/dev.write,permafrost/dev.write] -/
def a47 : AFunc := ⟨2, [.tmp 4],
  .seq (.ops [⟨(some 4), none, .mv (.c (.slice none 0 0))⟩])
  (.seq (.ops [⟨(some 8), none, .mv (.t 0)⟩,
    ⟨(some 9), none, .mv (.t 1)⟩,
    ⟨(some 10), none, .call (.c (.func (.func 65) [] [])) [(.t 8), (.t 9)]⟩,
    ⟨(some 5), none, .mv (.t 10)⟩])
  (.seq (.seq (.ops [⟨(some 11), none, .mv (.t 5)⟩,
    ⟨(some 12), none, .bin .eql (.t 11) (.c (.int .i64 (-1)))⟩])
  (.cond (.t 12)
   (.seq (.ops [⟨(some 13), none, .mv (.t 0)⟩,
     ⟨(some 4), none, .mv (.t 13)⟩])
   (.ret))
   (.skip)))
  (.seq (.seq (.ops [⟨(some 14), none, .mv (.t 5)⟩,
    ⟨(some 15), none, .bin .add (.t 14) (.c (.int .i64 (1)))⟩,
    ⟨(some 6), none, .mv (.t 15)⟩])
  (.block 0 (.loop (.seq (.seq (.ops [⟨(some 16), none, .mv (.t 6)⟩,
      ⟨(some 17), none, .mv (.t 0)⟩,
      ⟨(some 18), none, .lenSl (.t 17)⟩,
      ⟨(some 19), none, .bin .lss (.t 16) (.t 18)⟩])
    (.cond (.t 19)
     (.skip)
     (.exit 0)))
    (.seq (.block 1 (.seq (.ops [⟨(some 22), none, .mv (.t 0)⟩,
       ⟨(some 23), none, .mv (.t 6)⟩,
       ⟨(some 24), none, .idxSl 3 (.t 22) (.t 23)⟩,
       ⟨(some 25), none, .load (some 3) (.t 24)⟩,
       ⟨(some 7), none, .alloc none [(.int .i64 (0)), (.int .i64 (0)), (.str [])]⟩,
       ⟨none, none, .store 3 (.t 7) (.t 25)⟩])
     (.seq (.ops [⟨(some 26), none, .mv (.t 1)⟩,
       ⟨(some 27), none, .load (some 3) (.t 7)⟩,
       ⟨(some 28), none, .call (.t 26) [(.t 27)]⟩,
       ⟨(some 29), none, .not (.t 28)⟩])
     (.cond (.t 29)
      (.seq (.ops [⟨(some 30), none, .mv (.t 0)⟩,
        ⟨(some 31), none, .mv (.t 5)⟩,
        ⟨(some 32), none, .load (some 3) (.t 7)⟩,
        ⟨(some 33), none, .idxSl 3 (.t 30) (.t 31)⟩,
        ⟨none, none, .store 3 (.t 33) (.t 32)⟩])
      (.ops [⟨(some 34), none, .mv (.t 5)⟩,
        ⟨(some 35), none, .bin .add (.t 34) (.c (.int .i64 (1)))⟩,
        ⟨(some 5), none, .mv (.t 35)⟩]))
      (.skip)))))
    (.ops [⟨(some 20), none, .mv (.t 6)⟩,
      ⟨(some 21), none, .bin .add (.t 20) (.c (.int .i64 (1)))⟩,
      ⟨(some 6), none, .mv (.t 21)⟩]))))))
  (.seq (.ops [⟨(some 36), none, .mv (.t 0)⟩,
    ⟨(some 37), none, .mv (.t 5)⟩,
    ⟨(some 38), none, .sliceSl 3 (.t 36) (some (.t 37)) none none⟩,
    ⟨none, none, .clear 3 [(.int .i64 (0)), (.int .i64 (0)), (.str [])] (.t 38)⟩])
  (.seq (.ops [⟨(some 39), none, .mv (.t 0)⟩,
    ⟨(some 40), none, .mv (.t 5)⟩,
    ⟨(some 41), none, .sliceSl 3 (.t 39) none (some (.t 40)) none⟩,
    ⟨(some 4), none, .mv (.t 41)⟩])
  (.ret))))))⟩
theorem a47_ok : funcC Tryd.prog Tryd.f47 = some a47 := by kernel_rfl
/-- permafrost/fixed.Read -/
def a48 : AFunc := ⟨1, [.tmp 2],
  .seq (.ops [⟨(some 2), none, .mv (.c (.ptr none))⟩])
  (.seq (.ops [⟨(some 3), none, .mv (.t 0)⟩,
    ⟨(some 4), none, .build [(.str []), (.int .i64 (0))] [(0, 1, (.t 3))]⟩,
    ⟨(some 5), none, .box (.t 4)⟩,
    ⟨(some 2), none, .mv (.t 5)⟩])
  (.ret))⟩
theorem a48_ok : funcC Tryd.prog Tryd.f48 = some a48 := by kernel_rfl
/-- (*permafrost/fixed.Reader).Bytes -/
def a49 : AFunc := ⟨2, [.tmp 4],
  .seq (.ops [⟨(some 4), none, .mv (.c (.str []))⟩])
  (.seq (.seq (.ops [⟨(some 6), none, .mv (.t 0)⟩,
    ⟨(some 7), none, .eq false (.flat .ptr) (.t 6) (.c (.ptr none))⟩])
  (.cond (.t 7)
   (.seq (.ops [⟨(some 4), none, .mv (.c (.str []))⟩])
   (.ret))
   (.skip)))
  (.seq (.ops [⟨(some 5), none, .mv (.c (.int .i64 (0)))⟩])
  (.seq (.seq (.ops [⟨(some 8), none, .mv (.t 1)⟩,
    ⟨(some 9), none, .bin .lss (.t 8) (.c (.int .i64 (0)))⟩])
  (.cond (.t 9)
   (.ops [⟨(some 5), none, .mv (.c (.int .i64 (1)))⟩])
   (.skip)))
  (.seq (.ops [⟨(some 10), none, .mv (.t 0)⟩,
    ⟨(some 11), none, .mv (.t 1)⟩,
    ⟨(some 12), none, .mv (.t 5)⟩,
    ⟨(some 13), none, .call (.c (.func (.func 66) [] [])) [(.t 10), (.t 11), (.t 12)]⟩,
    ⟨(some 4), none, .mv (.t 13)⟩])
  (.ret)))))⟩
theorem a49_ok : funcC Tryd.prog Tryd.f49 = some a49 := by kernel_rfl
/-- (*permafrost/fixed.Reader).Number -/
def a50 : AFunc := ⟨2, [.tmp 4],
  .seq (.ops [⟨(some 4), none, .mv (.c (.int .i64 (0)))⟩])
  (.seq (.seq (.ops [⟨(some 9), none, .mv (.t 0)⟩,
    ⟨(some 10), none, .eq false (.flat .ptr) (.t 9) (.c (.ptr none))⟩])
  (.cond (.t 10)
   (.seq (.ops [⟨(some 4), none, .mv (.c (.int .i64 (0)))⟩])
   (.ret))
   (.skip)))
  (.seq (.ops [⟨(some 5), none, .mv (.c (.int .i64 (0)))⟩])
  (.seq (.seq (.ops [⟨(some 11), none, .mv (.t 1)⟩,
    ⟨(some 12), none, .call (.c (.func (.func 67) [] [])) [(.t 11)]⟩,
    ⟨(some 13), none, .bin .lss (.t 12) (.c (.int .i64 (0)))⟩])
  (.cond (.t 13)
   (.ops [⟨(some 5), none, .mv (.c (.int .i64 (1)))⟩])
   (.skip)))
  (.seq (.ops [⟨(some 14), none, .mv (.t 0)⟩,
    ⟨(some 15), none, .mv (.t 1)⟩,
    ⟨(some 16), none, .mv (.t 5)⟩,
    ⟨(some 17), none, .call (.c (.func (.func 66) [] [])) [(.t 14), (.t 15), (.t 16)]⟩,
    ⟨(some 6), none, .mv (.t 17)⟩])
  (.seq (.ops [⟨(some 7), none, .mv (.c (.int .i64 (0)))⟩])
  (.seq (.seq (.ops [⟨(some 18), none, .mv (.t 6)⟩,
    ⟨(some 19), none, .lenStr (.t 18)⟩,
    ⟨(some 20), none, .mv (.c (.int .i64 (0)))⟩])
  (.block 0 (.loop (.seq (.ops [⟨(some 21), none, .bin .lss (.t 20) (.t 19)⟩])
    (.seq (.cond (.t 21)
     (.skip)
     (.exit 0))
    (.seq (.block 1 (.seq (.ops [⟨(some 22), none, .mv (.t 20)⟩,
       ⟨(some 8), none, .mv (.t 22)⟩])
     (.ops [⟨(some 23), none, .mv (.t 7)⟩,
       ⟨(some 24), none, .mv (.t 6)⟩,
       ⟨(some 25), none, .mv (.t 8)⟩,
       ⟨(some 26), none, .atStr (.t 24) (.t 25)⟩,
       ⟨(some 27), none, .toInt .i64 (.t 26)⟩,
       ⟨(some 28), none, .mv (.t 8)⟩,
       ⟨(some 29), none, .bin .mul (.c (.int .i64 (8))) (.t 28)⟩,
       ⟨(some 30), none, .bin .shl (.t 27) (.t 29)⟩,
       ⟨(some 31), none, .bin .or (.t 23) (.t 30)⟩,
       ⟨(some 7), none, .mv (.t 31)⟩])))
    (.ops [⟨(some 32), none, .bin .add (.t 20) (.c (.int .i64 (1)))⟩,
      ⟨(some 20), none, .mv (.t 32)⟩])))))))
  (.seq (.ops [⟨(some 33), none, .mv (.t 7)⟩,
    ⟨(some 4), none, .mv (.t 33)⟩])
  (.ret))))))))⟩
theorem a50_ok : funcC Tryd.prog Tryd.f50 = some a50 := by kernel_rfl
/-- (*permafrost/fixed.Reader).Text -/
def a51 : AFunc := ⟨2, [.tmp 4],
  .seq (.ops [⟨(some 4), none, .mv (.c (.str []))⟩])
  (.seq (.ops [⟨(some 5), none, .mv (.t 0)⟩,
    ⟨(some 6), none, .mv (.t 0)⟩,
    ⟨(some 7), none, .mv (.t 1)⟩,
    ⟨(some 8), none, .call (.c (.func (.func 50) [] [])) [(.t 6), (.t 7)]⟩,
    ⟨(some 9), none, .call (.c (.func (.func 49) [] [])) [(.t 5), (.t 8)]⟩,
    ⟨(some 4), none, .mv (.t 9)⟩])
  (.ret))⟩
theorem a51_ok : funcC Tryd.prog Tryd.f51 = some a51 := by kernel_rfl
/-- (*permafrost/fixed.Reader).End -/
def a52 : AFunc := ⟨1, [.tmp 2],
  .seq (.ops [⟨(some 2), none, .mv (.c (.int .i64 (0)))⟩])
  (.seq (.block 0 (.seq (.ops [⟨(some 4), none, .mv (.t 0)⟩,
     ⟨(some 5), none, .eq false (.flat .ptr) (.t 4) (.c (.ptr none))⟩,
     ⟨(some 3), none, .mv (.t 5)⟩])
   (.cond (.t 3)
    (.seq (.ops [⟨(some 2), none, .mv (.c (.int .i64 (1)))⟩])
    (.ret))
    (.seq (.ops [⟨(some 7), none, .mv (.t 0)⟩,
      ⟨(some 8), none, .nilck (.t 7)⟩,
      ⟨(some 9), none, .fieldAddr 1 (.t 8)⟩,
      ⟨(some 10), none, .load none (.t 9)⟩,
      ⟨(some 11), none, .bin .eql (.t 10) (.c (.int .i64 (0)))⟩,
      ⟨(some 12), none, .mv (.t 11)⟩,
      ⟨(some 13), (some (12, true)), .mv (.t 0)⟩,
      ⟨(some 14), (some (12, true)), .nilck (.t 13)⟩,
      ⟨(some 15), (some (12, true)), .fieldAddr 0 (.t 14)⟩,
      ⟨(some 16), (some (12, true)), .load none (.t 15)⟩,
      ⟨(some 17), (some (12, true)), .bin .neq (.t 16) (.c (.str []))⟩,
      ⟨(some 18), none, .pick (.t 12) (.t 17) (.c (.bool false))⟩,
      ⟨(some 6), none, .mv (.t 18)⟩])
    (.cond (.t 6)
     (.seq (.ops [⟨(some 2), none, .mv (.c (.int .i64 (3)))⟩])
     (.ret))
     (.skip))))))
  (.seq (.ops [⟨(some 19), none, .mv (.t 0)⟩,
    ⟨(some 20), none, .nilck (.t 19)⟩,
    ⟨(some 21), none, .fieldAddr 1 (.t 20)⟩,
    ⟨(some 22), none, .load none (.t 21)⟩,
    ⟨(some 2), none, .mv (.t 22)⟩])
  (.ret)))⟩
theorem a52_ok : funcC Tryd.prog Tryd.f52 = some a52 := by kernel_rfl
/-- permafrost/clog.Check -/
def a53 : AFunc := ⟨1, [.tmp 2],
  .seq (.ops [⟨(some 1), none, .box (.t 0)⟩,
    ⟨(some 2), none, .mv (.c (.int .i64 (0)))⟩])
  (.seq (.ops [⟨(some 3), none, .mv (.c (.func (.func 68) [] []))⟩])
  (.seq (.seq (.ops [⟨(some 4), none, .fieldAddr 0 (.t 1)⟩,
    ⟨(some 5), none, .load none (.t 4)⟩,
    ⟨(some 6), none, .call (.c (.func (.func 69) [] [])) [(.t 5), (.c (.int .i64 (1099511627776)))]⟩,
    ⟨(some 7), none, .not (.t 6)⟩,
    ⟨(some 8), none, .mv (.t 7)⟩,
    ⟨(some 9), (some (8, false)), .fieldAddr 1 (.t 1)⟩,
    ⟨(some 10), (some (8, false)), .load none (.t 9)⟩,
    ⟨(some 11), (some (8, false)), .lenSl (.t 10)⟩,
    ⟨(some 12), (some (8, false)), .bin .gtr (.t 11) (.c (.int .i64 (7)))⟩,
    ⟨(some 13), none, .pick (.t 8) (.c (.bool true)) (.t 12)⟩,
    ⟨(some 14), none, .mv (.t 13)⟩,
    ⟨(some 15), (some (14, false)), .fieldAddr 1 (.t 1)⟩,
    ⟨(some 16), (some (14, false)), .load none (.t 15)⟩,
    ⟨(some 17), (some (14, false)), .mv (.t 3)⟩,
    ⟨(some 18), (some (14, false)), .call (.c (.func (.func 70) [] [])) [(.t 16), (.t 17)]⟩,
    ⟨(some 19), none, .pick (.t 14) (.c (.bool true)) (.t 18)⟩])
  (.cond (.t 19)
   (.seq (.ops [⟨(some 2), none, .mv (.c (.int .i64 (1)))⟩])
   (.ret))
   (.skip)))
  (.seq (.ops [⟨(some 2), none, .mv (.c (.int .i64 (0)))⟩])
  (.ret))))⟩
theorem a53_ok : funcC Tryd.prog Tryd.f53 = some a53 := by kernel_rfl
/-- (*strings.Builder).WriteString -/
def a54 : AFunc := ⟨2, [.tmp 4, .tmp 5],
  .seq (.ops [⟨(some 4), none, .mv (.c (.int .i64 (0)))⟩,
    ⟨(some 5), none, .mv (.c .nilIface)⟩])
  (.seq (.ops [⟨(some 6), none, .mv (.t 0)⟩,
    ⟨(some 7), none, .call (.c (.func (.func 71) [] [])) [(.t 6)]⟩])
  (.seq (.ops [⟨(some 8), none, .mv (.t 0)⟩,
    ⟨(some 9), none, .mv (.t 0)⟩,
    ⟨(some 10), none, .nilck (.t 9)⟩,
    ⟨(some 11), none, .fieldAddr 1 (.t 10)⟩,
    ⟨(some 12), none, .load none (.t 11)⟩,
    ⟨(some 13), none, .mv (.t 1)⟩,
    ⟨(some 14), none, .appendS (some 5) (.t 12) (.t 13)⟩,
    ⟨(some 15), none, .nilck (.t 8)⟩,
    ⟨(some 16), none, .fieldAddr 1 (.t 15)⟩,
    ⟨none, none, .store 1 (.t 16) (.t 14)⟩])
  (.seq (.ops [⟨(some 17), none, .mv (.t 1)⟩,
    ⟨(some 18), none, .lenStr (.t 17)⟩,
    ⟨(some 4), none, .mv (.t 18)⟩,
    ⟨(some 5), none, .mv (.c .nilIface)⟩])
  (.ret))))⟩
theorem a54_ok : funcC Tryd.prog Tryd.f54 = some a54 := by kernel_rfl
/-- permafrost/fixed.Put -/
def a55 : AFunc := ⟨2, [.tmp 4],
  .seq (.ops [⟨(some 4), none, .mv (.c (.str []))⟩])
  (.seq (.seq (.ops [⟨(some 7), none, .mv (.t 0)⟩,
    ⟨(some 8), none, .bin .lss (.t 7) (.c (.int .i64 (0)))⟩,
    ⟨(some 9), none, .mv (.t 8)⟩,
    ⟨(some 10), (some (9, false)), .mv (.t 0)⟩,
    ⟨(some 11), (some (9, false)), .mv (.t 1)⟩,
    ⟨(some 12), (some (9, false)), .call (.c (.func (.func 67) [] [])) [(.t 11)]⟩,
    ⟨(some 13), (some (9, false)), .bin .gtr (.t 10) (.t 12)⟩,
    ⟨(some 14), none, .pick (.t 9) (.c (.bool true)) (.t 13)⟩])
  (.cond (.t 14)
   (.seq (.ops [⟨(some 4), none, .mv (.c (.str []))⟩])
   (.ret))
   (.skip)))
  (.seq (.ops [⟨(some 15), none, .mv (.t 1)⟩,
    ⟨(some 16), none, .makeSl 1 1 [(.int .u8 (0))] (.t 15) (.t 15)⟩,
    ⟨(some 5), none, .mv (.t 16)⟩])
  (.seq (.seq (.ops [⟨(some 17), none, .mv (.t 1)⟩,
    ⟨(some 18), none, .mv (.c (.int .i64 (0)))⟩])
  (.block 0 (.loop (.seq (.ops [⟨(some 19), none, .bin .lss (.t 18) (.t 17)⟩])
    (.seq (.cond (.t 19)
     (.skip)
     (.exit 0))
    (.seq (.block 1 (.seq (.ops [⟨(some 20), none, .mv (.t 18)⟩,
       ⟨(some 6), none, .mv (.t 20)⟩])
     (.ops [⟨(some 21), none, .mv (.t 5)⟩,
       ⟨(some 22), none, .mv (.t 6)⟩,
       ⟨(some 23), none, .mv (.t 0)⟩,
       ⟨(some 24), none, .mv (.t 6)⟩,
       ⟨(some 25), none, .bin .mul (.c (.int .i64 (8))) (.t 24)⟩,
       ⟨(some 26), none, .bin .shr (.t 23) (.t 25)⟩,
       ⟨(some 27), none, .toInt .u8 (.t 26)⟩,
       ⟨(some 28), none, .idxSl 1 (.t 21) (.t 22)⟩,
       ⟨none, none, .store 1 (.t 28) (.t 27)⟩])))
    (.ops [⟨(some 29), none, .bin .add (.t 18) (.c (.int .i64 (1)))⟩,
      ⟨(some 18), none, .mv (.t 29)⟩])))))))
  (.seq (.ops [⟨(some 30), none, .mv (.t 5)⟩,
    ⟨(some 31), none, .toStr (.t 30)⟩,
    ⟨(some 4), none, .mv (.t 31)⟩])
  (.ret)))))⟩
theorem a55_ok : funcC Tryd.prog Tryd.f55 = some a55 := by kernel_rfl
/-- permafrost/fixed.Text -/
def a56 : AFunc := ⟨2, [.tmp 4],
  .seq (.ops [⟨(some 4), none, .mv (.c (.str []))⟩])
  (.seq (.seq (.ops [⟨(some 5), none, .mv (.t 0)⟩,
    ⟨(some 6), none, .lenStr (.t 5)⟩,
    ⟨(some 7), none, .mv (.t 1)⟩,
    ⟨(some 8), none, .call (.c (.func (.func 67) [] [])) [(.t 7)]⟩,
    ⟨(some 9), none, .bin .gtr (.t 6) (.t 8)⟩])
  (.cond (.t 9)
   (.seq (.ops [⟨(some 4), none, .mv (.c (.str []))⟩])
   (.ret))
   (.skip)))
  (.seq (.ops [⟨(some 10), none, .mv (.t 0)⟩,
    ⟨(some 11), none, .lenStr (.t 10)⟩,
    ⟨(some 12), none, .mv (.t 1)⟩,
    ⟨(some 13), none, .call (.c (.func (.func 55) [] [])) [(.t 11), (.t 12)]⟩,
    ⟨(some 14), none, .mv (.t 0)⟩,
    ⟨(some 15), none, .bin .add (.t 13) (.t 14)⟩,
    ⟨(some 4), none, .mv (.t 15)⟩])
  (.ret)))⟩
theorem a56_ok : funcC Tryd.prog Tryd.f56 = some a56 := by kernel_rfl
/-- (*strings.Builder).String -/
def a57 : AFunc := ⟨1, [.tmp 2],
  .seq (.ops [⟨(some 2), none, .mv (.c (.str []))⟩])
  (.seq (.draw [⟨⟨(some 3), none, .mv (.t 0)⟩, 0, []⟩,
    ⟨⟨(some 4), none, .nilck (.t 3)⟩, 1, [0]⟩,
    ⟨⟨(some 5), none, .fieldAddr 1 (.t 4)⟩, 2, [0, 1]⟩,
    ⟨⟨(some 6), none, .load none (.t 5)⟩, 3, [0, 1, 2]⟩,
    ⟨⟨(some 7), none, .sliceData (.t 6)⟩, 4, [0, 1, 2, 3]⟩,
    ⟨⟨(some 8), none, .mv (.t 0)⟩, 5, []⟩,
    ⟨⟨(some 9), none, .nilck (.t 8)⟩, 6, [5]⟩,
    ⟨⟨(some 10), none, .fieldAddr 1 (.t 9)⟩, 7, [5, 6]⟩,
    ⟨⟨(some 11), none, .load none (.t 10)⟩, 8, [5, 6, 7]⟩,
    ⟨⟨(some 12), none, .lenSl (.t 11)⟩, 9, [5, 6, 7, 8]⟩,
    ⟨⟨(some 13), none, .unsStr 5 (.t 7) (.t 12)⟩, 10, [0, 1, 2, 3, 4, 5, 6, 7, 8, 9]⟩,
    ⟨⟨(some 2), none, .mv (.t 13)⟩, 11, [0, 1, 2, 3, 4, 5, 6, 7, 8, 9, 10]⟩])
  (.ret))⟩
theorem a57_ok : funcC Tryd.prog Tryd.f57 = some a57 := by kernel_rfl
/-- permafrost/sum.begin -/
def a58 : AFunc := ⟨0, [.cell 0 (some 8)],
  .seq (.ops [⟨(some 0), none, .alloc none [(.int .u32 (0)), (.int .u32 (0)), (.int .u32 (0)), (.int .u32 (0)), (.int .u32 (0)), (.int .u32 (0)), (.int .u32 (0)), (.int .u32 (0))]⟩])
  (.seq (.ops [⟨(some 1), none, .build [(.int .u32 (0)), (.int .u32 (0)), (.int .u32 (0)), (.int .u32 (0)), (.int .u32 (0)), (.int .u32 (0)), (.int .u32 (0)), (.int .u32 (0))] [(0, 1, (.c (.int .u32 (1779033703)))), (1, 1, (.c (.int .u32 (3144134277)))), (2, 1, (.c (.int .u32 (1013904242)))), (3, 1, (.c (.int .u32 (2773480762)))), (4, 1, (.c (.int .u32 (1359893119)))), (5, 1, (.c (.int .u32 (2600822924)))), (6, 1, (.c (.int .u32 (528734635)))), (7, 1, (.c (.int .u32 (1541459225))))]⟩,
    ⟨none, none, .store 8 (.t 0) (.t 1)⟩])
  (.ret))⟩
theorem a58_ok : funcC Tryd.prog Tryd.f58 = some a58 := by kernel_rfl
/-- (permafrost/sum.words).behind -/
def a59 : AFunc := ⟨2, [.cell 4 (some 8)],
  .seq (.ops [⟨(some 2), none, .box (.t 0)⟩,
    ⟨(some 4), none, .alloc none [(.int .u32 (0)), (.int .u32 (0)), (.int .u32 (0)), (.int .u32 (0)), (.int .u32 (0)), (.int .u32 (0)), (.int .u32 (0)), (.int .u32 (0))]⟩])
  (.seq (.ops [⟨(some 5), none, .alloc none [(.int .u32 (0)), (.int .u32 (0)), (.int .u32 (0)), (.int .u32 (0)), (.int .u32 (0)), (.int .u32 (0)), (.int .u32 (0)), (.int .u32 (0)), (.int .u32 (0)), (.int .u32 (0)), (.int .u32 (0)), (.int .u32 (0)), (.int .u32 (0)), (.int .u32 (0)), (.int .u32 (0)), (.int .u32 (0)), (.int .u32 (0)), (.int .u32 (0)), (.int .u32 (0)), (.int .u32 (0)), (.int .u32 (0)), (.int .u32 (0)), (.int .u32 (0)), (.int .u32 (0)), (.int .u32 (0)), (.int .u32 (0)), (.int .u32 (0)), (.int .u32 (0)), (.int .u32 (0)), (.int .u32 (0)), (.int .u32 (0)), (.int .u32 (0)), (.int .u32 (0)), (.int .u32 (0)), (.int .u32 (0)), (.int .u32 (0)), (.int .u32 (0)), (.int .u32 (0)), (.int .u32 (0)), (.int .u32 (0)), (.int .u32 (0)), (.int .u32 (0)), (.int .u32 (0)), (.int .u32 (0)), (.int .u32 (0)), (.int .u32 (0)), (.int .u32 (0)), (.int .u32 (0)), (.int .u32 (0)), (.int .u32 (0)), (.int .u32 (0)), (.int .u32 (0)), (.int .u32 (0)), (.int .u32 (0)), (.int .u32 (0)), (.int .u32 (0)), (.int .u32 (0)), (.int .u32 (0)), (.int .u32 (0)), (.int .u32 (0)), (.int .u32 (0)), (.int .u32 (0)), (.int .u32 (0)), (.int .u32 (0))]⟩])
  (.seq (.seq (.ops [⟨(some 19), none, .mv (.c (.int .i64 (0)))⟩])
  (.block 0 (.loop (.seq (.ops [⟨(some 20), none, .bin .lss (.t 19) (.c (.int .i64 (64)))⟩])
    (.seq (.cond (.t 20)
     (.skip)
     (.exit 0))
    (.seq (.block 1 (.seq (.ops [⟨(some 21), none, .mv (.t 19)⟩,
       ⟨(some 6), none, .mv (.t 21)⟩])
     (.seq (.seq (.ops [⟨(some 22), none, .mv (.t 6)⟩,
       ⟨(some 23), none, .bin .lss (.t 22) (.c (.int .i64 (16)))⟩])
     (.cond (.t 23)
      (.seq (.seq (.ops [⟨(some 24), none, .mv (.c (.int .i64 (0)))⟩])
      (.block 2 (.loop (.seq (.ops [⟨(some 25), none, .bin .lss (.t 24) (.c (.int .i64 (4)))⟩])
        (.seq (.cond (.t 25)
         (.skip)
         (.exit 2))
        (.seq (.block 3 (.seq (.ops [⟨(some 26), none, .mv (.t 24)⟩,
           ⟨(some 7), none, .mv (.t 26)⟩])
         (.draw [⟨⟨(some 27), none, .mv (.t 6)⟩, 0, []⟩,
           ⟨⟨(some 28), none, .mv (.t 6)⟩, 1, []⟩,
           ⟨⟨(some 29), none, .idxArr 64 1 (.t 5) (.t 28)⟩, 2, [1]⟩,
           ⟨⟨(some 30), none, .load none (.t 29)⟩, 3, [1, 2]⟩,
           ⟨⟨(some 31), none, .bin .shl (.t 30) (.c (.int .u64 (8)))⟩, 4, [1, 2, 3]⟩,
           ⟨⟨(some 32), none, .mv (.t 1)⟩, 5, []⟩,
           ⟨⟨(some 33), none, .mv (.t 6)⟩, 6, []⟩,
           ⟨⟨(some 34), none, .bin .mul (.c (.int .i64 (4))) (.t 33)⟩, 7, [6]⟩,
           ⟨⟨(some 35), none, .mv (.t 7)⟩, 8, []⟩,
           ⟨⟨(some 36), none, .bin .add (.t 34) (.t 35)⟩, 9, [6, 7, 8]⟩,
           ⟨⟨(some 37), none, .atStr (.t 32) (.t 36)⟩, 10, [5, 6, 7, 8, 9]⟩,
           ⟨⟨(some 38), none, .toInt .u32 (.t 37)⟩, 11, [5, 6, 7, 8, 9, 10]⟩,
           ⟨⟨(some 39), none, .bin .or (.t 31) (.t 38)⟩, 12, [1, 2, 3, 4, 5, 6, 7, 8, 9, 10, 11]⟩,
           ⟨⟨(some 40), none, .idxArr 64 1 (.t 5) (.t 27)⟩, 13, [0, 1, 2, 3, 4, 5, 6, 7, 8, 9, 10, 11, 12]⟩,
           ⟨⟨none, none, .store 1 (.t 40) (.t 39)⟩, 14, [0, 1, 2, 3, 4, 5, 6, 7, 8, 9, 10, 11, 12, 13]⟩])))
        (.ops [⟨(some 41), none, .bin .add (.t 24) (.c (.int .i64 (1)))⟩,
          ⟨(some 24), none, .mv (.t 41)⟩])))))))
      (.exit 1))
      (.skip)))
     (.seq (.draw [⟨⟨(some 42), none, .mv (.t 6)⟩, 0, []⟩,
       ⟨⟨(some 43), none, .bin .sub (.t 42) (.c (.int .i64 (15)))⟩, 1, [0]⟩,
       ⟨⟨(some 44), none, .idxArr 64 1 (.t 5) (.t 43)⟩, 2, [0, 1]⟩,
       ⟨⟨(some 45), none, .load none (.t 44)⟩, 3, [0, 1, 2]⟩,
       ⟨⟨(some 46), none, .mv (.t 6)⟩, 4, []⟩,
       ⟨⟨(some 47), none, .bin .sub (.t 46) (.c (.int .i64 (2)))⟩, 5, [4]⟩,
       ⟨⟨(some 48), none, .idxArr 64 1 (.t 5) (.t 47)⟩, 6, [4, 5]⟩,
       ⟨⟨(some 49), none, .load none (.t 48)⟩, 7, [4, 5, 6]⟩,
       ⟨⟨(some 8), none, .mv (.t 45)⟩, 8, [0, 1, 2, 3]⟩,
       ⟨⟨(some 9), none, .mv (.t 49)⟩, 9, [0, 1, 2, 3, 4, 5, 6, 7, 8]⟩])
     (.seq (.ops [⟨(some 50), none, .mv (.t 8)⟩,
       ⟨(some 51), none, .call (.c (.func (.func 72) [] [])) [(.t 50), (.c (.int .i64 (7)))]⟩,
       ⟨(some 52), none, .mv (.t 8)⟩,
       ⟨(some 53), none, .call (.c (.func (.func 72) [] [])) [(.t 52), (.c (.int .i64 (18)))]⟩,
       ⟨(some 54), none, .bin .xor (.t 51) (.t 53)⟩,
       ⟨(some 55), none, .mv (.t 8)⟩,
       ⟨(some 56), none, .bin .shr (.t 55) (.c (.int .u64 (3)))⟩,
       ⟨(some 57), none, .bin .xor (.t 54) (.t 56)⟩,
       ⟨(some 10), none, .mv (.t 57)⟩])
     (.seq (.ops [⟨(some 58), none, .mv (.t 9)⟩,
       ⟨(some 59), none, .call (.c (.func (.func 72) [] [])) [(.t 58), (.c (.int .i64 (17)))]⟩,
       ⟨(some 60), none, .mv (.t 9)⟩,
       ⟨(some 61), none, .call (.c (.func (.func 72) [] [])) [(.t 60), (.c (.int .i64 (19)))]⟩,
       ⟨(some 62), none, .bin .xor (.t 59) (.t 61)⟩,
       ⟨(some 63), none, .mv (.t 9)⟩,
       ⟨(some 64), none, .bin .shr (.t 63) (.c (.int .u64 (10)))⟩,
       ⟨(some 65), none, .bin .xor (.t 62) (.t 64)⟩,
       ⟨(some 11), none, .mv (.t 65)⟩])
     (.draw [⟨⟨(some 66), none, .mv (.t 6)⟩, 0, []⟩,
       ⟨⟨(some 67), none, .mv (.t 11)⟩, 1, []⟩,
       ⟨⟨(some 68), none, .mv (.t 6)⟩, 2, []⟩,
       ⟨⟨(some 69), none, .bin .sub (.t 68) (.c (.int .i64 (7)))⟩, 3, [2]⟩,
       ⟨⟨(some 70), none, .idxArr 64 1 (.t 5) (.t 69)⟩, 4, [2, 3]⟩,
       ⟨⟨(some 71), none, .load none (.t 70)⟩, 5, [2, 3, 4]⟩,
       ⟨⟨(some 72), none, .bin .add (.t 67) (.t 71)⟩, 6, [1, 2, 3, 4, 5]⟩,
       ⟨⟨(some 73), none, .mv (.t 10)⟩, 7, []⟩,
       ⟨⟨(some 74), none, .bin .add (.t 72) (.t 73)⟩, 8, [1, 2, 3, 4, 5, 6, 7]⟩,
       ⟨⟨(some 75), none, .mv (.t 6)⟩, 9, []⟩,
       ⟨⟨(some 76), none, .bin .sub (.t 75) (.c (.int .i64 (16)))⟩, 10, [9]⟩,
       ⟨⟨(some 77), none, .idxArr 64 1 (.t 5) (.t 76)⟩, 11, [9, 10]⟩,
       ⟨⟨(some 78), none, .load none (.t 77)⟩, 12, [9, 10, 11]⟩,
       ⟨⟨(some 79), none, .bin .add (.t 74) (.t 78)⟩, 13, [1, 2, 3, 4, 5, 6, 7, 8, 9, 10, 11, 12]⟩,
       ⟨⟨(some 80), none, .idxArr 64 1 (.t 5) (.t 66)⟩, 14, [0, 1, 2, 3, 4, 5, 6, 7, 8, 9, 10, 11, 12, 13]⟩,
       ⟨⟨none, none, .store 1 (.t 80) (.t 79)⟩, 15, [0, 1, 2, 3, 4, 5, 6, 7, 8, 9, 10, 11, 12, 13, 14]⟩])))))))
    (.ops [⟨(some 81), none, .bin .add (.t 19) (.c (.int .i64 (1)))⟩,
      ⟨(some 19), none, .mv (.t 81)⟩])))))))
  (.seq (.ops [⟨(some 82), none, .load (some 8) (.t 2)⟩,
    ⟨(some 12), none, .alloc none [(.int .u32 (0)), (.int .u32 (0)), (.int .u32 (0)), (.int .u32 (0)), (.int .u32 (0)), (.int .u32 (0)), (.int .u32 (0)), (.int .u32 (0))]⟩,
    ⟨none, none, .store 8 (.t 12) (.t 82)⟩])
  (.seq (.seq (.ops [⟨(some 83), none, .mv (.c (.int .i64 (0)))⟩])
  (.block 4 (.loop (.seq (.ops [⟨(some 84), none, .bin .lss (.t 83) (.c (.int .i64 (64)))⟩])
    (.seq (.cond (.t 84)
     (.skip)
     (.exit 4))
    (.seq (.block 5 (.seq (.ops [⟨(some 85), none, .mv (.t 83)⟩,
       ⟨(some 13), none, .mv (.t 85)⟩])
     (.seq (.draw [⟨⟨(some 86), none, .idxArr 8 1 (.t 12) (.c (.int .i64 (0)))⟩, 0, []⟩,
       ⟨⟨(some 87), none, .load none (.t 86)⟩, 1, [0]⟩,
       ⟨⟨(some 88), none, .idxArr 8 1 (.t 12) (.c (.int .i64 (4)))⟩, 2, []⟩,
       ⟨⟨(some 89), none, .load none (.t 88)⟩, 3, [2]⟩,
       ⟨⟨(some 14), none, .mv (.t 87)⟩, 4, [0, 1]⟩,
       ⟨⟨(some 15), none, .mv (.t 89)⟩, 5, [0, 1, 2, 3, 4]⟩])
     (.seq (.draw [⟨⟨(some 90), none, .idxArr 8 1 (.t 12) (.c (.int .i64 (7)))⟩, 0, []⟩,
       ⟨⟨(some 91), none, .load none (.t 90)⟩, 1, [0]⟩,
       ⟨⟨(some 92), none, .mv (.t 15)⟩, 2, []⟩,
       ⟨⟨(some 94), none, .mv (.t 15)⟩, 4, []⟩,
       ⟨⟨(some 97), none, .mv (.t 15)⟩, 7, []⟩,
       ⟨⟨(some 101), none, .mv (.t 15)⟩, 11, []⟩,
       ⟨⟨(some 102), none, .idxArr 8 1 (.t 12) (.c (.int .i64 (5)))⟩, 12, []⟩,
       ⟨⟨(some 103), none, .load none (.t 102)⟩, 13, [6]⟩,
       ⟨⟨(some 104), none, .bin .and (.t 101) (.t 103)⟩, 14, [5, 6, 7]⟩,
       ⟨⟨(some 105), none, .mv (.t 15)⟩, 15, []⟩,
       ⟨⟨(some 106), none, .inv (.t 105)⟩, 16, [9]⟩,
       ⟨⟨(some 107), none, .idxArr 8 1 (.t 12) (.c (.int .i64 (6)))⟩, 17, []⟩,
       ⟨⟨(some 108), none, .load none (.t 107)⟩, 18, [11]⟩,
       ⟨⟨(some 109), none, .bin .and (.t 106) (.t 108)⟩, 19, [9, 10, 11, 12]⟩,
       ⟨⟨(some 110), none, .bin .xor (.t 104) (.t 109)⟩, 20, [5, 6, 7, 8, 9, 10, 11, 12, 13]⟩,
       ⟨⟨(some 112), none, .mv (.t 13)⟩, 22, []⟩,
       ⟨⟨(some 113), none, .idxArr 64 1 (.c (.ptr (some (0, 0)))) (.t 112)⟩, 23, [15]⟩,
       ⟨⟨(some 114), none, .load none (.t 113)⟩, 24, [15, 16]⟩,
       ⟨⟨(some 116), none, .mv (.t 13)⟩, 26, []⟩,
       ⟨⟨(some 117), none, .idxArr 64 1 (.t 5) (.t 116)⟩, 27, [18]⟩,
       ⟨⟨(some 118), none, .load none (.t 117)⟩, 28, [18, 19]⟩,
       ⟨⟨(some 93), none, .call (.c (.func (.func 72) [] [])) [(.t 92), (.c (.int .i64 (6)))]⟩, 3, [2]⟩,
       ⟨⟨(some 95), none, .call (.c (.func (.func 72) [] [])) [(.t 94), (.c (.int .i64 (11)))]⟩, 5, [2, 3, 21]⟩,
       ⟨⟨(some 96), none, .bin .xor (.t 93) (.t 95)⟩, 6, [2, 3, 21, 22]⟩,
       ⟨⟨(some 98), none, .call (.c (.func (.func 72) [] [])) [(.t 97), (.c (.int .i64 (25)))]⟩, 8, [2, 3, 4, 21, 22]⟩,
       ⟨⟨(some 99), none, .bin .xor (.t 96) (.t 98)⟩, 9, [2, 3, 4, 21, 22, 23, 24]⟩,
       ⟨⟨(some 100), none, .bin .add (.t 91) (.t 99)⟩, 10, [0, 1, 2, 3, 4, 21, 22, 23, 24, 25]⟩,
       ⟨⟨(some 111), none, .bin .add (.t 100) (.t 110)⟩, 21, [0, 1, 2, 3, 4, 5, 6, 7, 8, 9, 10, 11, 12, 13, 14, 21, 22, 23, 24, 25, 26]⟩,
       ⟨⟨(some 115), none, .bin .add (.t 111) (.t 114)⟩, 25, [0, 1, 2, 3, 4, 5, 6, 7, 8, 9, 10, 11, 12, 13, 14, 15, 16, 17, 21, 22, 23, 24, 25, 26, 27]⟩,
       ⟨⟨(some 119), none, .bin .add (.t 115) (.t 118)⟩, 29, [0, 1, 2, 3, 4, 5, 6, 7, 8, 9, 10, 11, 12, 13, 14, 15, 16, 17, 18, 19, 20, 21, 22, 23, 24, 25, 26, 27, 28]⟩,
       ⟨⟨(some 16), none, .mv (.t 119)⟩, 30, [0, 1, 2, 3, 4, 5, 6, 7, 8, 9, 10, 11, 12, 13, 14, 15, 16, 17, 18, 19, 20, 21, 22, 23, 24, 25, 26, 27, 28, 29]⟩])
     (.seq (.draw [⟨⟨(some 120), none, .mv (.t 14)⟩, 0, []⟩,
       ⟨⟨(some 122), none, .mv (.t 14)⟩, 2, []⟩,
       ⟨⟨(some 125), none, .mv (.t 14)⟩, 5, []⟩,
       ⟨⟨(some 128), none, .mv (.t 14)⟩, 8, []⟩,
       ⟨⟨(some 129), none, .idxArr 8 1 (.t 12) (.c (.int .i64 (1)))⟩, 9, []⟩,
       ⟨⟨(some 130), none, .load none (.t 129)⟩, 10, [4]⟩,
       ⟨⟨(some 131), none, .bin .and (.t 128) (.t 130)⟩, 11, [3, 4, 5]⟩,
       ⟨⟨(some 132), none, .mv (.t 14)⟩, 12, []⟩,
       ⟨⟨(some 133), none, .idxArr 8 1 (.t 12) (.c (.int .i64 (2)))⟩, 13, []⟩,
       ⟨⟨(some 134), none, .load none (.t 133)⟩, 14, [8]⟩,
       ⟨⟨(some 135), none, .bin .and (.t 132) (.t 134)⟩, 15, [7, 8, 9]⟩,
       ⟨⟨(some 136), none, .bin .xor (.t 131) (.t 135)⟩, 16, [3, 4, 5, 6, 7, 8, 9, 10]⟩,
       ⟨⟨(some 137), none, .idxArr 8 1 (.t 12) (.c (.int .i64 (1)))⟩, 17, []⟩,
       ⟨⟨(some 138), none, .load none (.t 137)⟩, 18, [12]⟩,
       ⟨⟨(some 139), none, .idxArr 8 1 (.t 12) (.c (.int .i64 (2)))⟩, 19, []⟩,
       ⟨⟨(some 140), none, .load none (.t 139)⟩, 20, [14]⟩,
       ⟨⟨(some 141), none, .bin .and (.t 138) (.t 140)⟩, 21, [12, 13, 14, 15]⟩,
       ⟨⟨(some 142), none, .bin .xor (.t 136) (.t 141)⟩, 22, [3, 4, 5, 6, 7, 8, 9, 10, 11, 12, 13, 14, 15, 16]⟩,
       ⟨⟨(some 121), none, .call (.c (.func (.func 72) [] [])) [(.t 120), (.c (.int .i64 (2)))]⟩, 1, [0]⟩,
       ⟨⟨(some 123), none, .call (.c (.func (.func 72) [] [])) [(.t 122), (.c (.int .i64 (13)))]⟩, 3, [0, 1, 18]⟩,
       ⟨⟨(some 124), none, .bin .xor (.t 121) (.t 123)⟩, 4, [0, 1, 18, 19]⟩,
       ⟨⟨(some 126), none, .call (.c (.func (.func 72) [] [])) [(.t 125), (.c (.int .i64 (22)))]⟩, 6, [0, 1, 2, 18, 19]⟩,
       ⟨⟨(some 127), none, .bin .xor (.t 124) (.t 126)⟩, 7, [0, 1, 2, 18, 19, 20, 21]⟩,
       ⟨⟨(some 143), none, .bin .add (.t 127) (.t 142)⟩, 23, [0, 1, 2, 3, 4, 5, 6, 7, 8, 9, 10, 11, 12, 13, 14, 15, 16, 17, 18, 19, 20, 21, 22]⟩,
       ⟨⟨(some 17), none, .mv (.t 143)⟩, 24, [0, 1, 2, 3, 4, 5, 6, 7, 8, 9, 10, 11, 12, 13, 14, 15, 16, 17, 18, 19, 20, 21, 22, 23]⟩])
     (.ops [⟨(some 144), none, .mv (.t 16)⟩,
       ⟨(some 145), none, .mv (.t 17)⟩,
       ⟨(some 146), none, .bin .add (.t 144) (.t 145)⟩,
       ⟨(some 147), none, .mv (.t 14)⟩,
       ⟨(some 148), none, .idxArr 8 1 (.t 12) (.c (.int .i64 (1)))⟩,
       ⟨(some 149), none, .load none (.t 148)⟩,
       ⟨(some 150), none, .idxArr 8 1 (.t 12) (.c (.int .i64 (2)))⟩,
       ⟨(some 151), none, .load none (.t 150)⟩,
       ⟨(some 152), none, .idxArr 8 1 (.t 12) (.c (.int .i64 (3)))⟩,
       ⟨(some 153), none, .load none (.t 152)⟩,
       ⟨(some 154), none, .mv (.t 16)⟩,
       ⟨(some 155), none, .bin .add (.t 153) (.t 154)⟩,
       ⟨(some 156), none, .mv (.t 15)⟩,
       ⟨(some 157), none, .idxArr 8 1 (.t 12) (.c (.int .i64 (5)))⟩,
       ⟨(some 158), none, .load none (.t 157)⟩,
       ⟨(some 159), none, .idxArr 8 1 (.t 12) (.c (.int .i64 (6)))⟩,
       ⟨(some 160), none, .load none (.t 159)⟩,
       ⟨(some 161), none, .build [(.int .u32 (0)), (.int .u32 (0)), (.int .u32 (0)), (.int .u32 (0)), (.int .u32 (0)), (.int .u32 (0)), (.int .u32 (0)), (.int .u32 (0))] [(0, 1, (.t 146)), (1, 1, (.t 147)), (2, 1, (.t 149)), (3, 1, (.t 151)), (4, 1, (.t 155)), (5, 1, (.t 156)), (6, 1, (.t 158)), (7, 1, (.t 160))]⟩,
       ⟨none, none, .store 8 (.t 12) (.t 161)⟩]))))))
    (.ops [⟨(some 162), none, .bin .add (.t 83) (.c (.int .i64 (1)))⟩,
      ⟨(some 83), none, .mv (.t 162)⟩])))))))
  (.seq (.seq (.ops [⟨(some 163), none, .mv (.c (.int .i64 (0)))⟩])
  (.block 6 (.loop (.seq (.ops [⟨(some 164), none, .bin .lss (.t 163) (.c (.int .i64 (8)))⟩])
    (.seq (.cond (.t 164)
     (.skip)
     (.exit 6))
    (.seq (.block 7 (.seq (.ops [⟨(some 165), none, .mv (.t 163)⟩,
       ⟨(some 18), none, .mv (.t 165)⟩])
     (.draw [⟨⟨(some 166), none, .mv (.t 18)⟩, 0, []⟩,
       ⟨⟨(some 167), none, .idxArr 8 1 (.t 2) (.t 166)⟩, 1, [0]⟩,
       ⟨⟨(some 168), none, .load none (.t 167)⟩, 2, [0, 1]⟩,
       ⟨⟨(some 169), none, .mv (.t 18)⟩, 3, []⟩,
       ⟨⟨(some 170), none, .idxArr 8 1 (.t 12) (.t 169)⟩, 4, [3]⟩,
       ⟨⟨(some 171), none, .load none (.t 170)⟩, 5, [3, 4]⟩,
       ⟨⟨(some 172), none, .bin .add (.t 168) (.t 171)⟩, 6, [0, 1, 2, 3, 4, 5]⟩,
       ⟨⟨(some 173), none, .idxArr 8 1 (.t 2) (.t 166)⟩, 7, [0, 1, 2, 3, 4, 5, 6]⟩,
       ⟨⟨none, none, .store 1 (.t 173) (.t 172)⟩, 8, [0, 1, 2, 3, 4, 5, 6, 7]⟩])))
    (.ops [⟨(some 174), none, .bin .add (.t 163) (.c (.int .i64 (1)))⟩,
      ⟨(some 163), none, .mv (.t 174)⟩])))))))
  (.seq (.ops [⟨(some 175), none, .load (some 8) (.t 2)⟩,
    ⟨none, none, .store 8 (.t 4) (.t 175)⟩])
  (.ret)))))))⟩
theorem a59_ok : funcC Tryd.prog Tryd.f59 = some a59 := by kernel_rfl
/-- (*strings.Builder).Write -/
def a61 : AFunc := ⟨2, [.tmp 4, .tmp 5],
  .seq (.ops [⟨(some 4), none, .mv (.c (.int .i64 (0)))⟩,
    ⟨(some 5), none, .mv (.c .nilIface)⟩])
  (.seq (.ops [⟨(some 6), none, .mv (.t 0)⟩,
    ⟨(some 7), none, .call (.c (.func (.func 71) [] [])) [(.t 6)]⟩])
  (.seq (.ops [⟨(some 8), none, .mv (.t 0)⟩,
    ⟨(some 9), none, .mv (.t 0)⟩,
    ⟨(some 10), none, .nilck (.t 9)⟩,
    ⟨(some 11), none, .fieldAddr 1 (.t 10)⟩,
    ⟨(some 12), none, .load none (.t 11)⟩,
    ⟨(some 13), none, .mv (.t 1)⟩,
    ⟨(some 14), none, .append 1 1 (some 5) (.t 12) (.t 13)⟩,
    ⟨(some 15), none, .nilck (.t 8)⟩,
    ⟨(some 16), none, .fieldAddr 1 (.t 15)⟩,
    ⟨none, none, .store 1 (.t 16) (.t 14)⟩])
  (.seq (.ops [⟨(some 17), none, .mv (.t 1)⟩,
    ⟨(some 18), none, .lenSl (.t 17)⟩,
    ⟨(some 4), none, .mv (.t 18)⟩,
    ⟨(some 5), none, .mv (.c .nilIface)⟩])
  (.ret))))⟩
theorem a61_ok : funcC Tryd.prog Tryd.f61 = some a61 := by kernel_rfl
/-- slices.IndexFunc[[]permafrost/dev.write,permafrost/dev.write] -/
def a65 : AFunc := ⟨2, [.tmp 4],
  .seq (.ops [⟨(some 4), none, .mv (.c (.int .i64 (0)))⟩])
  (.seq (.seq (.ops [⟨(some 6), none, .mv (.t 0)⟩,
    ⟨(some 7), none, .lenSl (.t 6)⟩,
    ⟨(some 8), none, .mv (.c (.int .i64 (0)))⟩])
  (.block 0 (.loop (.seq (.ops [⟨(some 9), none, .bin .lss (.t 8) (.t 7)⟩])
    (.seq (.cond (.t 9)
     (.skip)
     (.exit 0))
    (.seq (.block 1 (.seq (.ops [⟨(some 10), none, .mv (.t 8)⟩,
       ⟨(some 5), none, .mv (.t 10)⟩])
     (.seq (.ops [⟨(some 11), none, .mv (.t 1)⟩,
       ⟨(some 12), none, .mv (.t 0)⟩,
       ⟨(some 13), none, .mv (.t 5)⟩,
       ⟨(some 14), none, .idxSl 3 (.t 12) (.t 13)⟩,
       ⟨(some 15), none, .load (some 3) (.t 14)⟩,
       ⟨(some 16), none, .call (.t 11) [(.t 15)]⟩])
     (.cond (.t 16)
      (.seq (.ops [⟨(some 17), none, .mv (.t 5)⟩,
        ⟨(some 4), none, .mv (.t 17)⟩])
      (.ret))
      (.skip)))))
    (.ops [⟨(some 18), none, .bin .add (.t 8) (.c (.int .i64 (1)))⟩,
      ⟨(some 8), none, .mv (.t 18)⟩])))))))
  (.seq (.ops [⟨(some 4), none, .mv (.c (.int .i64 (-1)))⟩])
  (.ret)))⟩
theorem a65_ok : funcC Tryd.prog Tryd.f65 = some a65 := by kernel_rfl
/-- (*permafrost/fixed.Reader).take -/
def a66 : AFunc := ⟨3, [.tmp 6],
  .seq (.ops [⟨(some 6), none, .mv (.c (.str []))⟩])
  (.seq (.block 0 (.seq (.ops [⟨(some 25), none, .mv (.t 0)⟩,
     ⟨(some 26), none, .nilck (.t 25)⟩,
     ⟨(some 27), none, .fieldAddr 1 (.t 26)⟩,
     ⟨(some 28), none, .load none (.t 27)⟩,
     ⟨(some 29), none, .bin .neq (.t 28) (.c (.int .i64 (0)))⟩,
     ⟨(some 24), none, .mv (.t 29)⟩])
   (.cond (.t 24)
    (.skip)
    (.seq (.ops [⟨(some 31), none, .mv (.t 2)⟩,
      ⟨(some 32), none, .bin .neq (.t 31) (.c (.int .i64 (0)))⟩,
      ⟨(some 30), none, .mv (.t 32)⟩])
    (.cond (.t 30)
     (.ops [⟨(some 33), none, .mv (.t 0)⟩,
       ⟨(some 34), none, .mv (.t 2)⟩,
       ⟨(some 35), none, .nilck (.t 33)⟩,
       ⟨(some 36), none, .fieldAddr 1 (.t 35)⟩,
       ⟨none, none, .store 1 (.t 36) (.t 34)⟩])
     (.seq (.ops [⟨(some 38), none, .mv (.t 1)⟩,
       ⟨(some 39), none, .mv (.t 0)⟩,
       ⟨(some 40), none, .nilck (.t 39)⟩,
       ⟨(some 41), none, .fieldAddr 0 (.t 40)⟩,
       ⟨(some 42), none, .load none (.t 41)⟩,
       ⟨(some 43), none, .lenStr (.t 42)⟩,
       ⟨(some 44), none, .bin .gtr (.t 38) (.t 43)⟩,
       ⟨(some 37), none, .mv (.t 44)⟩])
     (.cond (.t 37)
      (.ops [⟨(some 45), none, .mv (.t 0)⟩,
        ⟨(some 46), none, .nilck (.t 45)⟩,
        ⟨(some 47), none, .fieldAddr 1 (.t 46)⟩,
        ⟨none, none, .store 1 (.t 47) (.c (.int .i64 (2)))⟩])
      (.seq (.ops [⟨(some 8), none, .mv (.t 0)⟩,
        ⟨(some 9), none, .nilck (.t 8)⟩,
        ⟨(some 10), none, .fieldAddr 0 (.t 9)⟩,
        ⟨(some 11), none, .load none (.t 10)⟩,
        ⟨(some 12), none, .mv (.t 1)⟩,
        ⟨(some 13), none, .sliceStr (.t 11) none (some (.t 12))⟩,
        ⟨(some 7), none, .mv (.t 13)⟩])
      (.seq (.ops [⟨(some 14), none, .mv (.t 0)⟩,
        ⟨(some 15), none, .mv (.t 0)⟩,
        ⟨(some 16), none, .nilck (.t 15)⟩,
        ⟨(some 17), none, .fieldAddr 0 (.t 16)⟩,
        ⟨(some 18), none, .load none (.t 17)⟩,
        ⟨(some 19), none, .mv (.t 1)⟩,
        ⟨(some 20), none, .sliceStr (.t 18) (some (.t 19)) none⟩,
        ⟨(some 21), none, .nilck (.t 14)⟩,
        ⟨(some 22), none, .fieldAddr 0 (.t 21)⟩,
        ⟨none, none, .store 1 (.t 22) (.t 20)⟩])
      (.seq (.ops [⟨(some 23), none, .mv (.t 7)⟩,
        ⟨(some 6), none, .mv (.t 23)⟩])
      (.ret)))))))))))
  (.seq (.ops [⟨(some 6), none, .mv (.c (.str []))⟩])
  (.ret)))⟩
theorem a66_ok : funcC Tryd.prog Tryd.f66 = some a66 := by kernel_rfl
/-- permafrost/fixed.Most -/
def a67 : AFunc := ⟨1, [.tmp 2],
  .seq (.ops [⟨(some 2), none, .mv (.c (.int .i64 (0)))⟩])
  (.seq (.seq (.ops [⟨(some 3), none, .mv (.t 0)⟩,
    ⟨(some 4), none, .bin .lss (.t 3) (.c (.int .i64 (1)))⟩,
    ⟨(some 5), none, .mv (.t 4)⟩,
    ⟨(some 6), (some (5, false)), .mv (.t 0)⟩,
    ⟨(some 7), (some (5, false)), .bin .gtr (.t 6) (.c (.int .i64 (7)))⟩,
    ⟨(some 8), none, .pick (.t 5) (.c (.bool true)) (.t 7)⟩])
  (.cond (.t 8)
   (.seq (.ops [⟨(some 2), none, .mv (.c (.int .i64 (-1)))⟩])
   (.ret))
   (.skip)))
  (.seq (.ops [⟨(some 9), none, .mv (.t 0)⟩,
    ⟨(some 10), none, .bin .mul (.c (.int .i64 (8))) (.t 9)⟩,
    ⟨(some 11), none, .bin .shl (.c (.int .i64 (1))) (.t 10)⟩,
    ⟨(some 12), none, .bin .sub (.t 11) (.c (.int .i64 (1)))⟩,
    ⟨(some 2), none, .mv (.t 12)⟩])
  (.ret)))⟩
theorem a67_ok : funcC Tryd.prog Tryd.f67 = some a67 := by kernel_rfl
/-- permafrost/clog.Check$1 -/
def a68 : AFunc := ⟨1, [.tmp 2],
  .seq (.ops [⟨(some 1), none, .box (.t 0)⟩,
    ⟨(some 2), none, .mv (.c (.bool false))⟩])
  (.seq (.ops [⟨(some 3), none, .fieldAddr 0 (.t 1)⟩,
    ⟨(some 4), none, .load none (.t 3)⟩,
    ⟨(some 5), none, .bin .eql (.t 4) (.c (.str []))⟩,
    ⟨(some 6), none, .mv (.t 5)⟩,
    ⟨(some 7), (some (6, false)), .fieldAddr 0 (.t 1)⟩,
    ⟨(some 8), (some (6, false)), .load none (.t 7)⟩,
    ⟨(some 9), (some (6, false)), .lenStr (.t 8)⟩,
    ⟨(some 10), (some (6, false)), .bin .gtr (.t 9) (.c (.int .i64 (60)))⟩,
    ⟨(some 11), none, .pick (.t 6) (.c (.bool true)) (.t 10)⟩,
    ⟨(some 12), none, .mv (.t 11)⟩,
    ⟨(some 13), (some (12, false)), .fieldAddr 1 (.t 1)⟩,
    ⟨(some 14), (some (12, false)), .load none (.t 13)⟩,
    ⟨(some 15), (some (12, false)), .lenStr (.t 14)⟩,
    ⟨(some 16), (some (12, false)), .bin .neq (.t 15) (.c (.int .i64 (32)))⟩,
    ⟨(some 17), none, .pick (.t 12) (.c (.bool true)) (.t 16)⟩,
    ⟨(some 18), none, .mv (.t 17)⟩,
    ⟨(some 19), (some (18, false)), .fieldAddr 2 (.t 1)⟩,
    ⟨(some 20), (some (18, false)), .load none (.t 19)⟩,
    ⟨(some 21), (some (18, false)), .call (.c (.func (.func 69) [] [])) [(.t 20), (.c (.int .i64 (960)))]⟩,
    ⟨(some 22), (some (18, false)), .not (.t 21)⟩,
    ⟨(some 23), none, .pick (.t 18) (.c (.bool true)) (.t 22)⟩,
    ⟨(some 24), none, .mv (.t 23)⟩,
    ⟨(some 25), (some (24, false)), .fieldAddr 3 (.t 1)⟩,
    ⟨(some 26), (some (24, false)), .load none (.t 25)⟩,
    ⟨(some 27), (some (24, false)), .call (.c (.func (.func 69) [] [])) [(.t 26), (.c (.int .i64 (511)))]⟩,
    ⟨(some 28), (some (24, false)), .not (.t 27)⟩,
    ⟨(some 29), none, .pick (.t 24) (.c (.bool true)) (.t 28)⟩,
    ⟨(some 2), none, .mv (.t 29)⟩])
  (.ret))⟩
theorem a68_ok : funcC Tryd.prog Tryd.f68 = some a68 := by kernel_rfl
/-- permafrost/clog.in -/
def a69 : AFunc := ⟨2, [.tmp 4],
  .seq (.ops [⟨(some 4), none, .mv (.c (.bool false))⟩])
  (.seq (.ops [⟨(some 5), none, .mv (.t 0)⟩,
    ⟨(some 6), none, .bin .geq (.t 5) (.c (.int .i64 (0)))⟩,
    ⟨(some 7), none, .mv (.t 6)⟩,
    ⟨(some 8), (some (7, true)), .mv (.t 0)⟩,
    ⟨(some 9), (some (7, true)), .mv (.t 1)⟩,
    ⟨(some 10), (some (7, true)), .bin .leq (.t 8) (.t 9)⟩,
    ⟨(some 11), none, .pick (.t 7) (.t 10) (.c (.bool false))⟩,
    ⟨(some 4), none, .mv (.t 11)⟩])
  (.ret))⟩
theorem a69_ok : funcC Tryd.prog Tryd.f69 = some a69 := by kernel_rfl
/-- slices.ContainsFunc[[]permafrost/clog.Entry,permafrost/clog.Entry] -/
def a70 : AFunc := ⟨2, [.tmp 4],
  .seq (.ops [⟨(some 4), none, .mv (.c (.bool false))⟩])
  (.seq (.ops [⟨(some 5), none, .mv (.t 0)⟩,
    ⟨(some 6), none, .mv (.t 1)⟩,
    ⟨(some 7), none, .call (.c (.func (.func 88) [] [])) [(.t 5), (.t 6)]⟩,
    ⟨(some 8), none, .bin .geq (.t 7) (.c (.int .i64 (0)))⟩,
    ⟨(some 4), none, .mv (.t 8)⟩])
  (.ret))⟩
theorem a70_ok : funcC Tryd.prog Tryd.f70 = some a70 := by kernel_rfl
/-- (*strings.Builder).copyCheck -/
def a71 : AFunc := ⟨1, [],
  .seq (.ops [⟨(some 2), none, .mv (.t 0)⟩,
    ⟨(some 3), none, .nilck (.t 2)⟩,
    ⟨(some 4), none, .fieldAddr 0 (.t 3)⟩,
    ⟨(some 5), none, .load none (.t 4)⟩,
    ⟨(some 6), none, .eq false (.flat .ptr) (.t 5) (.c (.ptr none))⟩])
  (.cond (.t 6)
   (.ops [⟨(some 7), none, .mv (.t 0)⟩,
     ⟨(some 8), none, .mv (.t 0)⟩,
     ⟨(some 9), none, .unsP (.t 8)⟩,
     ⟨(some 10), none, .call (.c (.func (.func 89) [] [])) [(.t 9)]⟩,
     ⟨(some 11), none, .ofUns 107 2 (.t 10)⟩,
     ⟨(some 12), none, .nilck (.t 7)⟩,
     ⟨(some 13), none, .fieldAddr 0 (.t 12)⟩,
     ⟨none, none, .store 1 (.t 13) (.t 11)⟩])
   (.seq (.ops [⟨(some 14), none, .mv (.t 0)⟩,
     ⟨(some 15), none, .nilck (.t 14)⟩,
     ⟨(some 16), none, .fieldAddr 0 (.t 15)⟩,
     ⟨(some 17), none, .load none (.t 16)⟩,
     ⟨(some 18), none, .mv (.t 0)⟩,
     ⟨(some 19), none, .eq true (.flat .ptr) (.t 17) (.t 18)⟩])
   (.cond (.t 19)
    (.bad)
    (.skip))))⟩
theorem a71_ok : funcC Tryd.prog Tryd.f71 = some a71 := by kernel_rfl
/-- permafrost/sum.right -/
def a72 : AFunc := ⟨2, [.tmp 4],
  .seq (.ops [⟨(some 4), none, .mv (.c (.int .u32 (0)))⟩])
  (.seq (.draw [⟨⟨(some 5), none, .mv (.t 0)⟩, 0, []⟩,
    ⟨⟨(some 6), none, .mv (.t 1)⟩, 1, []⟩,
    ⟨⟨(some 7), none, .bin .shr (.t 5) (.t 6)⟩, 2, [0, 1]⟩,
    ⟨⟨(some 8), none, .mv (.t 0)⟩, 3, []⟩,
    ⟨⟨(some 9), none, .mv (.t 1)⟩, 4, []⟩,
    ⟨⟨(some 10), none, .bin .sub (.c (.int .i64 (32))) (.t 9)⟩, 5, [4]⟩,
    ⟨⟨(some 11), none, .bin .shl (.t 8) (.t 10)⟩, 6, [3, 4, 5]⟩,
    ⟨⟨(some 12), none, .bin .or (.t 7) (.t 11)⟩, 7, [0, 1, 2, 3, 4, 5, 6]⟩,
    ⟨⟨(some 4), none, .mv (.t 12)⟩, 8, [0, 1, 2, 3, 4, 5, 6, 7]⟩])
  (.ret))⟩
theorem a72_ok : funcC Tryd.prog Tryd.f72 = some a72 := by kernel_rfl
/-- slices.IndexFunc[[]permafrost/clog.Entry,permafrost/clog.Entry] -/
def a88 : AFunc := ⟨2, [.tmp 4],
  .seq (.ops [⟨(some 4), none, .mv (.c (.int .i64 (0)))⟩])
  (.seq (.seq (.ops [⟨(some 6), none, .mv (.t 0)⟩,
    ⟨(some 7), none, .lenSl (.t 6)⟩,
    ⟨(some 8), none, .mv (.c (.int .i64 (0)))⟩])
  (.block 0 (.loop (.seq (.ops [⟨(some 9), none, .bin .lss (.t 8) (.t 7)⟩])
    (.seq (.cond (.t 9)
     (.skip)
     (.exit 0))
    (.seq (.block 1 (.seq (.ops [⟨(some 10), none, .mv (.t 8)⟩,
       ⟨(some 5), none, .mv (.t 10)⟩])
     (.seq (.ops [⟨(some 11), none, .mv (.t 1)⟩,
       ⟨(some 12), none, .mv (.t 0)⟩,
       ⟨(some 13), none, .mv (.t 5)⟩,
       ⟨(some 14), none, .idxSl 4 (.t 12) (.t 13)⟩,
       ⟨(some 15), none, .load (some 4) (.t 14)⟩,
       ⟨(some 16), none, .call (.t 11) [(.t 15)]⟩])
     (.cond (.t 16)
      (.seq (.ops [⟨(some 17), none, .mv (.t 5)⟩,
        ⟨(some 4), none, .mv (.t 17)⟩])
      (.ret))
      (.skip)))))
    (.ops [⟨(some 18), none, .bin .add (.t 8) (.c (.int .i64 (1)))⟩,
      ⟨(some 8), none, .mv (.t 18)⟩])))))))
  (.seq (.ops [⟨(some 4), none, .mv (.c (.int .i64 (-1)))⟩])
  (.ret)))⟩
theorem a88_ok : funcC Tryd.prog Tryd.f88 = some a88 := by kernel_rfl
def tab : Nat → Option AFunc
  | 4 => some a4
  | 7 => some a7
  | 8 => some a8
  | 9 => some a9
  | 10 => some a10
  | 11 => some a11
  | 12 => some a12
  | 13 => some a13
  | 14 => some a14
  | 15 => some a15
  | 16 => some a16
  | 17 => some a17
  | 18 => some a18
  | 19 => some a19
  | 20 => some a20
  | 21 => some a21
  | 22 => some a22
  | 23 => some a23
  | 24 => some a24
  | 25 => some a25
  | 26 => some a26
  | 29 => some a29
  | 30 => some a30
  | 31 => some a31
  | 32 => some a32
  | 33 => some a33
  | 34 => some a34
  | 35 => some a35
  | 36 => some a36
  | 37 => some a37
  | 38 => some a38
  | 39 => some a39
  | 40 => some a40
  | 41 => some a41
  | 42 => some a42
  | 46 => some a46
  | 47 => some a47
  | 48 => some a48
  | 49 => some a49
  | 50 => some a50
  | 51 => some a51
  | 52 => some a52
  | 53 => some a53
  | 54 => some a54
  | 55 => some a55
  | 56 => some a56
  | 57 => some a57
  | 58 => some a58
  | 59 => some a59
  | 61 => some a61
  | 65 => some a65
  | 66 => some a66
  | 67 => some a67
  | 68 => some a68
  | 69 => some a69
  | 70 => some a70
  | 71 => some a71
  | 72 => some a72
  | 88 => some a88
  | _ => none
theorem tab_row (f : Nat) (af : AFunc) (h : tab f = some af) : ∃ fn, Tryd.prog.funcs[f]? = some fn ∧ funcC Tryd.prog fn = some af := by
  unfold tab at h
  split at h
  · cases h; exact ⟨_, Tryd.func4, a4_ok⟩
  · cases h; exact ⟨_, Tryd.func7, a7_ok⟩
  · cases h; exact ⟨_, Tryd.func8, a8_ok⟩
  · cases h; exact ⟨_, Tryd.func9, a9_ok⟩
  · cases h; exact ⟨_, Tryd.func10, a10_ok⟩
  · cases h; exact ⟨_, Tryd.func11, a11_ok⟩
  · cases h; exact ⟨_, Tryd.func12, a12_ok⟩
  · cases h; exact ⟨_, Tryd.func13, a13_ok⟩
  · cases h; exact ⟨_, Tryd.func14, a14_ok⟩
  · cases h; exact ⟨_, Tryd.func15, a15_ok⟩
  · cases h; exact ⟨_, Tryd.func16, a16_ok⟩
  · cases h; exact ⟨_, Tryd.func17, a17_ok⟩
  · cases h; exact ⟨_, Tryd.func18, a18_ok⟩
  · cases h; exact ⟨_, Tryd.func19, a19_ok⟩
  · cases h; exact ⟨_, Tryd.func20, a20_ok⟩
  · cases h; exact ⟨_, Tryd.func21, a21_ok⟩
  · cases h; exact ⟨_, Tryd.func22, a22_ok⟩
  · cases h; exact ⟨_, Tryd.func23, a23_ok⟩
  · cases h; exact ⟨_, Tryd.func24, a24_ok⟩
  · cases h; exact ⟨_, Tryd.func25, a25_ok⟩
  · cases h; exact ⟨_, Tryd.func26, a26_ok⟩
  · cases h; exact ⟨_, Tryd.func29, a29_ok⟩
  · cases h; exact ⟨_, Tryd.func30, a30_ok⟩
  · cases h; exact ⟨_, Tryd.func31, a31_ok⟩
  · cases h; exact ⟨_, Tryd.func32, a32_ok⟩
  · cases h; exact ⟨_, Tryd.func33, a33_ok⟩
  · cases h; exact ⟨_, Tryd.func34, a34_ok⟩
  · cases h; exact ⟨_, Tryd.func35, a35_ok⟩
  · cases h; exact ⟨_, Tryd.func36, a36_ok⟩
  · cases h; exact ⟨_, Tryd.func37, a37_ok⟩
  · cases h; exact ⟨_, Tryd.func38, a38_ok⟩
  · cases h; exact ⟨_, Tryd.func39, a39_ok⟩
  · cases h; exact ⟨_, Tryd.func40, a40_ok⟩
  · cases h; exact ⟨_, Tryd.func41, a41_ok⟩
  · cases h; exact ⟨_, Tryd.func42, a42_ok⟩
  · cases h; exact ⟨_, Tryd.func46, a46_ok⟩
  · cases h; exact ⟨_, Tryd.func47, a47_ok⟩
  · cases h; exact ⟨_, Tryd.func48, a48_ok⟩
  · cases h; exact ⟨_, Tryd.func49, a49_ok⟩
  · cases h; exact ⟨_, Tryd.func50, a50_ok⟩
  · cases h; exact ⟨_, Tryd.func51, a51_ok⟩
  · cases h; exact ⟨_, Tryd.func52, a52_ok⟩
  · cases h; exact ⟨_, Tryd.func53, a53_ok⟩
  · cases h; exact ⟨_, Tryd.func54, a54_ok⟩
  · cases h; exact ⟨_, Tryd.func55, a55_ok⟩
  · cases h; exact ⟨_, Tryd.func56, a56_ok⟩
  · cases h; exact ⟨_, Tryd.func57, a57_ok⟩
  · cases h; exact ⟨_, Tryd.func58, a58_ok⟩
  · cases h; exact ⟨_, Tryd.func59, a59_ok⟩
  · cases h; exact ⟨_, Tryd.func61, a61_ok⟩
  · cases h; exact ⟨_, Tryd.func65, a65_ok⟩
  · cases h; exact ⟨_, Tryd.func66, a66_ok⟩
  · cases h; exact ⟨_, Tryd.func67, a67_ok⟩
  · cases h; exact ⟨_, Tryd.func68, a68_ok⟩
  · cases h; exact ⟨_, Tryd.func69, a69_ok⟩
  · cases h; exact ⟨_, Tryd.func70, a70_ok⟩
  · cases h; exact ⟨_, Tryd.func71, a71_ok⟩
  · cases h; exact ⟨_, Tryd.func72, a72_ok⟩
  · cases h; exact ⟨_, Tryd.func88, a88_ok⟩
  · cases h
end Abs
end Go.Proofs.YtdbkogdgccjclaaDoor
