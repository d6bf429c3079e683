/- Functions of these statements, as the abstract machine's code: each is what the machine reads off the program. -/
import Derived.Test.YtmgbcaboljilnaaGreatDoorProg
import Derived.KernelRfl
import Derived.Test.YtmgbcaboljilnaaGreatDoorA18
namespace Go.Proofs.YtmgbcaboljilnaaGreatDoor
namespace Abs
set_option linter.unusedVariables false
set_option maxRecDepth 100000
/-- permafrost/permafrostlaw18.StoreNil -/
def a3 : AFunc := ⟨1, [.tmp 2],
  .seq (.ops [⟨(some 2), none, .mv (.c (.bool false))⟩])
  (.seq (.ops [⟨(some 3), none, .mv (.c (.ptr none))⟩])
  (.seq (.ops [⟨(some 18), none, .mv (.t 3)⟩,
    ⟨(some 19), none, .mv (.t 0)⟩,
    ⟨(some 20), none, .call (.c (.func (.func 4) [] [])) [(.t 18), (.t 19)]⟩,
    ⟨(some 17), none, .mv (.t 20)⟩,
    ⟨(some 21), none, .extract 0 (.t 17)⟩,
    ⟨(some 22), none, .extract 1 (.t 17)⟩,
    ⟨(some 4), none, .mv (.t 21)⟩,
    ⟨(some 5), none, .mv (.t 22)⟩])
  (.seq (.ops [⟨(some 24), none, .mv (.t 3)⟩,
    ⟨(some 25), none, .mv (.t 0)⟩,
    ⟨(some 26), none, .call (.c (.func (.func 5) [] [])) [(.t 24), (.t 25)]⟩,
    ⟨(some 23), none, .mv (.t 26)⟩,
    ⟨(some 27), none, .extract 0 (.t 23)⟩,
    ⟨(some 28), none, .extract 1 (.t 23)⟩,
    ⟨(some 6), none, .mv (.t 27)⟩,
    ⟨(some 7), none, .mv (.t 28)⟩])
  (.seq (.ops [⟨(some 30), none, .mv (.t 3)⟩,
    ⟨(some 31), none, .mv (.t 0)⟩,
    ⟨(some 32), none, .buildSl [(.int .i64 (0))] 1 [(0, 1, (.c (.int .i64 (0))))]⟩,
    ⟨(some 33), none, .call (.c (.func (.func 6) [] [])) [(.t 30), (.t 31), (.t 32)]⟩,
    ⟨(some 29), none, .mv (.t 33)⟩,
    ⟨(some 34), none, .extract 0 (.t 29)⟩,
    ⟨(some 35), none, .extract 1 (.t 29)⟩,
    ⟨(some 8), none, .mv (.t 34)⟩,
    ⟨(some 9), none, .mv (.t 35)⟩])
  (.seq (.ops [⟨(some 37), none, .mv (.t 3)⟩,
    ⟨(some 38), none, .mv (.t 0)⟩,
    ⟨(some 39), none, .call (.c (.func (.func 7) [] [])) [(.t 37), (.t 38)]⟩,
    ⟨(some 36), none, .mv (.t 39)⟩,
    ⟨(some 40), none, .extract 0 (.t 36)⟩,
    ⟨(some 41), none, .extract 1 (.t 36)⟩,
    ⟨(some 10), none, .mv (.t 40)⟩,
    ⟨(some 11), none, .mv (.t 41)⟩])
  (.seq (.ops [⟨(some 43), none, .mv (.t 3)⟩,
    ⟨(some 44), none, .call (.c (.func (.func 8) [] [])) [(.t 43)]⟩,
    ⟨(some 42), none, .mv (.t 44)⟩,
    ⟨(some 45), none, .extract 0 (.t 42)⟩,
    ⟨(some 46), none, .extract 1 (.t 42)⟩,
    ⟨(some 12), none, .mv (.t 45)⟩,
    ⟨(some 13), none, .mv (.t 46)⟩])
  (.seq (.ops [⟨(some 48), none, .mv (.t 3)⟩,
    ⟨(some 49), none, .call (.c (.func (.func 9) [] [])) [(.t 48)]⟩,
    ⟨(some 47), none, .mv (.t 49)⟩,
    ⟨(some 50), none, .extract 0 (.t 47)⟩,
    ⟨(some 51), none, .extract 1 (.t 47)⟩,
    ⟨(some 52), none, .extract 2 (.t 47)⟩,
    ⟨(some 14), none, .mv (.t 50)⟩,
    ⟨(some 15), none, .mv (.t 51)⟩,
    ⟨(some 16), none, .mv (.t 52)⟩])
  (.seq (.ops [⟨(some 53), none, .mv (.t 5)⟩,
    ⟨(some 54), none, .bin .eql (.t 53) (.c (.int .i64 (1)))⟩,
    ⟨(some 55), none, .mv (.t 54)⟩,
    ⟨(some 56), (some (55, true)), .mv (.t 7)⟩,
    ⟨(some 57), (some (55, true)), .bin .eql (.t 56) (.c (.int .i64 (1)))⟩,
    ⟨(some 58), none, .pick (.t 55) (.t 57) (.c (.bool false))⟩,
    ⟨(some 59), none, .mv (.t 58)⟩,
    ⟨(some 60), (some (59, true)), .mv (.t 9)⟩,
    ⟨(some 61), (some (59, true)), .bin .eql (.t 60) (.c (.int .i64 (1)))⟩,
    ⟨(some 62), none, .pick (.t 59) (.t 61) (.c (.bool false))⟩,
    ⟨(some 63), none, .mv (.t 62)⟩,
    ⟨(some 64), (some (63, true)), .mv (.t 11)⟩,
    ⟨(some 65), (some (63, true)), .bin .eql (.t 64) (.c (.int .i64 (1)))⟩,
    ⟨(some 66), none, .pick (.t 63) (.t 65) (.c (.bool false))⟩,
    ⟨(some 67), none, .mv (.t 66)⟩,
    ⟨(some 68), (some (67, true)), .mv (.t 3)⟩,
    ⟨(some 69), (some (67, true)), .call (.c (.func (.func 10) [] [])) [(.t 68), (.c (.slice none 0 0)), (.c (.int .i64 (0)))]⟩,
    ⟨(some 70), (some (67, true)), .bin .eql (.t 69) (.c (.int .i64 (1)))⟩,
    ⟨(some 71), none, .pick (.t 67) (.t 70) (.c (.bool false))⟩,
    ⟨(some 72), none, .mv (.t 71)⟩,
    ⟨(some 73), (some (72, true)), .mv (.t 12)⟩,
    ⟨(some 74), (some (72, true)), .mv (.t 13)⟩,
    ⟨(some 75), (some (72, true)), .bin .add (.t 73) (.t 74)⟩,
    ⟨(some 76), (some (72, true)), .mv (.t 14)⟩,
    ⟨(some 77), (some (72, true)), .bin .add (.t 75) (.t 76)⟩,
    ⟨(some 78), (some (72, true)), .mv (.t 15)⟩,
    ⟨(some 79), (some (72, true)), .bin .add (.t 77) (.t 78)⟩,
    ⟨(some 80), (some (72, true)), .mv (.t 16)⟩,
    ⟨(some 81), (some (72, true)), .bin .add (.t 79) (.t 80)⟩,
    ⟨(some 82), (some (72, true)), .bin .eql (.t 81) (.c (.int .i64 (0)))⟩,
    ⟨(some 83), none, .pick (.t 72) (.t 82) (.c (.bool false))⟩,
    ⟨(some 84), none, .mv (.t 83)⟩,
    ⟨(some 85), (some (84, true)), .mv (.t 3)⟩,
    ⟨(some 86), (some (84, true)), .call (.c (.func (.func 11) [] [])) [(.t 85)]⟩,
    ⟨(some 87), (some (84, true)), .eq false (.flat .ptr) (.t 86) (.c (.ptr none))⟩,
    ⟨(some 88), none, .pick (.t 84) (.t 87) (.c (.bool false))⟩,
    ⟨(some 89), none, .mv (.t 88)⟩,
    ⟨(some 90), (some (89, true)), .call (.c (.func (.func 12) [] [])) []⟩,
    ⟨(some 91), none, .pick (.t 89) (.t 90) (.c (.bool false))⟩,
    ⟨(some 2), none, .mv (.t 91)⟩])
  (.ret)))))))))⟩
theorem a3_ok : funcC Tryz.prog Tryz.f3 = some a3 := by kernel_rfl
/-- (*permafrost/store.Store).Put -/
def a4 : AFunc := ⟨2, [.tmp 4, .tmp 5],
  .seq (.ops [⟨(some 4), none, .mv (.c (.str []))⟩,
    ⟨(some 5), none, .mv (.c (.int .i64 (0)))⟩])
  (.seq (.ops [⟨(some 6), none, .mv (.t 0)⟩,
    ⟨(some 7), none, .mv (.t 1)⟩,
    ⟨(some 8), none, .call (.c (.func (.func 13) [] [])) [(.t 6), (.c (.int .i64 (0))), (.t 7)]⟩,
    ⟨(some 9), none, .extract 0 (.t 8)⟩,
    ⟨(some 10), none, .extract 1 (.t 8)⟩,
    ⟨(some 4), none, .mv (.t 9)⟩,
    ⟨(some 5), none, .mv (.t 10)⟩])
  (.ret))⟩
theorem a4_ok : funcC Tryz.prog Tryz.f4 = some a4 := by kernel_rfl
/-- (*permafrost/store.Store).PutData -/
def a5 : AFunc := ⟨2, [.tmp 4, .tmp 5],
  .seq (.ops [⟨(some 4), none, .mv (.c (.str []))⟩,
    ⟨(some 5), none, .mv (.c (.int .i64 (0)))⟩])
  (.seq (.ops [⟨(some 6), none, .mv (.t 0)⟩,
    ⟨(some 7), none, .mv (.t 1)⟩,
    ⟨(some 8), none, .call (.c (.func (.func 13) [] [])) [(.t 6), (.c (.int .i64 (1))), (.t 7)]⟩,
    ⟨(some 9), none, .extract 0 (.t 8)⟩,
    ⟨(some 10), none, .extract 1 (.t 8)⟩,
    ⟨(some 4), none, .mv (.t 9)⟩,
    ⟨(some 5), none, .mv (.t 10)⟩])
  (.ret))⟩
theorem a5_ok : funcC Tryz.prog Tryz.f5 = some a5 := by kernel_rfl
/-- (*permafrost/store.Store).PutOn -/
def a6 : AFunc := ⟨3, [.tmp 6, .tmp 7],
  .seq (.ops [⟨(some 6), none, .mv (.c (.str []))⟩,
    ⟨(some 7), none, .mv (.c (.int .i64 (0)))⟩])
  (.seq (.seq (.draw [⟨⟨(some 10), none, .mv (.t 0)⟩, 0, []⟩,
    ⟨⟨(some 11), none, .eq false (.flat .ptr) (.t 10) (.c (.ptr none))⟩, 1, [0]⟩,
    ⟨⟨(some 12), none, .mv (.t 11)⟩, 2, [0, 1]⟩,
    ⟨⟨(some 13), (some (12, false)), .mv (.t 1)⟩, 3, [0, 1, 2]⟩,
    ⟨⟨(some 14), (some (12, false)), .lenStr (.t 13)⟩, 4, [0, 1, 2, 3]⟩,
    ⟨⟨(some 15), (some (12, false)), .bin .gtr (.t 14) (.c (.int .i64 (960)))⟩, 5, [0, 1, 2, 3, 4]⟩,
    ⟨⟨(some 16), none, .pick (.t 12) (.c (.bool true)) (.t 15)⟩, 6, [0, 1, 2, 3, 4, 5]⟩,
    ⟨⟨(some 17), none, .mv (.t 16)⟩, 7, [0, 1, 2, 3, 4, 5, 6]⟩,
    ⟨⟨(some 18), (some (17, false)), .mv (.t 2)⟩, 8, [0, 1, 2, 3, 4, 5, 6, 7]⟩,
    ⟨⟨(some 19), (some (17, false)), .lenSl (.t 18)⟩, 9, [0, 1, 2, 3, 4, 5, 6, 7, 8]⟩,
    ⟨⟨(some 20), (some (17, false)), .bin .lss (.t 19) (.c (.int .i64 (1)))⟩, 10, [0, 1, 2, 3, 4, 5, 6, 7, 8, 9]⟩,
    ⟨⟨(some 21), none, .pick (.t 17) (.c (.bool true)) (.t 20)⟩, 11, [0, 1, 2, 3, 4, 5, 6, 7, 8, 9, 10]⟩,
    ⟨⟨(some 22), none, .mv (.t 21)⟩, 12, [0, 1, 2, 3, 4, 5, 6, 7, 8, 9, 10, 11]⟩,
    ⟨⟨(some 23), (some (22, false)), .mv (.t 2)⟩, 13, [0, 1, 2, 3, 4, 5, 6, 7, 8, 9, 10, 11, 12]⟩,
    ⟨⟨(some 24), (some (22, false)), .lenSl (.t 23)⟩, 14, [0, 1, 2, 3, 4, 5, 6, 7, 8, 9, 10, 11, 12, 13]⟩,
    ⟨⟨(some 25), (some (22, false)), .bin .gtr (.t 24) (.c (.int .i64 (2)))⟩, 15, [0, 1, 2, 3, 4, 5, 6, 7, 8, 9, 10, 11, 12, 13, 14]⟩,
    ⟨⟨(some 26), none, .pick (.t 22) (.c (.bool true)) (.t 25)⟩, 16, [0, 1, 2, 3, 4, 5, 6, 7, 8, 9, 10, 11, 12, 13, 14, 15]⟩,
    ⟨⟨(some 27), none, .mv (.t 26)⟩, 17, [0, 1, 2, 3, 4, 5, 6, 7, 8, 9, 10, 11, 12, 13, 14, 15, 16]⟩,
    ⟨⟨(some 28), (some (27, false)), .mv (.t 2)⟩, 18, [0, 1, 2, 3, 4, 5, 6, 7, 8, 9, 10, 11, 12, 13, 14, 15, 16, 17]⟩,
    ⟨⟨(some 29), (some (27, false)), .lenSl (.t 28)⟩, 19, [0, 1, 2, 3, 4, 5, 6, 7, 8, 9, 10, 11, 12, 13, 14, 15, 16, 17, 18]⟩,
    ⟨⟨(some 30), (some (27, false)), .bin .eql (.t 29) (.c (.int .i64 (2)))⟩, 20, [0, 1, 2, 3, 4, 5, 6, 7, 8, 9, 10, 11, 12, 13, 14, 15, 16, 17, 18, 19]⟩,
    ⟨⟨(some 31), (some (27, false)), .mv (.t 30)⟩, 21, [0, 1, 2, 3, 4, 5, 6, 7, 8, 9, 10, 11, 12, 13, 14, 15, 16, 17, 18, 19, 20]⟩,
    ⟨⟨(some 32), (some (31, true)), .mv (.t 2)⟩, 22, [0, 1, 2, 3, 4, 5, 6, 7, 8, 9, 10, 11, 12, 13, 14, 15, 16, 17, 18, 19, 20, 21]⟩,
    ⟨⟨(some 33), (some (31, true)), .idxSl 1 (.t 32) (.c (.int .i64 (0)))⟩, 23, [0, 1, 2, 3, 4, 5, 6, 7, 8, 9, 10, 11, 12, 13, 14, 15, 16, 17, 18, 19, 20, 21, 22]⟩,
    ⟨⟨(some 34), (some (31, true)), .load none (.t 33)⟩, 24, [0, 1, 2, 3, 4, 5, 6, 7, 8, 9, 10, 11, 12, 13, 14, 15, 16, 17, 18, 19, 20, 21, 22, 23]⟩,
    ⟨⟨(some 35), (some (31, true)), .mv (.t 2)⟩, 25, [0, 1, 2, 3, 4, 5, 6, 7, 8, 9, 10, 11, 12, 13, 14, 15, 16, 17, 18, 19, 20, 21]⟩,
    ⟨⟨(some 36), (some (31, true)), .idxSl 1 (.t 35) (.c (.int .i64 (1)))⟩, 26, [0, 1, 2, 3, 4, 5, 6, 7, 8, 9, 10, 11, 12, 13, 14, 15, 16, 17, 18, 19, 20, 21, 25]⟩,
    ⟨⟨(some 37), (some (31, true)), .load none (.t 36)⟩, 27, [0, 1, 2, 3, 4, 5, 6, 7, 8, 9, 10, 11, 12, 13, 14, 15, 16, 17, 18, 19, 20, 21, 25, 26]⟩,
    ⟨⟨(some 38), (some (31, true)), .bin .eql (.t 34) (.t 37)⟩, 28, [0, 1, 2, 3, 4, 5, 6, 7, 8, 9, 10, 11, 12, 13, 14, 15, 16, 17, 18, 19, 20, 21, 22, 23, 24, 25, 26, 27]⟩,
    ⟨⟨(some 39), (some (27, false)), .pick (.t 31) (.t 38) (.c (.bool false))⟩, 29, [0, 1, 2, 3, 4, 5, 6, 7, 8, 9, 10, 11, 12, 13, 14, 15, 16, 17, 18, 19, 20, 21, 22, 23, 24, 25, 26, 27, 28]⟩,
    ⟨⟨(some 40), none, .pick (.t 27) (.c (.bool true)) (.t 39)⟩, 30, [0, 1, 2, 3, 4, 5, 6, 7, 8, 9, 10, 11, 12, 13, 14, 15, 16, 17, 18, 19, 20, 21, 22, 23, 24, 25, 26, 27, 28, 29]⟩])
  (.cond (.t 40)
   (.seq (.ops [⟨(some 6), none, .mv (.c (.str []))⟩,
     ⟨(some 7), none, .mv (.c (.int .i64 (1)))⟩])
   (.ret))
   (.skip)))
  (.seq (.seq (.ops [⟨(some 41), none, .mv (.t 2)⟩,
    ⟨(some 42), none, .lenSl (.t 41)⟩,
    ⟨(some 43), none, .mv (.c (.int .i64 (0)))⟩])
  (.block 0 (.loop (.seq (.ops [⟨(some 44), none, .bin .lss (.t 43) (.t 42)⟩])
    (.seq (.cond (.t 44)
     (.skip)
     (.exit 0))
    (.seq (.block 1 (.seq (.ops [⟨(some 45), none, .idxSl 1 (.t 41) (.t 43)⟩,
       ⟨(some 46), none, .load none (.t 45)⟩,
       ⟨(some 9), none, .mv (.t 46)⟩])
     (.seq (.ops [⟨(some 47), none, .mv (.t 9)⟩,
       ⟨(some 48), none, .bin .lss (.t 47) (.c (.int .i64 (0)))⟩,
       ⟨(some 49), none, .mv (.t 48)⟩,
       ⟨(some 50), (some (49, false)), .mv (.t 9)⟩,
       ⟨(some 51), (some (49, false)), .bin .geq (.t 50) (.c (.int .i64 (2)))⟩,
       ⟨(some 52), none, .pick (.t 49) (.c (.bool true)) (.t 51)⟩])
     (.cond (.t 52)
      (.seq (.ops [⟨(some 6), none, .mv (.c (.str []))⟩,
        ⟨(some 7), none, .mv (.c (.int .i64 (1)))⟩])
      (.ret))
      (.skip)))))
    (.ops [⟨(some 53), none, .bin .add (.t 43) (.c (.int .i64 (1)))⟩,
      ⟨(some 43), none, .mv (.t 53)⟩])))))))
  (.seq (.ops [⟨(some 54), none, .mv (.t 0)⟩,
    ⟨(some 55), none, .mv (.t 1)⟩,
    ⟨(some 56), none, .mv (.t 2)⟩,
    ⟨(some 57), none, .call (.c (.func (.func 14) [] [])) [(.t 54), (.t 55), (.t 56)]⟩,
    ⟨(some 58), none, .extract 0 (.t 57)⟩,
    ⟨(some 59), none, .extract 1 (.t 57)⟩,
    ⟨(some 6), none, .mv (.t 58)⟩,
    ⟨(some 7), none, .mv (.t 59)⟩])
  (.ret))))⟩
theorem a6_ok : funcC Tryz.prog Tryz.f6 = some a6 := by kernel_rfl
/-- (*permafrost/store.Store).Get -/
def a7 : AFunc := ⟨2, [.tmp 4, .tmp 5],
  .seq (.ops [⟨(some 4), none, .mv (.c (.str []))⟩,
    ⟨(some 5), none, .mv (.c (.int .i64 (0)))⟩])
  (.seq (.seq (.ops [⟨(some 12), none, .mv (.t 0)⟩,
    ⟨(some 13), none, .eq false (.flat .ptr) (.t 12) (.c (.ptr none))⟩])
  (.cond (.t 13)
   (.seq (.ops [⟨(some 4), none, .mv (.c (.str []))⟩,
     ⟨(some 5), none, .mv (.c (.int .i64 (1)))⟩])
   (.ret))
   (.skip)))
  (.seq (.seq (.ops [⟨(some 15), none, .mv (.t 1)⟩,
    ⟨(some 16), none, .call (.c (.func (.func 15) [] [])) [(.t 15)]⟩,
    ⟨(some 14), none, .mv (.t 16)⟩,
    ⟨(some 17), none, .extract 0 (.t 14)⟩,
    ⟨(some 18), none, .extract 1 (.t 14)⟩,
    ⟨(some 6), none, .alloc none [(.slice none 0 0), (.int .i64 (0)), (.int .i64 (0)), (.str [])]⟩,
    ⟨none, none, .store 4 (.t 6) (.t 17)⟩,
    ⟨(some 7), none, .mv (.t 18)⟩])
  (.seq (.ops [⟨(some 19), none, .mv (.t 7)⟩,
    ⟨(some 20), none, .bin .neq (.t 19) (.c (.int .i64 (0)))⟩])
  (.cond (.t 20)
   (.seq (.ops [⟨(some 4), none, .mv (.c (.str []))⟩,
     ⟨(some 5), none, .mv (.c (.int .i64 (3)))⟩])
   (.ret))
   (.skip))))
  (.seq (.seq (.ops [⟨(some 21), none, .mv (.t 0)⟩,
    ⟨(some 22), none, .mkFn (.func 16) [(.t 21)] []⟩,
    ⟨(some 23), none, .mv (.t 0)⟩,
    ⟨(some 24), none, .mkFn (.func 17) [(.t 23)] []⟩,
    ⟨(some 25), none, .mv (.t 0)⟩,
    ⟨(some 26), none, .mkFn (.func 18) [(.t 25)] []⟩,
    ⟨(some 27), none, .build [.nilFunc, .nilFunc, .nilFunc] [(0, 1, (.t 22)), (1, 1, (.t 24)), (2, 1, (.t 26))]⟩,
    ⟨(some 28), none, .mv (.c (.int .i64 (0)))⟩])
  (.block 0 (.loop (.seq (.ops [⟨(some 29), none, .bin .lss (.t 28) (.c (.int .i64 (3)))⟩])
    (.seq (.cond (.t 29)
     (.skip)
     (.exit 0))
    (.seq (.block 1 (.seq (.ops [⟨(some 30), none, .mv (.t 28)⟩,
       ⟨(some 31), none, .atArr 3 1 none (.t 27) (.t 28)⟩,
       ⟨(some 8), none, .mv (.t 30)⟩,
       ⟨(some 9), none, .mv (.t 31)⟩])
     (.seq (.ops [⟨(some 33), none, .mv (.t 9)⟩,
       ⟨(some 34), none, .mv (.t 1)⟩,
       ⟨(some 35), none, .call (.t 33) [(.t 34)]⟩,
       ⟨(some 32), none, .mv (.t 35)⟩,
       ⟨(some 36), none, .extract 0 (.t 32)⟩,
       ⟨(some 37), none, .extract 1 (.t 32)⟩,
       ⟨(some 10), none, .mv (.t 36)⟩,
       ⟨(some 11), none, .mv (.t 37)⟩])
     (.seq (.ops [⟨(some 38), none, .mv (.t 11)⟩])
     (.cond (.t 38)
      (.seq (.draw [⟨⟨(some 39), none, .mv (.t 0)⟩, 0, []⟩,
        ⟨⟨(some 40), none, .mv (.t 8)⟩, 1, []⟩,
        ⟨⟨(some 41), none, .nilck (.t 39)⟩, 2, [0]⟩,
        ⟨⟨(some 42), none, .fieldAddr 12 (.t 41)⟩, 3, [0, 2]⟩,
        ⟨⟨(some 43), none, .idxArr 3 1 (.t 42) (.t 40)⟩, 4, [0, 1, 2, 3]⟩,
        ⟨⟨(some 44), none, .load none (.t 43)⟩, 5, [0, 1, 2, 3, 4]⟩,
        ⟨⟨(some 45), none, .bin .add (.t 44) (.c (.int .i64 (1)))⟩, 6, [0, 1, 2, 3, 4, 5]⟩,
        ⟨⟨(some 46), none, .nilck (.t 39)⟩, 7, [0]⟩,
        ⟨⟨(some 47), none, .fieldAddr 12 (.t 46)⟩, 8, [0, 7]⟩,
        ⟨⟨(some 48), none, .idxArr 3 1 (.t 47) (.t 40)⟩, 9, [0, 1, 2, 3, 4, 5, 6, 7, 8]⟩,
        ⟨⟨none, none, .store 1 (.t 48) (.t 45)⟩, 10, [0, 1, 2, 3, 4, 5, 6, 7, 8, 9]⟩])
      (.seq (.ops [⟨(some 49), none, .mv (.t 0)⟩,
        ⟨(some 50), none, .mv (.t 1)⟩,
        ⟨(some 51), none, .mv (.t 10)⟩,
        ⟨(some 52), none, .call (.c (.func (.func 19) [] [])) [(.t 49), (.t 50), (.t 51)]⟩])
      (.seq (.ops [⟨(some 53), none, .mv (.t 10)⟩,
        ⟨(some 4), none, .mv (.t 53)⟩,
        ⟨(some 5), none, .mv (.c (.int .i64 (0)))⟩])
      (.ret))))
      (.skip))))))
    (.ops [⟨(some 54), none, .bin .add (.t 28) (.c (.int .i64 (1)))⟩,
      ⟨(some 28), none, .mv (.t 54)⟩])))))))
  (.seq (.ops [⟨(some 4), none, .mv (.c (.str []))⟩,
    ⟨(some 5), none, .mv (.c (.int .i64 (7)))⟩])
  (.ret)))))⟩
theorem a7_ok : funcC Tryz.prog Tryz.f7 = some a7 := by kernel_rfl
/-- (*permafrost/store.Store).Free -/
def a8 : AFunc := ⟨1, [.tmp 2, .tmp 3],
  .seq (.ops [⟨(some 2), none, .mv (.c (.int .i64 (0)))⟩,
    ⟨(some 3), none, .mv (.c (.int .i64 (0)))⟩])
  (.seq (.seq (.ops [⟨(some 4), none, .mv (.t 0)⟩,
    ⟨(some 5), none, .eq false (.flat .ptr) (.t 4) (.c (.ptr none))⟩])
  (.cond (.t 5)
   (.seq (.ops [⟨(some 2), none, .mv (.c (.int .i64 (0)))⟩,
     ⟨(some 3), none, .mv (.c (.int .i64 (0)))⟩])
   (.ret))
   (.skip)))
  (.seq (.ops [⟨(some 6), none, .mv (.t 0)⟩,
    ⟨(some 7), none, .call (.c (.func (.func 20) [] [])) [(.t 6), (.c (.int .i64 (0)))]⟩,
    ⟨(some 8), none, .mv (.t 0)⟩,
    ⟨(some 9), none, .call (.c (.func (.func 20) [] [])) [(.t 8), (.c (.int .i64 (1)))]⟩,
    ⟨(some 2), none, .mv (.t 7)⟩,
    ⟨(some 3), none, .mv (.t 9)⟩])
  (.ret)))⟩
theorem a8_ok : funcC Tryz.prog Tryz.f8 = some a8 := by kernel_rfl
/-- (*permafrost/store.Store).Hits -/
def a9 : AFunc := ⟨1, [.tmp 2, .tmp 3, .tmp 4],
  .seq (.ops [⟨(some 2), none, .mv (.c (.int .i64 (0)))⟩,
    ⟨(some 3), none, .mv (.c (.int .i64 (0)))⟩,
    ⟨(some 4), none, .mv (.c (.int .i64 (0)))⟩])
  (.seq (.seq (.ops [⟨(some 5), none, .mv (.t 0)⟩,
    ⟨(some 6), none, .eq false (.flat .ptr) (.t 5) (.c (.ptr none))⟩])
  (.cond (.t 6)
   (.seq (.ops [⟨(some 2), none, .mv (.c (.int .i64 (0)))⟩,
     ⟨(some 3), none, .mv (.c (.int .i64 (0)))⟩,
     ⟨(some 4), none, .mv (.c (.int .i64 (0)))⟩])
   (.ret))
   (.skip)))
  (.seq (.draw [⟨⟨(some 7), none, .mv (.t 0)⟩, 0, []⟩,
    ⟨⟨(some 8), none, .nilck (.t 7)⟩, 1, [0]⟩,
    ⟨⟨(some 9), none, .fieldAddr 12 (.t 8)⟩, 2, [0, 1]⟩,
    ⟨⟨(some 10), none, .idxArr 3 1 (.t 9) (.c (.int .i64 (0)))⟩, 3, [0, 1, 2]⟩,
    ⟨⟨(some 11), none, .load none (.t 10)⟩, 4, [0, 1, 2, 3]⟩,
    ⟨⟨(some 12), none, .mv (.t 0)⟩, 5, []⟩,
    ⟨⟨(some 13), none, .nilck (.t 12)⟩, 6, [5]⟩,
    ⟨⟨(some 14), none, .fieldAddr 12 (.t 13)⟩, 7, [5, 6]⟩,
    ⟨⟨(some 15), none, .idxArr 3 1 (.t 14) (.c (.int .i64 (1)))⟩, 8, [5, 6, 7]⟩,
    ⟨⟨(some 16), none, .load none (.t 15)⟩, 9, [5, 6, 7, 8]⟩,
    ⟨⟨(some 17), none, .mv (.t 0)⟩, 10, []⟩,
    ⟨⟨(some 18), none, .nilck (.t 17)⟩, 11, [10]⟩,
    ⟨⟨(some 19), none, .fieldAddr 12 (.t 18)⟩, 12, [10, 11]⟩,
    ⟨⟨(some 20), none, .idxArr 3 1 (.t 19) (.c (.int .i64 (2)))⟩, 13, [10, 11, 12]⟩,
    ⟨⟨(some 21), none, .load none (.t 20)⟩, 14, [10, 11, 12, 13]⟩,
    ⟨⟨(some 2), none, .mv (.t 11)⟩, 15, [0, 1, 2, 3, 4]⟩,
    ⟨⟨(some 3), none, .mv (.t 16)⟩, 16, [0, 1, 2, 3, 4, 5, 6, 7, 8, 9, 15]⟩,
    ⟨⟨(some 4), none, .mv (.t 21)⟩, 17, [0, 1, 2, 3, 4, 5, 6, 7, 8, 9, 10, 11, 12, 13, 14, 15, 16]⟩])
  (.ret)))⟩
theorem a9_ok : funcC Tryz.prog Tryz.f9 = some a9 := by kernel_rfl
/-- (*permafrost/store.Store).Settle -/
def a10 : AFunc := ⟨3, [.tmp 6],
  .seq (.ops [⟨(some 6), none, .mv (.c (.int .i64 (0)))⟩])
  (.seq (.seq (.ops [⟨(some 15), none, .mv (.t 0)⟩,
    ⟨(some 16), none, .eq false (.flat .ptr) (.t 15) (.c (.ptr none))⟩,
    ⟨(some 17), none, .mv (.t 16)⟩,
    ⟨(some 18), (some (17, false)), .mv (.t 2)⟩,
    ⟨(some 19), (some (17, false)), .bin .lss (.t 18) (.c (.int .i64 (0)))⟩,
    ⟨(some 20), none, .pick (.t 17) (.c (.bool true)) (.t 19)⟩,
    ⟨(some 21), none, .mv (.t 20)⟩,
    ⟨(some 22), (some (21, false)), .mv (.t 2)⟩,
    ⟨(some 23), (some (21, false)), .bin .gtr (.t 22) (.c (.int .i64 (1099511627776)))⟩,
    ⟨(some 24), none, .pick (.t 21) (.c (.bool true)) (.t 23)⟩])
  (.cond (.t 24)
   (.seq (.ops [⟨(some 6), none, .mv (.c (.int .i64 (1)))⟩])
   (.ret))
   (.skip)))
  (.seq (.ops [⟨(some 7), none, .alloc none [(.slice none 0 0), (.slice none 0 0)]⟩])
  (.seq (.seq (.ops [⟨(some 25), none, .mv (.c (.int .i64 (0)))⟩])
  (.block 0 (.loop (.seq (.ops [⟨(some 26), none, .bin .lss (.t 25) (.c (.int .i64 (2)))⟩])
    (.seq (.cond (.t 26)
     (.skip)
     (.exit 0))
    (.seq (.block 1 (.seq (.ops [⟨(some 27), none, .mv (.t 25)⟩,
       ⟨(some 8), none, .mv (.t 27)⟩])
     (.seq (.ops [⟨(some 28), none, .mv (.t 8)⟩,
       ⟨(some 29), none, .mv (.t 0)⟩,
       ⟨(some 30), none, .nilck (.t 29)⟩,
       ⟨(some 31), none, .fieldAddr 0 (.t 30)⟩,
       ⟨(some 32), none, .load none (.t 31)⟩,
       ⟨(some 33), none, .mv (.t 8)⟩,
       ⟨(some 34), none, .call (.c (.func (.func 21) [] [])) [(.t 32), (.t 33)]⟩,
       ⟨(some 35), none, .makeSl 1 1 [(.bool false)] (.t 34) (.t 34)⟩,
       ⟨(some 36), none, .idxArr 2 1 (.t 7) (.t 28)⟩,
       ⟨none, none, .store 1 (.t 36) (.t 35)⟩])
     (.seq (.ops [⟨(some 37), none, .mv (.t 8)⟩,
       ⟨(some 38), none, .idxArr 2 1 (.t 7) (.t 37)⟩,
       ⟨(some 39), none, .load none (.t 38)⟩,
       ⟨(some 40), none, .lenSl (.t 39)⟩,
       ⟨(some 41), none, .min2 (.c (.int .i64 (4))) (.t 40)⟩,
       ⟨(some 42), none, .mv (.c (.int .i64 (0)))⟩])
     (.block 2 (.loop (.seq (.ops [⟨(some 43), none, .bin .lss (.t 42) (.t 41)⟩])
       (.seq (.cond (.t 43)
        (.skip)
        (.exit 2))
       (.seq (.block 3 (.seq (.ops [⟨(some 44), none, .mv (.t 42)⟩,
          ⟨(some 9), none, .mv (.t 44)⟩])
        (.ops [⟨(some 45), none, .mv (.t 8)⟩,
          ⟨(some 46), none, .idxArr 2 1 (.t 7) (.t 45)⟩,
          ⟨(some 47), none, .load none (.t 46)⟩,
          ⟨(some 48), none, .mv (.t 9)⟩,
          ⟨(some 49), none, .idxSl 1 (.t 47) (.t 48)⟩,
          ⟨none, none, .store 1 (.t 49) (.c (.bool true))⟩])))
       (.ops [⟨(some 50), none, .bin .add (.t 42) (.c (.int .i64 (1)))⟩,
         ⟨(some 42), none, .mv (.t 50)⟩]))))))))))
    (.ops [⟨(some 51), none, .bin .add (.t 25) (.c (.int .i64 (1)))⟩,
      ⟨(some 25), none, .mv (.t 51)⟩])))))))
  (.seq (.ops [⟨(some 52), none, .idxArr 2 1 (.t 7) (.c (.int .i64 (1)))⟩,
    ⟨(some 53), none, .load none (.t 52)⟩,
    ⟨(some 54), none, .lenSl (.t 53)⟩,
    ⟨(some 10), none, .mv (.t 54)⟩])
  (.seq (.seq (.ops [⟨(some 55), none, .mv (.t 10)⟩,
    ⟨(some 56), none, .mv (.t 0)⟩,
    ⟨(some 57), none, .call (.c (.func (.func 22) [] [])) [(.t 56)]⟩,
    ⟨(some 58), none, .bin .sub (.t 55) (.t 57)⟩,
    ⟨(some 11), none, .mv (.t 58)⟩])
  (.block 4 (.loop (.seq (.seq (.ops [⟨(some 59), none, .mv (.t 11)⟩,
      ⟨(some 60), none, .mv (.t 10)⟩,
      ⟨(some 61), none, .bin .lss (.t 59) (.t 60)⟩])
    (.cond (.t 61)
     (.skip)
     (.exit 4)))
    (.seq (.block 5 (.ops [⟨(some 64), none, .idxArr 2 1 (.t 7) (.c (.int .i64 (1)))⟩,
       ⟨(some 65), none, .load none (.t 64)⟩,
       ⟨(some 66), none, .mv (.t 11)⟩,
       ⟨(some 67), none, .idxSl 1 (.t 65) (.t 66)⟩,
       ⟨none, none, .store 1 (.t 67) (.c (.bool true))⟩]))
    (.ops [⟨(some 62), none, .mv (.t 11)⟩,
      ⟨(some 63), none, .bin .add (.t 62) (.c (.int .i64 (1)))⟩,
      ⟨(some 11), none, .mv (.t 63)⟩]))))))
  (.seq (.seq (.ops [⟨(some 68), none, .mv (.t 1)⟩,
    ⟨(some 69), none, .lenSl (.t 68)⟩,
    ⟨(some 70), none, .mv (.c (.int .i64 (0)))⟩])
  (.block 6 (.loop (.seq (.ops [⟨(some 71), none, .bin .lss (.t 70) (.t 69)⟩])
    (.seq (.cond (.t 71)
     (.skip)
     (.exit 6))
    (.seq (.block 7 (.seq (.ops [⟨(some 72), none, .idxSl 2 (.t 68) (.t 70)⟩,
       ⟨(some 73), none, .load (some 2) (.t 72)⟩,
       ⟨(some 13), none, .alloc none [(.int .i64 (0)), (.int .i64 (0))]⟩,
       ⟨none, none, .store 2 (.t 13) (.t 73)⟩])
     (.seq (.seq (.draw [⟨⟨(some 74), none, .fieldAddr 0 (.t 13)⟩, 0, []⟩,
       ⟨⟨(some 75), none, .load none (.t 74)⟩, 1, [0]⟩,
       ⟨⟨(some 76), none, .bin .lss (.t 75) (.c (.int .i64 (0)))⟩, 2, [0, 1]⟩,
       ⟨⟨(some 77), none, .mv (.t 76)⟩, 3, [0, 1, 2]⟩,
       ⟨⟨(some 78), (some (77, false)), .fieldAddr 0 (.t 13)⟩, 4, [0, 1, 2, 3]⟩,
       ⟨⟨(some 79), (some (77, false)), .load none (.t 78)⟩, 5, [0, 1, 2, 3, 4]⟩,
       ⟨⟨(some 80), (some (77, false)), .bin .geq (.t 79) (.c (.int .i64 (2)))⟩, 6, [0, 1, 2, 3, 4, 5]⟩,
       ⟨⟨(some 81), none, .pick (.t 77) (.c (.bool true)) (.t 80)⟩, 7, [0, 1, 2, 3, 4, 5, 6]⟩,
       ⟨⟨(some 82), none, .mv (.t 81)⟩, 8, [0, 1, 2, 3, 4, 5, 6, 7]⟩,
       ⟨⟨(some 83), (some (82, false)), .fieldAddr 1 (.t 13)⟩, 9, [0, 1, 2, 3, 4, 5, 6, 7, 8]⟩,
       ⟨⟨(some 84), (some (82, false)), .load none (.t 83)⟩, 10, [0, 1, 2, 3, 4, 5, 6, 7, 8, 9]⟩,
       ⟨⟨(some 85), (some (82, false)), .bin .lss (.t 84) (.c (.int .i64 (0)))⟩, 11, [0, 1, 2, 3, 4, 5, 6, 7, 8, 9, 10]⟩,
       ⟨⟨(some 86), none, .pick (.t 82) (.c (.bool true)) (.t 85)⟩, 12, [0, 1, 2, 3, 4, 5, 6, 7, 8, 9, 10, 11]⟩,
       ⟨⟨(some 87), none, .mv (.t 86)⟩, 13, [0, 1, 2, 3, 4, 5, 6, 7, 8, 9, 10, 11, 12]⟩,
       ⟨⟨(some 88), (some (87, false)), .fieldAddr 1 (.t 13)⟩, 14, [0, 1, 2, 3, 4, 5, 6, 7, 8, 9, 10, 11, 12, 13]⟩,
       ⟨⟨(some 89), (some (87, false)), .load none (.t 88)⟩, 15, [0, 1, 2, 3, 4, 5, 6, 7, 8, 9, 10, 11, 12, 13, 14]⟩,
       ⟨⟨(some 90), (some (87, false)), .fieldAddr 0 (.t 13)⟩, 16, [0, 1, 2, 3, 4, 5, 6, 7, 8, 9, 10, 11, 12, 13]⟩,
       ⟨⟨(some 91), (some (87, false)), .load none (.t 90)⟩, 17, [0, 1, 2, 3, 4, 5, 6, 7, 8, 9, 10, 11, 12, 13, 16]⟩,
       ⟨⟨(some 92), (some (87, false)), .idxArr 2 1 (.t 7) (.t 91)⟩, 18, [0, 1, 2, 3, 4, 5, 6, 7, 8, 9, 10, 11, 12, 13, 16, 17]⟩,
       ⟨⟨(some 93), (some (87, false)), .load none (.t 92)⟩, 19, [0, 1, 2, 3, 4, 5, 6, 7, 8, 9, 10, 11, 12, 13, 16, 17, 18]⟩,
       ⟨⟨(some 94), (some (87, false)), .lenSl (.t 93)⟩, 20, [0, 1, 2, 3, 4, 5, 6, 7, 8, 9, 10, 11, 12, 13, 16, 17, 18, 19]⟩,
       ⟨⟨(some 95), (some (87, false)), .bin .geq (.t 89) (.t 94)⟩, 21, [0, 1, 2, 3, 4, 5, 6, 7, 8, 9, 10, 11, 12, 13, 14, 15, 16, 17, 18, 19, 20]⟩,
       ⟨⟨(some 96), none, .pick (.t 87) (.c (.bool true)) (.t 95)⟩, 22, [0, 1, 2, 3, 4, 5, 6, 7, 8, 9, 10, 11, 12, 13, 14, 15, 16, 17, 18, 19, 20, 21]⟩])
     (.cond (.t 96)
      (.seq (.ops [⟨(some 6), none, .mv (.c (.int .i64 (1)))⟩])
      (.ret))
      (.skip)))
     (.draw [⟨⟨(some 97), none, .fieldAddr 0 (.t 13)⟩, 0, []⟩,
       ⟨⟨(some 98), none, .load none (.t 97)⟩, 1, [0]⟩,
       ⟨⟨(some 99), none, .idxArr 2 1 (.t 7) (.t 98)⟩, 2, [0, 1]⟩,
       ⟨⟨(some 100), none, .load none (.t 99)⟩, 3, [0, 1, 2]⟩,
       ⟨⟨(some 101), none, .fieldAddr 1 (.t 13)⟩, 4, []⟩,
       ⟨⟨(some 102), none, .load none (.t 101)⟩, 5, [4]⟩,
       ⟨⟨(some 103), none, .idxSl 1 (.t 100) (.t 102)⟩, 6, [0, 1, 2, 3, 4, 5]⟩,
       ⟨⟨none, none, .store 1 (.t 103) (.c (.bool true))⟩, 7, [0, 1, 2, 3, 4, 5, 6]⟩]))))
    (.ops [⟨(some 104), none, .bin .add (.t 70) (.c (.int .i64 (1)))⟩,
      ⟨(some 70), none, .mv (.t 104)⟩])))))))
  (.seq (.seq (.ops [⟨(some 105), none, .mv (.c (.int .i64 (0)))⟩])
  (.block 8 (.loop (.seq (.ops [⟨(some 106), none, .bin .lss (.t 105) (.c (.int .i64 (2)))⟩])
    (.seq (.cond (.t 106)
     (.skip)
     (.exit 8))
    (.seq (.block 9 (.seq (.ops [⟨(some 107), none, .mv (.t 105)⟩,
       ⟨(some 14), none, .mv (.t 107)⟩])
     (.draw [⟨⟨(some 108), none, .mv (.t 0)⟩, 0, []⟩,
       ⟨⟨(some 109), none, .mv (.t 14)⟩, 1, []⟩,
       ⟨⟨(some 110), none, .mv (.t 14)⟩, 2, []⟩,
       ⟨⟨(some 111), none, .idxArr 2 1 (.t 7) (.t 110)⟩, 3, [2]⟩,
       ⟨⟨(some 112), none, .load none (.t 111)⟩, 4, [2, 3]⟩,
       ⟨⟨(some 114), none, .nilck (.t 108)⟩, 6, [0]⟩,
       ⟨⟨(some 115), none, .fieldAddr 6 (.t 114)⟩, 7, [0, 5]⟩,
       ⟨⟨(some 113), none, .call (.c (.func (.func 23) [] [])) [(.t 112)]⟩, 5, [2, 3, 4]⟩,
       ⟨⟨(some 116), none, .idxArr 2 1 (.t 115) (.t 109)⟩, 8, [0, 1, 2, 3, 4, 5, 6, 7]⟩,
       ⟨⟨none, none, .store 1 (.t 116) (.t 113)⟩, 9, [0, 1, 2, 3, 4, 5, 6, 7, 8]⟩])))
    (.ops [⟨(some 117), none, .bin .add (.t 105) (.c (.int .i64 (1)))⟩,
      ⟨(some 105), none, .mv (.t 117)⟩])))))))
  (.seq (.ops [⟨(some 118), none, .mv (.t 0)⟩,
    ⟨(some 119), none, .mv (.t 2)⟩,
    ⟨(some 120), none, .nilck (.t 118)⟩,
    ⟨(some 121), none, .fieldAddr 8 (.t 120)⟩,
    ⟨none, none, .store 1 (.t 121) (.t 119)⟩])
  (.seq (.ops [⟨(some 6), none, .mv (.c (.int .i64 (0)))⟩])
  (.ret))))))))))⟩
theorem a10_ok : funcC Tryz.prog Tryz.f10 = some a10 := by kernel_rfl
/-- (*permafrost/store.Store).Devs -/
def a11 : AFunc := ⟨1, [.tmp 2],
  .seq (.ops [⟨(some 2), none, .mv (.c (.ptr none))⟩])
  (.seq (.seq (.ops [⟨(some 3), none, .mv (.t 0)⟩,
    ⟨(some 4), none, .eq false (.flat .ptr) (.t 3) (.c (.ptr none))⟩])
  (.cond (.t 4)
   (.seq (.ops [⟨(some 2), none, .mv (.c (.ptr none))⟩])
   (.ret))
   (.skip)))
  (.seq (.ops [⟨(some 5), none, .mv (.t 0)⟩,
    ⟨(some 6), none, .nilck (.t 5)⟩,
    ⟨(some 7), none, .fieldAddr 0 (.t 6)⟩,
    ⟨(some 8), none, .load none (.t 7)⟩,
    ⟨(some 2), none, .mv (.t 8)⟩])
  (.ret)))⟩
theorem a11_ok : funcC Tryz.prog Tryz.f11 = some a11 := by kernel_rfl
/-- permafrost/permafrostlaw18.live -/
def a12 : AFunc := ⟨0, [.tmp 0],
  .seq (.ops [⟨(some 0), none, .mv (.c (.bool false))⟩])
  (.seq (.ops [⟨(some 25), none, .call (.c (.func (.func 24) [] [])) [(.c (.int .i64 (10))), (.c (.int .i64 (20)))]⟩,
    ⟨(some 1), none, .mv (.t 25)⟩])
  (.seq (.ops [⟨(some 27), none, .mv (.t 1)⟩,
    ⟨(some 28), none, .build [(.bool false), (.bool false), (.int .i64 (0)), (.int .i64 (0)), (.int .i64 (0))] [(0, 1, (.c (.bool true))), (1, 1, (.c (.bool true))), (3, 1, (.c (.int .i64 (1)))), (4, 1, (.c (.int .i64 (4))))]⟩,
    ⟨(some 29), none, .build [(.int .i64 (0)), (.int .i64 (0))] [(1, 1, (.c (.int .i64 (4))))]⟩,
    ⟨(some 30), none, .buildSl [(.int .i64 (0)), (.int .i64 (0))] 1 [(0, 2, (.t 29))]⟩,
    ⟨(some 31), none, .call (.c (.func (.func 25) [] [])) [(.t 27), (.t 28), (.t 30), (.c (.int .i64 (7)))]⟩,
    ⟨(some 26), none, .mv (.t 31)⟩,
    ⟨(some 32), none, .extract 0 (.t 26)⟩,
    ⟨(some 33), none, .extract 1 (.t 26)⟩,
    ⟨(some 2), none, .mv (.t 32)⟩,
    ⟨(some 3), none, .mv (.t 33)⟩])
  (.seq (.seq (.ops [⟨(some 34), none, .mv (.t 2)⟩,
    ⟨(some 35), none, .eq false (.flat .ptr) (.t 34) (.c (.ptr none))⟩])
  (.cond (.t 35)
   (.seq (.ops [⟨(some 0), none, .mv (.c (.bool false))⟩])
   (.ret))
   (.skip)))
  (.seq (.ops [⟨(some 37), none, .mv (.t 2)⟩,
    ⟨(some 38), none, .call (.c (.func (.func 8) [] [])) [(.t 37)]⟩,
    ⟨(some 36), none, .mv (.t 38)⟩,
    ⟨(some 39), none, .extract 0 (.t 36)⟩,
    ⟨(some 40), none, .extract 1 (.t 36)⟩,
    ⟨(some 4), none, .mv (.t 39)⟩,
    ⟨(some 5), none, .mv (.t 40)⟩])
  (.seq (.ops [⟨(some 42), none, .mv (.t 2)⟩,
    ⟨(some 43), none, .call (.c (.func (.func 4) [] [])) [(.t 42), (.c (.str [110, 111, 100, 101]))]⟩,
    ⟨(some 41), none, .mv (.t 43)⟩,
    ⟨(some 44), none, .extract 0 (.t 41)⟩,
    ⟨(some 45), none, .extract 1 (.t 41)⟩,
    ⟨(some 6), none, .mv (.t 44)⟩,
    ⟨(some 7), none, .mv (.t 45)⟩])
  (.seq (.ops [⟨(some 47), none, .mv (.t 2)⟩,
    ⟨(some 48), none, .call (.c (.func (.func 5) [] [])) [(.t 47), (.c (.str [100, 97, 116, 97]))]⟩,
    ⟨(some 46), none, .mv (.t 48)⟩,
    ⟨(some 49), none, .extract 0 (.t 46)⟩,
    ⟨(some 50), none, .extract 1 (.t 46)⟩,
    ⟨(some 8), none, .mv (.t 49)⟩,
    ⟨(some 9), none, .mv (.t 50)⟩])
  (.seq (.ops [⟨(some 52), none, .mv (.t 2)⟩,
    ⟨(some 53), none, .mv (.t 6)⟩,
    ⟨(some 54), none, .call (.c (.func (.func 7) [] [])) [(.t 52), (.t 53)]⟩,
    ⟨(some 51), none, .mv (.t 54)⟩,
    ⟨(some 55), none, .extract 0 (.t 51)⟩,
    ⟨(some 56), none, .extract 1 (.t 51)⟩,
    ⟨(some 10), none, .mv (.t 55)⟩,
    ⟨(some 11), none, .mv (.t 56)⟩])
  (.seq (.ops [⟨(some 58), none, .mv (.t 2)⟩,
    ⟨(some 59), none, .mv (.t 8)⟩,
    ⟨(some 60), none, .call (.c (.func (.func 7) [] [])) [(.t 58), (.t 59)]⟩,
    ⟨(some 57), none, .mv (.t 60)⟩,
    ⟨(some 61), none, .extract 0 (.t 57)⟩,
    ⟨(some 62), none, .extract 1 (.t 57)⟩,
    ⟨(some 12), none, .mv (.t 61)⟩,
    ⟨(some 13), none, .mv (.t 62)⟩])
  (.seq (.ops [⟨(some 64), none, .mv (.t 2)⟩,
    ⟨(some 65), none, .mv (.t 6)⟩,
    ⟨(some 66), none, .call (.c (.func (.func 7) [] [])) [(.t 64), (.t 65)]⟩,
    ⟨(some 63), none, .mv (.t 66)⟩,
    ⟨(some 67), none, .extract 0 (.t 63)⟩,
    ⟨(some 68), none, .extract 1 (.t 63)⟩,
    ⟨(some 14), none, .mv (.t 67)⟩,
    ⟨(some 15), none, .mv (.t 68)⟩])
  (.seq (.ops [⟨(some 70), none, .mv (.t 2)⟩,
    ⟨(some 71), none, .call (.c (.func (.func 9) [] [])) [(.t 70)]⟩,
    ⟨(some 69), none, .mv (.t 71)⟩,
    ⟨(some 72), none, .extract 0 (.t 69)⟩,
    ⟨(some 73), none, .extract 1 (.t 69)⟩,
    ⟨(some 74), none, .extract 2 (.t 69)⟩,
    ⟨(some 16), none, .mv (.t 72)⟩,
    ⟨(some 17), none, .mv (.t 73)⟩,
    ⟨(some 18), none, .mv (.t 74)⟩])
  (.seq (.ops [⟨(some 76), none, .mv (.t 2)⟩,
    ⟨(some 77), none, .call (.c (.func (.func 7) [] [])) [(.t 76), (.c (.str [106, 117, 110, 107]))]⟩,
    ⟨(some 75), none, .mv (.t 77)⟩,
    ⟨(some 78), none, .extract 0 (.t 75)⟩,
    ⟨(some 79), none, .extract 1 (.t 75)⟩,
    ⟨(some 19), none, .mv (.t 78)⟩,
    ⟨(some 20), none, .mv (.t 79)⟩])
  (.seq (.ops [⟨(some 81), none, .mv (.t 6)⟩,
    ⟨(some 82), none, .call (.c (.func (.func 26) [] [])) [(.t 81)]⟩,
    ⟨(some 80), none, .mv (.t 82)⟩,
    ⟨(some 83), none, .extract 0 (.t 80)⟩,
    ⟨(some 84), none, .extract 1 (.t 80)⟩,
    ⟨(some 21), none, .alloc none [(.slice none 0 0), (.int .i64 (0)), (.int .i64 (0)), (.str [])]⟩,
    ⟨none, none, .store 4 (.t 21) (.t 83)⟩,
    ⟨(some 22), none, .mv (.t 84)⟩])
  (.seq (.ops [⟨(some 86), none, .build [(.bool false), (.bool false), (.int .i64 (0)), (.int .i64 (0)), (.int .i64 (0))] []⟩,
    ⟨(some 87), none, .call (.c (.func (.func 25) [] [])) [(.c (.ptr none)), (.t 86), (.c (.slice none 0 0)), (.c (.int .i64 (0)))]⟩,
    ⟨(some 85), none, .mv (.t 87)⟩,
    ⟨(some 88), none, .extract 0 (.t 85)⟩,
    ⟨(some 89), none, .extract 1 (.t 85)⟩,
    ⟨(some 23), none, .mv (.t 88)⟩,
    ⟨(some 24), none, .mv (.t 89)⟩])
  (.seq (.ops [⟨(some 90), none, .mv (.t 3)⟩,
    ⟨(some 91), none, .bin .eql (.t 90) (.c (.int .i64 (0)))⟩,
    ⟨(some 92), none, .mv (.t 91)⟩,
    ⟨(some 93), (some (92, true)), .mv (.t 4)⟩,
    ⟨(some 94), (some (92, true)), .bin .eql (.t 93) (.c (.int .i64 (5)))⟩,
    ⟨(some 95), none, .pick (.t 92) (.t 94) (.c (.bool false))⟩,
    ⟨(some 96), none, .mv (.t 95)⟩,
    ⟨(some 97), (some (96, true)), .mv (.t 5)⟩,
    ⟨(some 98), (some (96, true)), .bin .eql (.t 97) (.c (.int .i64 (12)))⟩,
    ⟨(some 99), none, .pick (.t 96) (.t 98) (.c (.bool false))⟩,
    ⟨(some 100), none, .mv (.t 99)⟩,
    ⟨(some 101), (some (100, true)), .mv (.t 7)⟩,
    ⟨(some 102), (some (100, true)), .bin .eql (.t 101) (.c (.int .i64 (0)))⟩,
    ⟨(some 103), none, .pick (.t 100) (.t 102) (.c (.bool false))⟩,
    ⟨(some 104), none, .mv (.t 103)⟩,
    ⟨(some 105), (some (104, true)), .mv (.t 9)⟩,
    ⟨(some 106), (some (104, true)), .bin .eql (.t 105) (.c (.int .i64 (0)))⟩,
    ⟨(some 107), none, .pick (.t 104) (.t 106) (.c (.bool false))⟩,
    ⟨(some 108), none, .mv (.t 107)⟩,
    ⟨(some 109), (some (108, true)), .mv (.t 10)⟩,
    ⟨(some 110), (some (108, true)), .bin .eql (.t 109) (.c (.str [110, 111, 100, 101]))⟩,
    ⟨(some 111), none, .pick (.t 108) (.t 110) (.c (.bool false))⟩,
    ⟨(some 112), none, .mv (.t 111)⟩,
    ⟨(some 113), (some (112, true)), .mv (.t 11)⟩,
    ⟨(some 114), (some (112, true)), .bin .eql (.t 113) (.c (.int .i64 (0)))⟩,
    ⟨(some 115), none, .pick (.t 112) (.t 114) (.c (.bool false))⟩,
    ⟨(some 116), none, .mv (.t 115)⟩,
    ⟨(some 117), (some (116, true)), .mv (.t 12)⟩,
    ⟨(some 118), (some (116, true)), .bin .eql (.t 117) (.c (.str [100, 97, 116, 97]))⟩,
    ⟨(some 119), none, .pick (.t 116) (.t 118) (.c (.bool false))⟩,
    ⟨(some 120), none, .mv (.t 119)⟩,
    ⟨(some 121), (some (120, true)), .mv (.t 13)⟩,
    ⟨(some 122), (some (120, true)), .bin .eql (.t 121) (.c (.int .i64 (0)))⟩,
    ⟨(some 123), none, .pick (.t 120) (.t 122) (.c (.bool false))⟩,
    ⟨(some 124), none, .mv (.t 123)⟩,
    ⟨(some 125), (some (124, true)), .mv (.t 14)⟩,
    ⟨(some 126), (some (124, true)), .bin .eql (.t 125) (.c (.str [110, 111, 100, 101]))⟩,
    ⟨(some 127), none, .pick (.t 124) (.t 126) (.c (.bool false))⟩,
    ⟨(some 128), none, .mv (.t 127)⟩,
    ⟨(some 129), (some (128, true)), .mv (.t 16)⟩,
    ⟨(some 130), (some (128, true)), .mv (.t 17)⟩,
    ⟨(some 131), (some (128, true)), .bin .add (.t 129) (.t 130)⟩,
    ⟨(some 132), (some (128, true)), .mv (.t 18)⟩,
    ⟨(some 133), (some (128, true)), .bin .add (.t 131) (.t 132)⟩,
    ⟨(some 134), (some (128, true)), .bin .eql (.t 133) (.c (.int .i64 (3)))⟩,
    ⟨(some 135), none, .pick (.t 128) (.t 134) (.c (.bool false))⟩,
    ⟨(some 136), none, .mv (.t 135)⟩,
    ⟨(some 137), (some (136, true)), .mv (.t 20)⟩,
    ⟨(some 138), (some (136, true)), .bin .neq (.t 137) (.c (.int .i64 (0)))⟩,
    ⟨(some 139), none, .pick (.t 136) (.t 138) (.c (.bool false))⟩,
    ⟨(some 140), none, .mv (.t 139)⟩,
    ⟨(some 141), (some (140, true)), .fieldAddr 0 (.t 21)⟩,
    ⟨(some 142), (some (140, true)), .load none (.t 141)⟩,
    ⟨(some 143), (some (140, true)), .lenSl (.t 142)⟩,
    ⟨(some 144), (some (140, true)), .bin .eql (.t 143) (.c (.int .i64 (2)))⟩,
    ⟨(some 145), none, .pick (.t 140) (.t 144) (.c (.bool false))⟩,
    ⟨(some 146), none, .mv (.t 145)⟩,
    ⟨(some 147), (some (146, true)), .fieldAddr 2 (.t 21)⟩,
    ⟨(some 148), (some (146, true)), .load none (.t 147)⟩,
    ⟨(some 149), (some (146, true)), .bin .eql (.t 148) (.c (.int .i64 (7)))⟩,
    ⟨(some 150), none, .pick (.t 146) (.t 149) (.c (.bool false))⟩,
    ⟨(some 151), none, .mv (.t 150)⟩,
    ⟨(some 152), (some (151, true)), .fieldAddr 0 (.t 21)⟩,
    ⟨(some 153), (some (151, true)), .load none (.t 152)⟩,
    ⟨(some 154), (some (151, true)), .idxSl 2 (.t 153) (.c (.int .i64 (0)))⟩,
    ⟨(some 155), (some (151, true)), .load (some 2) (.t 154)⟩,
    ⟨(some 156), (some (151, true)), .build [(.int .i64 (0)), (.int .i64 (0))] [(0, 1, (.c (.int .i64 (1)))), (1, 1, (.c (.int .i64 (4))))]⟩,
    ⟨(some 157), (some (151, true)), .eq false (.struct [(0, none, (.flat .int)), (1, none, (.flat .int))]) (.t 155) (.t 156)⟩,
    ⟨(some 158), none, .pick (.t 151) (.t 157) (.c (.bool false))⟩,
    ⟨(some 159), none, .mv (.t 158)⟩,
    ⟨(some 160), (some (159, true)), .fieldAddr 0 (.t 21)⟩,
    ⟨(some 161), (some (159, true)), .load none (.t 160)⟩,
    ⟨(some 162), (some (159, true)), .idxSl 2 (.t 161) (.c (.int .i64 (1)))⟩,
    ⟨(some 163), (some (159, true)), .load (some 2) (.t 162)⟩,
    ⟨(some 164), (some (159, true)), .build [(.int .i64 (0)), (.int .i64 (0))] [(1, 1, (.c (.int .i64 (5))))]⟩,
    ⟨(some 165), (some (159, true)), .eq false (.struct [(0, none, (.flat .int)), (1, none, (.flat .int))]) (.t 163) (.t 164)⟩,
    ⟨(some 166), none, .pick (.t 159) (.t 165) (.c (.bool false))⟩,
    ⟨(some 167), none, .mv (.t 166)⟩,
    ⟨(some 168), (some (167, true)), .mv (.t 24)⟩,
    ⟨(some 169), (some (167, true)), .bin .eql (.t 168) (.c (.int .i64 (1)))⟩,
    ⟨(some 170), none, .pick (.t 167) (.t 169) (.c (.bool false))⟩,
    ⟨(some 0), none, .mv (.t 170)⟩])
  (.ret)))))))))))))))⟩
theorem a12_ok : funcC Tryz.prog Tryz.f12 = some a12 := by kernel_rfl
/-- (*permafrost/store.Store).choose -/
def a13 : AFunc := ⟨3, [.tmp 6, .tmp 7],
  .seq (.ops [⟨(some 6), none, .mv (.c (.str []))⟩,
    ⟨(some 7), none, .mv (.c (.int .i64 (0)))⟩])
  (.seq (.seq (.ops [⟨(some 12), none, .mv (.t 0)⟩,
    ⟨(some 13), none, .eq false (.flat .ptr) (.t 12) (.c (.ptr none))⟩])
  (.cond (.t 13)
   (.seq (.ops [⟨(some 6), none, .mv (.c (.str []))⟩,
     ⟨(some 7), none, .mv (.c (.int .i64 (1)))⟩])
   (.ret))
   (.skip)))
  (.seq (.ops [⟨(some 15), none, .mv (.t 0)⟩,
    ⟨(some 16), none, .call (.c (.func (.func 8) [] [])) [(.t 15)]⟩,
    ⟨(some 14), none, .mv (.t 16)⟩,
    ⟨(some 17), none, .extract 0 (.t 14)⟩,
    ⟨(some 18), none, .extract 1 (.t 14)⟩,
    ⟨(some 8), none, .mv (.t 17)⟩,
    ⟨(some 9), none, .mv (.t 18)⟩])
  (.seq (.ops [⟨(some 20), none, .mv (.t 0)⟩,
    ⟨(some 21), none, .nilck (.t 20)⟩,
    ⟨(some 22), none, .fieldAddr 1 (.t 21)⟩,
    ⟨(some 23), none, .load (some 5) (.t 22)⟩,
    ⟨(some 24), none, .mv (.t 1)⟩,
    ⟨(some 25), none, .mv (.t 2)⟩,
    ⟨(some 26), none, .lenStr (.t 25)⟩,
    ⟨(some 27), none, .mv (.t 8)⟩,
    ⟨(some 28), none, .mv (.t 9)⟩,
    ⟨(some 29), none, .buildSl [(.int .i64 (0)), (.int .i64 (0))] 2 [(0, 1, (.t 27)), (1, 1, (.t 28))]⟩,
    ⟨(some 30), none, .call (.c (.func (.func 27) [] [])) [(.t 23), (.t 24), (.t 26), (.t 29)]⟩,
    ⟨(some 19), none, .mv (.t 30)⟩,
    ⟨(some 31), none, .extract 0 (.t 19)⟩,
    ⟨(some 32), none, .extract 1 (.t 19)⟩,
    ⟨(some 10), none, .mv (.t 31)⟩,
    ⟨(some 11), none, .mv (.t 32)⟩])
  (.seq (.seq (.ops [⟨(some 33), none, .mv (.t 11)⟩,
    ⟨(some 34), none, .bin .neq (.t 33) (.c (.int .i64 (0)))⟩])
  (.cond (.t 34)
   (.seq (.ops [⟨(some 35), none, .mv (.t 11)⟩,
     ⟨(some 6), none, .mv (.c (.str []))⟩,
     ⟨(some 7), none, .mv (.t 35)⟩])
   (.ret))
   (.skip)))
  (.seq (.ops [⟨(some 36), none, .mv (.t 0)⟩,
    ⟨(some 37), none, .mv (.t 2)⟩,
    ⟨(some 38), none, .mv (.t 10)⟩,
    ⟨(some 39), none, .call (.c (.func (.func 14) [] [])) [(.t 36), (.t 37), (.t 38)]⟩,
    ⟨(some 40), none, .extract 0 (.t 39)⟩,
    ⟨(some 41), none, .extract 1 (.t 39)⟩,
    ⟨(some 6), none, .mv (.t 40)⟩,
    ⟨(some 7), none, .mv (.t 41)⟩])
  (.ret))))))⟩
theorem a13_ok : funcC Tryz.prog Tryz.f13 = some a13 := by kernel_rfl
/-- (*permafrost/store.Store).put -/
def a14 : AFunc := ⟨3, [.tmp 6, .tmp 7],
  .seq (.ops [⟨(some 6), none, .mv (.c (.str []))⟩,
    ⟨(some 7), none, .mv (.c (.int .i64 (0)))⟩])
  (.seq (.ops [⟨(some 8), none, .mv (.c (.slice none 0 0))⟩])
  (.seq (.ops [⟨(some 17), none, .mv (.t 0)⟩,
    ⟨(some 18), none, .nilck (.t 17)⟩,
    ⟨(some 19), none, .fieldAddr 6 (.t 18)⟩,
    ⟨(some 20), none, .load (some 2) (.t 19)⟩,
    ⟨(some 9), none, .alloc none [(.slice none 0 0), (.slice none 0 0)]⟩,
    ⟨none, none, .store 2 (.t 9) (.t 20)⟩])
  (.seq (.seq (.ops [⟨(some 21), none, .mv (.t 2)⟩,
    ⟨(some 22), none, .lenSl (.t 21)⟩,
    ⟨(some 23), none, .mv (.c (.int .i64 (0)))⟩])
  (.block 0 (.loop (.seq (.ops [⟨(some 24), none, .bin .lss (.t 23) (.t 22)⟩])
    (.seq (.cond (.t 24)
     (.skip)
     (.exit 0))
    (.seq (.block 1 (.seq (.ops [⟨(some 25), none, .idxSl 1 (.t 21) (.t 23)⟩,
       ⟨(some 26), none, .load none (.t 25)⟩,
       ⟨(some 11), none, .mv (.t 26)⟩])
     (.seq (.ops [⟨(some 28), none, .mv (.t 11)⟩,
       ⟨(some 29), none, .idxArr 2 1 (.t 9) (.t 28)⟩,
       ⟨(some 30), none, .load none (.t 29)⟩,
       ⟨(some 31), none, .call (.c (.func (.func 28) [] [])) [(.t 30), (.c (.int .i64 (1)))]⟩,
       ⟨(some 27), none, .mv (.t 31)⟩,
       ⟨(some 32), none, .extract 0 (.t 27)⟩,
       ⟨(some 33), none, .extract 1 (.t 27)⟩,
       ⟨(some 34), none, .extract 2 (.t 27)⟩,
       ⟨(some 12), none, .mv (.t 32)⟩,
       ⟨(some 13), none, .mv (.t 33)⟩,
       ⟨(some 14), none, .mv (.t 34)⟩])
     (.seq (.seq (.ops [⟨(some 35), none, .mv (.t 14)⟩,
       ⟨(some 36), none, .not (.t 35)⟩,
       ⟨(some 37), none, .mv (.t 36)⟩,
       ⟨(some 38), (some (37, false)), .mv (.t 0)⟩,
       ⟨(some 39), (some (37, false)), .nilck (.t 38)⟩,
       ⟨(some 40), (some (37, false)), .fieldAddr 0 (.t 39)⟩,
       ⟨(some 41), (some (37, false)), .load none (.t 40)⟩,
       ⟨(some 42), (some (37, false)), .mv (.t 11)⟩,
       ⟨(some 43), (some (37, false)), .call (.c (.func (.func 29) [] [])) [(.t 41), (.t 42)]⟩,
       ⟨(some 44), none, .pick (.t 37) (.c (.bool true)) (.t 43)⟩])
     (.cond (.t 44)
      (.seq (.ops [⟨(some 6), none, .mv (.c (.str []))⟩,
        ⟨(some 7), none, .mv (.c (.int .i64 (6)))⟩])
      (.ret))
      (.skip)))
     (.ops [⟨(some 45), none, .mv (.t 11)⟩,
       ⟨(some 46), none, .mv (.t 8)⟩,
       ⟨(some 47), none, .mv (.t 11)⟩,
       ⟨(some 48), none, .mv (.t 12)⟩,
       ⟨(some 49), none, .build [(.int .i64 (0)), (.int .i64 (0))] [(0, 1, (.t 47)), (1, 1, (.t 48))]⟩,
       ⟨(some 50), none, .buildSl [(.int .i64 (0)), (.int .i64 (0))] 1 [(0, 2, (.t 49))]⟩,
       ⟨(some 51), none, .append 2 16 none (.t 46) (.t 50)⟩,
       ⟨(some 52), none, .mv (.t 13)⟩,
       ⟨(some 8), none, .mv (.t 51)⟩,
       ⟨(some 53), none, .idxArr 2 1 (.t 9) (.t 45)⟩,
       ⟨none, none, .store 1 (.t 53) (.t 52)⟩])))))
    (.ops [⟨(some 54), none, .bin .add (.t 23) (.c (.int .i64 (1)))⟩,
      ⟨(some 23), none, .mv (.t 54)⟩])))))))
  (.seq (.draw [⟨⟨(some 56), none, .mv (.t 0)⟩, 0, []⟩,
    ⟨⟨(some 57), none, .nilck (.t 56)⟩, 1, [0]⟩,
    ⟨⟨(some 58), none, .fieldAddr 0 (.t 57)⟩, 2, [0, 1]⟩,
    ⟨⟨(some 59), none, .load none (.t 58)⟩, 3, [0, 1, 2]⟩,
    ⟨⟨(some 60), none, .mv (.t 8)⟩, 4, []⟩,
    ⟨⟨(some 61), none, .mv (.t 1)⟩, 5, []⟩,
    ⟨⟨(some 62), none, .mv (.t 0)⟩, 6, []⟩,
    ⟨⟨(some 63), none, .nilck (.t 62)⟩, 7, [6]⟩,
    ⟨⟨(some 64), none, .fieldAddr 8 (.t 63)⟩, 8, [6, 7]⟩,
    ⟨⟨(some 65), none, .load none (.t 64)⟩, 9, [6, 7, 8]⟩,
    ⟨⟨(some 15), none, .alloc none [(.slice none 0 0), (.int .i64 (0)), (.int .i64 (0)), (.str [])]⟩, 14, []⟩,
    ⟨⟨(some 66), none, .call (.c (.func (.func 30) [] [])) [(.t 59), (.t 60), (.t 61), (.t 65)]⟩, 10, [0, 1, 2, 3, 4, 5, 6, 7, 8, 9]⟩,
    ⟨⟨(some 55), none, .mv (.t 66)⟩, 11, [0, 1, 2, 3, 4, 5, 6, 7, 8, 9, 11]⟩,
    ⟨⟨(some 67), none, .extract 0 (.t 55)⟩, 12, [0, 1, 2, 3, 4, 5, 6, 7, 8, 9, 11, 12]⟩,
    ⟨⟨(some 68), none, .extract 1 (.t 55)⟩, 13, [0, 1, 2, 3, 4, 5, 6, 7, 8, 9, 11, 12]⟩,
    ⟨⟨none, none, .store 4 (.t 15) (.t 67)⟩, 15, [0, 1, 2, 3, 4, 5, 6, 7, 8, 9, 10, 11, 12, 13]⟩,
    ⟨⟨(some 16), none, .mv (.t 68)⟩, 16, [0, 1, 2, 3, 4, 5, 6, 7, 8, 9, 10, 11, 12, 13, 14, 15]⟩])
  (.seq (.seq (.ops [⟨(some 69), none, .mv (.t 16)⟩,
    ⟨(some 70), none, .bin .neq (.t 69) (.c (.int .i64 (0)))⟩])
  (.cond (.t 70)
   (.seq (.ops [⟨(some 71), none, .mv (.t 16)⟩,
     ⟨(some 6), none, .mv (.c (.str []))⟩,
     ⟨(some 7), none, .mv (.t 71)⟩])
   (.ret))
   (.skip)))
  (.seq (.ops [⟨(some 72), none, .mv (.t 0)⟩,
    ⟨(some 73), none, .load (some 2) (.t 9)⟩,
    ⟨(some 74), none, .nilck (.t 72)⟩,
    ⟨(some 75), none, .fieldAddr 6 (.t 74)⟩,
    ⟨none, none, .store 2 (.t 75) (.t 73)⟩])
  (.seq (.ops [⟨(some 76), none, .load (some 4) (.t 15)⟩,
    ⟨(some 77), none, .call (.c (.func (.func 31) [] [])) [(.t 76)]⟩,
    ⟨(some 78), none, .extract 0 (.t 77)⟩,
    ⟨(some 79), none, .extract 1 (.t 77)⟩,
    ⟨(some 6), none, .mv (.t 78)⟩,
    ⟨(some 7), none, .mv (.t 79)⟩])
  (.ret))))))))⟩
theorem a14_ok : funcC Tryz.prog Tryz.f14 = some a14 := by kernel_rfl
/-- permafrost/ptr.Decode -/
def a15 : AFunc := ⟨1, [.cell 2 (some 4), .tmp 3],
  .seq (.ops [⟨(some 2), none, .alloc none [(.slice none 0 0), (.int .i64 (0)), (.int .i64 (0)), (.str [])]⟩,
    ⟨(some 3), none, .mv (.c (.int .i64 (0)))⟩])
  (.seq (.ops [⟨(some 8), none, .mv (.t 0)⟩,
    ⟨(some 9), none, .call (.c (.func (.func 32) [] [])) [(.t 8)]⟩,
    ⟨(some 4), none, .mv (.t 9)⟩])
  (.seq (.ops [⟨(some 10), none, .mv (.t 4)⟩,
    ⟨(some 11), none, .call (.c (.func (.func 33) [] [])) [(.t 10), (.c (.int .i64 (1)))]⟩,
    ⟨(some 5), none, .mv (.t 11)⟩])
  (.seq (.seq (.ops [⟨(some 12), none, .mv (.t 0)⟩,
    ⟨(some 13), none, .bin .neq (.t 12) (.c (.str []))⟩,
    ⟨(some 14), none, .mv (.t 13)⟩,
    ⟨(some 15), (some (14, true)), .mv (.t 5)⟩,
    ⟨(some 16), (some (14, true)), .bin .lss (.t 15) (.c (.int .i64 (1)))⟩,
    ⟨(some 17), (some (14, true)), .mv (.t 16)⟩,
    ⟨(some 18), (some (17, false)), .mv (.t 5)⟩,
    ⟨(some 19), (some (17, false)), .bin .gtr (.t 18) (.c (.int .i64 (2)))⟩,
    ⟨(some 20), (some (14, true)), .pick (.t 17) (.c (.bool true)) (.t 19)⟩,
    ⟨(some 21), none, .pick (.t 14) (.t 20) (.c (.bool false))⟩])
  (.cond (.t 21)
   (.seq (.ops [⟨(some 22), none, .build [(.slice none 0 0), (.int .i64 (0)), (.int .i64 (0)), (.str [])] []⟩,
     ⟨none, none, .store 4 (.t 2) (.t 22)⟩,
     ⟨(some 3), none, .mv (.c (.int .i64 (3)))⟩])
   (.ret))
   (.skip)))
  (.seq (.ops [⟨(some 6), none, .alloc none [(.slice none 0 0), (.int .i64 (0)), (.int .i64 (0)), (.str [])]⟩])
  (.seq (.seq (.ops [⟨(some 23), none, .mv (.t 5)⟩,
    ⟨(some 24), none, .mv (.c (.int .i64 (0)))⟩])
  (.block 0 (.loop (.seq (.ops [⟨(some 25), none, .bin .lss (.t 24) (.t 23)⟩])
    (.seq (.cond (.t 25)
     (.skip)
     (.exit 0))
    (.seq (.block 1 (.draw [⟨⟨(some 26), none, .fieldAddr 0 (.t 6)⟩, 0, []⟩,
       ⟨⟨(some 27), none, .load none (.t 26)⟩, 1, [0]⟩,
       ⟨⟨(some 28), none, .mv (.t 4)⟩, 2, []⟩,
       ⟨⟨(some 30), none, .mv (.t 4)⟩, 4, []⟩,
       ⟨⟨(some 29), none, .call (.c (.func (.func 33) [] [])) [(.t 28), (.c (.int .i64 (1)))]⟩, 3, [2]⟩,
       ⟨⟨(some 31), none, .call (.c (.func (.func 33) [] [])) [(.t 30), (.c (.int .i64 (2)))]⟩, 5, [2, 3, 4]⟩,
       ⟨⟨(some 32), none, .build [(.int .i64 (0)), (.int .i64 (0))] [(0, 1, (.t 29)), (1, 1, (.t 31))]⟩, 6, [2, 3, 4, 5]⟩,
       ⟨⟨(some 33), none, .buildSl [(.int .i64 (0)), (.int .i64 (0))] 1 [(0, 2, (.t 32))]⟩, 7, [2, 3, 4, 5, 6]⟩,
       ⟨⟨(some 34), none, .append 2 16 none (.t 27) (.t 33)⟩, 8, [0, 1, 2, 3, 4, 5, 6, 7]⟩,
       ⟨⟨(some 35), none, .fieldAddr 0 (.t 6)⟩, 9, [0, 1, 2, 3, 4, 5, 6, 7, 8]⟩,
       ⟨⟨none, none, .store 1 (.t 35) (.t 34)⟩, 10, [0, 1, 2, 3, 4, 5, 6, 7, 8, 9]⟩]))
    (.ops [⟨(some 36), none, .bin .add (.t 24) (.c (.int .i64 (1)))⟩,
      ⟨(some 24), none, .mv (.t 36)⟩])))))))
  (.seq (.ops [⟨(some 37), none, .mv (.t 4)⟩,
    ⟨(some 38), none, .call (.c (.func (.func 33) [] [])) [(.t 37), (.c (.int .i64 (2)))]⟩,
    ⟨(some 39), none, .mv (.t 4)⟩,
    ⟨(some 40), none, .call (.c (.func (.func 33) [] [])) [(.t 39), (.c (.int .i64 (6)))]⟩,
    ⟨(some 41), none, .mv (.t 4)⟩,
    ⟨(some 42), none, .call (.c (.func (.func 34) [] [])) [(.t 41), (.c (.int .i64 (32)))]⟩,
    ⟨(some 43), none, .fieldAddr 1 (.t 6)⟩,
    ⟨none, none, .store 1 (.t 43) (.t 38)⟩,
    ⟨(some 44), none, .fieldAddr 2 (.t 6)⟩,
    ⟨none, none, .store 1 (.t 44) (.t 40)⟩,
    ⟨(some 45), none, .fieldAddr 3 (.t 6)⟩,
    ⟨none, none, .store 1 (.t 45) (.t 42)⟩])
  (.seq (.seq (.ops [⟨(some 46), none, .mv (.t 4)⟩,
    ⟨(some 47), none, .call (.c (.func (.func 35) [] [])) [(.t 46)]⟩,
    ⟨(some 7), none, .mv (.t 47)⟩])
  (.seq (.ops [⟨(some 48), none, .mv (.t 7)⟩,
    ⟨(some 49), none, .bin .neq (.t 48) (.c (.int .i64 (0)))⟩])
  (.cond (.t 49)
   (.seq (.ops [⟨(some 50), none, .build [(.slice none 0 0), (.int .i64 (0)), (.int .i64 (0)), (.str [])] []⟩,
     ⟨(some 51), none, .mv (.t 7)⟩,
     ⟨none, none, .store 4 (.t 2) (.t 50)⟩,
     ⟨(some 3), none, .mv (.t 51)⟩])
   (.ret))
   (.skip))))
  (.seq (.seq (.ops [⟨(some 52), none, .load (some 4) (.t 6)⟩,
    ⟨(some 53), none, .call (.c (.func (.func 36) [] [])) [(.t 52)]⟩,
    ⟨(some 54), none, .bin .neq (.t 53) (.c (.int .i64 (0)))⟩])
  (.cond (.t 54)
   (.seq (.ops [⟨(some 55), none, .build [(.slice none 0 0), (.int .i64 (0)), (.int .i64 (0)), (.str [])] []⟩,
     ⟨none, none, .store 4 (.t 2) (.t 55)⟩,
     ⟨(some 3), none, .mv (.c (.int .i64 (3)))⟩])
   (.ret))
   (.skip)))
  (.seq (.ops [⟨(some 56), none, .load (some 4) (.t 6)⟩,
    ⟨none, none, .store 4 (.t 2) (.t 56)⟩,
    ⟨(some 3), none, .mv (.c (.int .i64 (0)))⟩])
  (.ret))))))))))⟩
theorem a15_ok : funcC Tryz.prog Tryz.f15 = some a15 := by kernel_rfl
/-- (*permafrost/store.Store).fromMemory -/
def a16 : AFunc := ⟨2, [.tmp 4, .tmp 5],
  .seq (.ops [⟨(some 4), none, .mv (.c (.str []))⟩,
    ⟨(some 5), none, .mv (.c (.bool false))⟩])
  (.seq (.ops [⟨(some 9), none, .mv (.t 0)⟩,
    ⟨(some 10), none, .nilck (.t 9)⟩,
    ⟨(some 11), none, .fieldAddr 10 (.t 10)⟩,
    ⟨(some 12), none, .load none (.t 11)⟩,
    ⟨(some 13), none, .mv (.t 1)⟩,
    ⟨(some 14), none, .lookup .str (.str []) true (.t 12) (.t 13)⟩,
    ⟨(some 8), none, .mv (.t 14)⟩,
    ⟨(some 15), none, .extract 0 (.t 8)⟩,
    ⟨(some 16), none, .extract 1 (.t 8)⟩,
    ⟨(some 6), none, .mv (.t 15)⟩,
    ⟨(some 7), none, .mv (.t 16)⟩])
  (.seq (.ops [⟨(some 17), none, .mv (.t 6)⟩,
    ⟨(some 18), none, .mv (.t 7)⟩,
    ⟨(some 4), none, .mv (.t 17)⟩,
    ⟨(some 5), none, .mv (.t 18)⟩])
  (.ret)))⟩
theorem a16_ok : funcC Tryz.prog Tryz.f16 = some a16 := by kernel_rfl
/-- (*permafrost/store.Store).fromSecond -/
def a17 : AFunc := ⟨2, [.tmp 4, .tmp 5],
  .seq (.ops [⟨(some 4), none, .mv (.c (.str []))⟩,
    ⟨(some 5), none, .mv (.c (.bool false))⟩])
  (.seq (.ops [⟨(some 6), none, .mv (.t 0)⟩,
    ⟨(some 7), none, .nilck (.t 6)⟩,
    ⟨(some 8), none, .fieldAddr 11 (.t 7)⟩,
    ⟨(some 9), none, .load none (.t 8)⟩,
    ⟨(some 10), none, .mv (.t 1)⟩,
    ⟨(some 11), none, .call (.c (.func (.func 37) [] [])) [(.t 9), (.t 10)]⟩,
    ⟨(some 12), none, .extract 0 (.t 11)⟩,
    ⟨(some 13), none, .extract 1 (.t 11)⟩,
    ⟨(some 4), none, .mv (.t 12)⟩,
    ⟨(some 5), none, .mv (.t 13)⟩])
  (.ret))⟩
theorem a17_ok : funcC Tryz.prog Tryz.f17 = some a17 := by kernel_rfl
/-- (*permafrost/store.Store).fromHome -/
def a18 : AFunc := ⟨2, [.tmp 4, .tmp 5],
  .seq (.ops [⟨(some 4), none, .mv (.c (.str []))⟩,
    ⟨(some 5), none, .mv (.c (.bool false))⟩])
  (.seq (.ops [⟨(some 12), none, .mv (.t 1)⟩,
    ⟨(some 13), none, .call (.c (.func (.func 15) [] [])) [(.t 12)]⟩,
    ⟨(some 11), none, .mv (.t 13)⟩,
    ⟨(some 14), none, .extract 0 (.t 11)⟩,
    ⟨(some 15), none, .extract 1 (.t 11)⟩,
    ⟨(some 6), none, .alloc none [(.slice none 0 0), (.int .i64 (0)), (.int .i64 (0)), (.str [])]⟩,
    ⟨none, none, .store 4 (.t 6) (.t 14)⟩,
    ⟨(some 7), none, .mv (.t 15)⟩])
  (.seq (.draw [⟨⟨(some 17), none, .mv (.t 0)⟩, 0, []⟩,
    ⟨⟨(some 18), none, .nilck (.t 17)⟩, 1, [0]⟩,
    ⟨⟨(some 19), none, .fieldAddr 0 (.t 18)⟩, 2, [0, 1]⟩,
    ⟨⟨(some 20), none, .load none (.t 19)⟩, 3, [0, 1, 2]⟩,
    ⟨⟨(some 21), none, .load (some 4) (.t 6)⟩, 4, []⟩,
    ⟨⟨(some 22), none, .call (.c (.func (.func 38) [] [])) [(.t 20), (.t 21)]⟩, 5, [0, 1, 2, 3, 4]⟩,
    ⟨⟨(some 16), none, .mv (.t 22)⟩, 6, [0, 1, 2, 3, 4, 5]⟩,
    ⟨⟨(some 23), none, .extract 0 (.t 16)⟩, 7, [0, 1, 2, 3, 4, 5, 6]⟩,
    ⟨⟨(some 24), none, .extract 1 (.t 16)⟩, 8, [0, 1, 2, 3, 4, 5, 6]⟩,
    ⟨⟨(some 25), none, .extract 2 (.t 16)⟩, 9, [0, 1, 2, 3, 4, 5, 6]⟩,
    ⟨⟨(some 8), none, .mv (.t 23)⟩, 10, [0, 1, 2, 3, 4, 5, 6, 7]⟩,
    ⟨⟨(some 9), none, .mv (.t 24)⟩, 11, [0, 1, 2, 3, 4, 5, 6, 7, 8, 10]⟩,
    ⟨⟨(some 10), none, .mv (.t 25)⟩, 12, [0, 1, 2, 3, 4, 5, 6, 7, 8, 9, 10, 11]⟩])
  (.seq (.ops [⟨(some 26), none, .mv (.t 8)⟩,
    ⟨(some 27), none, .mv (.t 10)⟩,
    ⟨(some 28), none, .bin .eql (.t 27) (.c (.int .i64 (0)))⟩,
    ⟨(some 4), none, .mv (.t 26)⟩,
    ⟨(some 5), none, .mv (.t 28)⟩])
  (.ret))))⟩
theorem a18_ok : funcC Tryz.prog Tryz.f18 = some a18 := by kernel_rfl
/-- (*permafrost/store.Store).keep -/
def a19 : AFunc := ⟨3, [],
  .seq (.seq (.ops [⟨(some 8), none, .mv (.t 0)⟩,
    ⟨(some 9), none, .nilck (.t 8)⟩,
    ⟨(some 10), none, .fieldAddr 9 (.t 9)⟩,
    ⟨(some 11), none, .load none (.t 10)⟩,
    ⟨(some 12), none, .eq false (.flat .ptr) (.t 11) (.c (.ptr none))⟩])
  (.cond (.t 12)
   (.ret)
   (.skip)))
  (.seq (.seq (.ops [⟨(some 14), none, .mv (.t 0)⟩,
    ⟨(some 15), none, .nilck (.t 14)⟩,
    ⟨(some 16), none, .fieldAddr 9 (.t 15)⟩,
    ⟨(some 17), none, .load none (.t 16)⟩,
    ⟨(some 18), none, .mv (.t 1)⟩,
    ⟨(some 19), none, .call (.c (.func (.func 39) [] [])) [(.t 17), (.t 18)]⟩,
    ⟨(some 13), none, .mv (.t 19)⟩,
    ⟨(some 20), none, .extract 0 (.t 13)⟩,
    ⟨(some 21), none, .extract 1 (.t 13)⟩,
    ⟨(some 6), none, .mv (.t 20)⟩,
    ⟨(some 7), none, .mv (.t 21)⟩])
  (.seq (.ops [⟨(some 22), none, .mv (.t 7)⟩,
    ⟨(some 23), none, .bin .neq (.t 22) (.c (.str []))⟩])
  (.cond (.t 23)
   (.seq (.draw [⟨⟨(some 24), none, .mv (.t 0)⟩, 0, []⟩,
     ⟨⟨(some 25), none, .nilck (.t 24)⟩, 1, [0]⟩,
     ⟨⟨(some 26), none, .fieldAddr 11 (.t 25)⟩, 2, [0, 1]⟩,
     ⟨⟨(some 27), none, .load none (.t 26)⟩, 3, [0, 1, 2]⟩,
     ⟨⟨(some 28), none, .mv (.t 7)⟩, 4, []⟩,
     ⟨⟨(some 29), none, .mv (.t 0)⟩, 5, []⟩,
     ⟨⟨(some 30), none, .nilck (.t 29)⟩, 6, [5]⟩,
     ⟨⟨(some 31), none, .fieldAddr 10 (.t 30)⟩, 7, [5, 6]⟩,
     ⟨⟨(some 32), none, .load none (.t 31)⟩, 8, [5, 6, 7]⟩,
     ⟨⟨(some 33), none, .mv (.t 7)⟩, 9, []⟩,
     ⟨⟨(some 34), none, .lookup .str (.str []) false (.t 32) (.t 33)⟩, 10, [5, 6, 7, 8, 9]⟩,
     ⟨⟨(some 35), none, .call (.c (.func (.func 40) [] [])) [(.t 27), (.t 28), (.t 34)]⟩, 11, [0, 1, 2, 3, 4, 5, 6, 7, 8, 9, 10]⟩])
   (.ops [⟨(some 36), none, .mv (.t 0)⟩,
     ⟨(some 37), none, .nilck (.t 36)⟩,
     ⟨(some 38), none, .fieldAddr 10 (.t 37)⟩,
     ⟨(some 39), none, .load none (.t 38)⟩,
     ⟨(some 40), none, .mv (.t 7)⟩,
     ⟨none, none, .mapDel .str (.t 39) (.t 40)⟩]))
   (.skip))))
  (.ops [⟨(some 41), none, .mv (.t 0)⟩,
    ⟨(some 42), none, .nilck (.t 41)⟩,
    ⟨(some 43), none, .fieldAddr 10 (.t 42)⟩,
    ⟨(some 44), none, .load none (.t 43)⟩,
    ⟨(some 45), none, .mv (.t 1)⟩,
    ⟨(some 46), none, .mv (.t 2)⟩,
    ⟨none, none, .mapUpd .str (.t 44) (.t 45) (.t 46)⟩]))⟩
theorem a19_ok : funcC Tryz.prog Tryz.f19 = some a19 := by kernel_rfl
/-- (*permafrost/store.Store).room -/
def a20 : AFunc := ⟨2, [.tmp 4],
  .seq (.ops [⟨(some 4), none, .mv (.c (.int .i64 (0)))⟩])
  (.seq (.seq (.ops [⟨(some 5), none, .mv (.t 0)⟩,
    ⟨(some 6), none, .nilck (.t 5)⟩,
    ⟨(some 7), none, .fieldAddr 0 (.t 6)⟩,
    ⟨(some 8), none, .load none (.t 7)⟩,
    ⟨(some 9), none, .mv (.t 1)⟩,
    ⟨(some 10), none, .call (.c (.func (.func 29) [] [])) [(.t 8), (.t 9)]⟩])
  (.cond (.t 10)
   (.seq (.ops [⟨(some 4), none, .mv (.c (.int .i64 (0)))⟩])
   (.ret))
   (.skip)))
  (.seq (.ops [⟨(some 11), none, .mv (.t 0)⟩,
    ⟨(some 12), none, .mv (.t 1)⟩,
    ⟨(some 13), none, .nilck (.t 11)⟩,
    ⟨(some 14), none, .fieldAddr 6 (.t 13)⟩,
    ⟨(some 15), none, .idxArr 2 1 (.t 14) (.t 12)⟩,
    ⟨(some 16), none, .load none (.t 15)⟩,
    ⟨(some 17), none, .call (.c (.func (.func 41) [] [])) [(.t 16)]⟩,
    ⟨(some 4), none, .mv (.t 17)⟩])
  (.ret)))⟩
theorem a20_ok : funcC Tryz.prog Tryz.f20 = some a20 := by kernel_rfl
/-- (*permafrost/dev.Devs).Size -/
def a21 : AFunc := ⟨2, [.tmp 4],
  .seq (.ops [⟨(some 4), none, .mv (.c (.int .i64 (0)))⟩])
  (.seq (.seq (.ops [⟨(some 5), none, .mv (.t 0)⟩,
    ⟨(some 6), none, .mv (.t 1)⟩,
    ⟨(some 7), none, .call (.c (.func (.func 42) [] [])) [(.t 5), (.t 6)]⟩,
    ⟨(some 8), none, .not (.t 7)⟩])
  (.cond (.t 8)
   (.seq (.ops [⟨(some 4), none, .mv (.c (.int .i64 (0)))⟩])
   (.ret))
   (.skip)))
  (.seq (.ops [⟨(some 9), none, .mv (.t 0)⟩,
    ⟨(some 10), none, .mv (.t 1)⟩,
    ⟨(some 11), none, .nilck (.t 9)⟩,
    ⟨(some 12), none, .fieldAddr 0 (.t 11)⟩,
    ⟨(some 13), none, .idxArr 2 1 (.t 12) (.t 10)⟩,
    ⟨(some 14), none, .load none (.t 13)⟩,
    ⟨(some 15), none, .lenSl (.t 14)⟩,
    ⟨(some 4), none, .mv (.t 15)⟩])
  (.ret)))⟩
theorem a21_ok : funcC Tryz.prog Tryz.f21 = some a21 := by kernel_rfl
/-- (*permafrost/store.Store).region -/
def a22 : AFunc := ⟨1, [.tmp 2],
  .seq (.ops [⟨(some 2), none, .mv (.c (.int .i64 (0)))⟩])
  (.seq (.seq (.ops [⟨(some 4), none, .mv (.t 0)⟩,
    ⟨(some 5), none, .nilck (.t 4)⟩,
    ⟨(some 6), none, .fieldAddr 1 (.t 5)⟩,
    ⟨(some 7), none, .fieldAddr 4 (.t 6)⟩,
    ⟨(some 8), none, .load none (.t 7)⟩,
    ⟨(some 3), none, .mv (.t 8)⟩])
  (.seq (.ops [⟨(some 9), none, .mv (.t 3)⟩,
    ⟨(some 10), none, .bin .geq (.t 9) (.c (.int .i64 (2)))⟩,
    ⟨(some 11), none, .mv (.t 10)⟩,
    ⟨(some 12), (some (11, true)), .mv (.t 3)⟩,
    ⟨(some 13), (some (11, true)), .mv (.t 0)⟩,
    ⟨(some 14), (some (11, true)), .nilck (.t 13)⟩,
    ⟨(some 15), (some (11, true)), .fieldAddr 0 (.t 14)⟩,
    ⟨(some 16), (some (11, true)), .load none (.t 15)⟩,
    ⟨(some 17), (some (11, true)), .call (.c (.func (.func 21) [] [])) [(.t 16), (.c (.int .i64 (1)))]⟩,
    ⟨(some 18), (some (11, true)), .bin .sub (.t 17) (.c (.int .i64 (4)))⟩,
    ⟨(some 19), (some (11, true)), .bin .leq (.t 12) (.t 18)⟩,
    ⟨(some 20), none, .pick (.t 11) (.t 19) (.c (.bool false))⟩])
  (.cond (.t 20)
   (.seq (.ops [⟨(some 21), none, .mv (.t 3)⟩,
     ⟨(some 2), none, .mv (.t 21)⟩])
   (.ret))
   (.skip))))
  (.seq (.ops [⟨(some 2), none, .mv (.c (.int .i64 (0)))⟩])
  (.ret)))⟩
theorem a22_ok : funcC Tryz.prog Tryz.f22 = some a22 := by kernel_rfl
/-- permafrost/space.Of -/
def a23 : AFunc := ⟨1, [.tmp 2],
  .seq (.ops [⟨(some 2), none, .mv (.c (.slice none 0 0))⟩])
  (.seq (.ops [⟨(some 3), none, .mv (.c (.slice none 0 0))⟩])
  (.seq (.seq (.ops [⟨(some 7), none, .mv (.t 0)⟩,
    ⟨(some 8), none, .lenSl (.t 7)⟩,
    ⟨(some 9), none, .mv (.c (.int .i64 (0)))⟩])
  (.block 0 (.loop (.seq (.ops [⟨(some 10), none, .bin .lss (.t 9) (.t 8)⟩])
    (.seq (.cond (.t 10)
     (.skip)
     (.exit 0))
    (.seq (.block 1 (.seq (.ops [⟨(some 11), none, .mv (.t 9)⟩,
       ⟨(some 12), none, .idxSl 1 (.t 7) (.t 9)⟩,
       ⟨(some 13), none, .load none (.t 12)⟩,
       ⟨(some 4), none, .mv (.t 11)⟩,
       ⟨(some 5), none, .mv (.t 13)⟩])
     (.seq (.ops [⟨(some 14), none, .mv (.t 3)⟩,
       ⟨(some 15), none, .lenSl (.t 14)⟩,
       ⟨(some 6), none, .mv (.t 15)⟩])
     (.block 2 (.seq (.ops [⟨(some 22), none, .mv (.t 5)⟩,
        ⟨(some 21), none, .mv (.t 22)⟩])
      (.cond (.t 21)
       (.skip)
       (.seq (.ops [⟨(some 24), none, .mv (.t 6)⟩,
         ⟨(some 25), none, .bin .gtr (.t 24) (.c (.int .i64 (0)))⟩,
         ⟨(some 26), none, .mv (.t 25)⟩,
         ⟨(some 27), (some (26, true)), .mv (.t 3)⟩,
         ⟨(some 28), (some (26, true)), .mv (.t 6)⟩,
         ⟨(some 29), (some (26, true)), .bin .sub (.t 28) (.c (.int .i64 (1)))⟩,
         ⟨(some 30), (some (26, true)), .idxSl 2 (.t 27) (.t 29)⟩,
         ⟨(some 31), (some (26, true)), .load (some 2) (.t 30)⟩,
         ⟨(some 32), (some (26, true)), .call (.c (.func (.func 43) [] [])) [(.t 31)]⟩,
         ⟨(some 33), (some (26, true)), .mv (.t 4)⟩,
         ⟨(some 34), (some (26, true)), .bin .eql (.t 32) (.t 33)⟩,
         ⟨(some 35), none, .pick (.t 26) (.t 34) (.c (.bool false))⟩,
         ⟨(some 23), none, .mv (.t 35)⟩])
       (.cond (.t 23)
        (.ops [⟨(some 36), none, .mv (.t 3)⟩,
          ⟨(some 37), none, .mv (.t 6)⟩,
          ⟨(some 38), none, .bin .sub (.t 37) (.c (.int .i64 (1)))⟩,
          ⟨(some 39), none, .idxSl 2 (.t 36) (.t 38)⟩,
          ⟨(some 40), none, .fieldAddr 1 (.t 39)⟩,
          ⟨(some 41), none, .load none (.t 40)⟩,
          ⟨(some 42), none, .bin .add (.t 41) (.c (.int .i64 (1)))⟩,
          ⟨(some 43), none, .idxSl 2 (.t 36) (.t 38)⟩,
          ⟨(some 44), none, .fieldAddr 1 (.t 43)⟩,
          ⟨none, none, .store 1 (.t 44) (.t 42)⟩])
        (.ops [⟨(some 16), none, .mv (.t 3)⟩,
          ⟨(some 17), none, .mv (.t 4)⟩,
          ⟨(some 18), none, .build [(.int .i64 (0)), (.int .i64 (0))] [(0, 1, (.t 17)), (1, 1, (.c (.int .i64 (1))))]⟩,
          ⟨(some 19), none, .buildSl [(.int .i64 (0)), (.int .i64 (0))] 1 [(0, 2, (.t 18))]⟩,
          ⟨(some 20), none, .append 2 16 none (.t 16) (.t 19)⟩,
          ⟨(some 3), none, .mv (.t 20)⟩])))))))))
    (.ops [⟨(some 45), none, .bin .add (.t 9) (.c (.int .i64 (1)))⟩,
      ⟨(some 9), none, .mv (.t 45)⟩])))))))
  (.seq (.ops [⟨(some 46), none, .mv (.t 3)⟩,
    ⟨(some 2), none, .mv (.t 46)⟩])
  (.ret))))⟩
theorem a23_ok : funcC Tryz.prog Tryz.f23 = some a23 := by kernel_rfl
/-- permafrost/dev.New -/
def a24 : AFunc := ⟨2, [.tmp 4],
  .seq (.ops [⟨(some 4), none, .mv (.c (.ptr none))⟩])
  (.seq (.seq (.ops [⟨(some 5), none, .mv (.t 0)⟩,
    ⟨(some 6), none, .mv (.t 1)⟩,
    ⟨(some 7), none, .min2 (.t 5) (.t 6)⟩,
    ⟨(some 8), none, .bin .lss (.t 7) (.c (.int .i64 (1)))⟩,
    ⟨(some 9), none, .mv (.t 8)⟩,
    ⟨(some 10), (some (9, false)), .mv (.t 0)⟩,
    ⟨(some 11), (some (9, false)), .mv (.t 1)⟩,
    ⟨(some 12), (some (9, false)), .max2 (.t 10) (.t 11)⟩,
    ⟨(some 13), (some (9, false)), .bin .gtr (.t 12) (.c (.int .i64 (512)))⟩,
    ⟨(some 14), none, .pick (.t 9) (.c (.bool true)) (.t 13)⟩])
  (.cond (.t 14)
   (.seq (.ops [⟨(some 4), none, .mv (.c (.ptr none))⟩])
   (.ret))
   (.skip)))
  (.seq (.draw [⟨⟨(some 15), none, .mv (.t 0)⟩, 0, []⟩,
    ⟨⟨(some 16), none, .makeSl 1 16 [(.str [])] (.t 15) (.t 15)⟩, 1, [0]⟩,
    ⟨⟨(some 17), none, .mv (.t 1)⟩, 2, []⟩,
    ⟨⟨(some 18), none, .makeSl 1 16 [(.str [])] (.t 17) (.t 17)⟩, 3, [2]⟩,
    ⟨⟨(some 19), none, .build [(.slice none 0 0), (.slice none 0 0)] [(0, 1, (.t 16)), (1, 1, (.t 18))]⟩, 4, [0, 1, 2, 3]⟩,
    ⟨⟨(some 20), none, .build [(.slice none 0 0), (.slice none 0 0), (.bool false), (.bool false), (.slice none 0 0)] [(0, 2, (.t 19))]⟩, 5, [0, 1, 2, 3, 4]⟩,
    ⟨⟨(some 21), none, .box (.t 20)⟩, 6, [0, 1, 2, 3, 4, 5]⟩,
    ⟨⟨(some 4), none, .mv (.t 21)⟩, 7, [0, 1, 2, 3, 4, 5, 6]⟩])
  (.ret)))⟩
theorem a24_ok : funcC Tryz.prog Tryz.f24 = some a24 := by kernel_rfl
/-- permafrost/store.Open -/
def a25 : AFunc := ⟨4, [.tmp 8, .tmp 9],
  .seq (.ops [⟨(some 5), none, .box (.t 1)⟩,
    ⟨(some 8), none, .mv (.c (.ptr none))⟩,
    ⟨(some 9), none, .mv (.c (.int .i64 (0)))⟩])
  (.seq (.seq (.ops [⟨(some 13), none, .mv (.t 0)⟩,
    ⟨(some 14), none, .eq false (.flat .ptr) (.t 13) (.c (.ptr none))⟩,
    ⟨(some 15), none, .mv (.t 14)⟩,
    ⟨(some 16), (some (15, false)), .load (some 5) (.t 5)⟩,
    ⟨(some 17), (some (15, false)), .call (.c (.func (.func 44) [] [])) [(.t 16)]⟩,
    ⟨(some 18), (some (15, false)), .bin .neq (.t 17) (.c (.int .i64 (0)))⟩,
    ⟨(some 19), none, .pick (.t 15) (.c (.bool true)) (.t 18)⟩])
  (.cond (.t 19)
   (.seq (.ops [⟨(some 8), none, .mv (.c (.ptr none))⟩,
     ⟨(some 9), none, .mv (.c (.int .i64 (1)))⟩])
   (.ret))
   (.skip)))
  (.seq (.draw [⟨⟨(some 20), none, .mv (.t 0)⟩, 0, []⟩,
    ⟨⟨(some 21), none, .load (some 5) (.t 5)⟩, 1, []⟩,
    ⟨⟨(some 22), none, .fieldAddr 3 (.t 5)⟩, 2, []⟩,
    ⟨⟨(some 23), none, .load none (.t 22)⟩, 3, [2]⟩,
    ⟨⟨(some 25), none, .makeMap⟩, 5, []⟩,
    ⟨⟨(some 24), none, .call (.c (.func (.func 45) [] [])) [(.t 23)]⟩, 4, [2, 3]⟩,
    ⟨⟨(some 26), none, .build [(.ptr none), (.bool false), (.bool false), (.int .i64 (0)), (.int .i64 (0)), (.int .i64 (0)), (.slice none 0 0), (.slice none 0 0), (.int .i64 (0)), (.ptr none), (.map none), (.ptr none), (.int .i64 (0)), (.int .i64 (0)), (.int .i64 (0))] [(0, 1, (.t 20)), (1, 5, (.t 21)), (9, 1, (.t 24)), (10, 1, (.t 25))]⟩, 6, [0, 1, 2, 3, 4, 5]⟩,
    ⟨⟨(some 27), none, .box (.t 26)⟩, 7, [0, 1, 2, 3, 4, 5, 6]⟩,
    ⟨⟨(some 10), none, .mv (.t 27)⟩, 8, [0, 1, 2, 3, 4, 5, 6, 7]⟩])
  (.seq (.seq (.ops [⟨(some 28), none, .mv (.t 10)⟩,
    ⟨(some 29), none, .call (.c (.func (.func 22) [] [])) [(.t 28)]⟩,
    ⟨(some 11), none, .mv (.t 29)⟩])
  (.seq (.ops [⟨(some 30), none, .mv (.t 11)⟩,
    ⟨(some 31), none, .bin .gtr (.t 30) (.c (.int .i64 (0)))⟩])
  (.cond (.t 31)
   (.ops [⟨(some 32), none, .mv (.t 10)⟩,
     ⟨(some 33), none, .mv (.t 0)⟩,
     ⟨(some 34), none, .mv (.t 0)⟩,
     ⟨(some 35), none, .call (.c (.func (.func 21) [] [])) [(.t 34), (.c (.int .i64 (1)))]⟩,
     ⟨(some 36), none, .mv (.t 11)⟩,
     ⟨(some 37), none, .bin .sub (.t 35) (.t 36)⟩,
     ⟨(some 38), none, .mv (.t 11)⟩,
     ⟨(some 39), none, .call (.c (.func (.func 46) [] [])) [(.t 33), (.t 37), (.t 38)]⟩,
     ⟨(some 40), none, .nilck (.t 32)⟩,
     ⟨(some 41), none, .fieldAddr 11 (.t 40)⟩,
     ⟨none, none, .store 1 (.t 41) (.t 39)⟩])
   (.skip))))
  (.seq (.seq (.ops [⟨(some 42), none, .mv (.t 10)⟩,
    ⟨(some 43), none, .mv (.t 2)⟩,
    ⟨(some 44), none, .mv (.t 3)⟩,
    ⟨(some 45), none, .call (.c (.func (.func 10) [] [])) [(.t 42), (.t 43), (.t 44)]⟩,
    ⟨(some 12), none, .mv (.t 45)⟩])
  (.seq (.ops [⟨(some 46), none, .mv (.t 12)⟩,
    ⟨(some 47), none, .bin .neq (.t 46) (.c (.int .i64 (0)))⟩])
  (.cond (.t 47)
   (.seq (.ops [⟨(some 48), none, .mv (.t 12)⟩,
     ⟨(some 8), none, .mv (.c (.ptr none))⟩,
     ⟨(some 9), none, .mv (.t 48)⟩])
   (.ret))
   (.skip))))
  (.seq (.ops [⟨(some 49), none, .mv (.t 10)⟩,
    ⟨(some 8), none, .mv (.t 49)⟩,
    ⟨(some 9), none, .mv (.c (.int .i64 (0)))⟩])
  (.ret))))))⟩
theorem a25_ok : funcC Tryz.prog Tryz.f25 = some a25 := by kernel_rfl
/-- permafrost/permafrostref04.Decode -/
def a26 : AFunc := ⟨1, [.cell 2 (some 4), .tmp 3],
  .seq (.ops [⟨(some 2), none, .alloc none [(.slice none 0 0), (.int .i64 (0)), (.int .i64 (0)), (.str [])]⟩,
    ⟨(some 3), none, .mv (.c (.int .i64 (0)))⟩])
  (.seq (.ops [⟨(some 10), none, .mv (.t 0)⟩,
    ⟨(some 11), none, .build [(.str []), (.int .i64 (0))] [(0, 1, (.t 10))]⟩,
    ⟨(some 12), none, .box (.t 11)⟩,
    ⟨(some 4), none, .mv (.t 12)⟩])
  (.seq (.ops [⟨(some 13), none, .mv (.t 4)⟩,
    ⟨(some 14), none, .call (.c (.func (.func 47) [] [])) [(.t 13), (.c (.int .i64 (1)))]⟩,
    ⟨(some 5), none, .mv (.t 14)⟩])
  (.seq (.seq (.ops [⟨(some 15), none, .mv (.t 4)⟩,
    ⟨(some 16), none, .nilck (.t 15)⟩,
    ⟨(some 17), none, .fieldAddr 1 (.t 16)⟩,
    ⟨(some 18), none, .load none (.t 17)⟩,
    ⟨(some 19), none, .bin .neq (.t 18) (.c (.int .i64 (0)))⟩])
  (.cond (.t 19)
   (.seq (.draw [⟨⟨(some 20), none, .build [(.slice none 0 0), (.int .i64 (0)), (.int .i64 (0)), (.str [])] []⟩, 0, []⟩,
     ⟨⟨(some 21), none, .mv (.t 4)⟩, 1, []⟩,
     ⟨⟨(some 22), none, .nilck (.t 21)⟩, 2, [1]⟩,
     ⟨⟨(some 23), none, .fieldAddr 1 (.t 22)⟩, 3, [1, 2]⟩,
     ⟨⟨(some 24), none, .load none (.t 23)⟩, 4, [1, 2, 3]⟩,
     ⟨⟨none, none, .store 4 (.t 2) (.t 20)⟩, 5, [0]⟩,
     ⟨⟨(some 3), none, .mv (.t 24)⟩, 6, [0, 1, 2, 3, 4, 5]⟩])
   (.ret))
   (.skip)))
  (.seq (.seq (.ops [⟨(some 25), none, .mv (.t 5)⟩,
    ⟨(some 26), none, .bin .lss (.t 25) (.c (.int .i64 (1)))⟩,
    ⟨(some 27), none, .mv (.t 26)⟩,
    ⟨(some 28), (some (27, false)), .mv (.t 5)⟩,
    ⟨(some 29), (some (27, false)), .bin .gtr (.t 28) (.c (.int .i64 (2)))⟩,
    ⟨(some 30), none, .pick (.t 27) (.c (.bool true)) (.t 29)⟩])
  (.cond (.t 30)
   (.seq (.ops [⟨(some 31), none, .build [(.slice none 0 0), (.int .i64 (0)), (.int .i64 (0)), (.str [])] []⟩,
     ⟨none, none, .store 4 (.t 2) (.t 31)⟩,
     ⟨(some 3), none, .mv (.c (.int .i64 (3)))⟩])
   (.ret))
   (.skip)))
  (.seq (.ops [⟨(some 32), none, .build [(.slice none 0 0), (.int .i64 (0)), (.int .i64 (0)), (.str [])] []⟩,
    ⟨(some 6), none, .alloc none [(.slice none 0 0), (.int .i64 (0)), (.int .i64 (0)), (.str [])]⟩,
    ⟨none, none, .store 4 (.t 6) (.t 32)⟩])
  (.seq (.seq (.ops [⟨(some 7), none, .mv (.c (.int .i64 (0)))⟩])
  (.block 0 (.loop (.seq (.seq (.ops [⟨(some 33), none, .mv (.t 7)⟩,
      ⟨(some 34), none, .mv (.t 5)⟩,
      ⟨(some 35), none, .bin .lss (.t 33) (.t 34)⟩])
    (.cond (.t 35)
     (.skip)
     (.exit 0)))
    (.seq (.block 1 (.seq (.ops [⟨(some 38), none, .build [(.int .i64 (0)), (.int .i64 (0))] []⟩,
       ⟨(some 8), none, .alloc none [(.int .i64 (0)), (.int .i64 (0))]⟩,
       ⟨none, none, .store 2 (.t 8) (.t 38)⟩])
     (.seq (.ops [⟨(some 39), none, .mv (.t 4)⟩,
       ⟨(some 40), none, .call (.c (.func (.func 47) [] [])) [(.t 39), (.c (.int .i64 (1)))]⟩,
       ⟨(some 41), none, .fieldAddr 0 (.t 8)⟩,
       ⟨none, none, .store 1 (.t 41) (.t 40)⟩])
     (.seq (.ops [⟨(some 42), none, .mv (.t 4)⟩,
       ⟨(some 43), none, .call (.c (.func (.func 47) [] [])) [(.t 42), (.c (.int .i64 (2)))]⟩,
       ⟨(some 44), none, .fieldAddr 1 (.t 8)⟩,
       ⟨none, none, .store 1 (.t 44) (.t 43)⟩])
     (.ops [⟨(some 45), none, .fieldAddr 0 (.t 6)⟩,
       ⟨(some 46), none, .load none (.t 45)⟩,
       ⟨(some 47), none, .load (some 2) (.t 8)⟩,
       ⟨(some 48), none, .buildSl [(.int .i64 (0)), (.int .i64 (0))] 1 [(0, 2, (.t 47))]⟩,
       ⟨(some 49), none, .append 2 16 none (.t 46) (.t 48)⟩,
       ⟨(some 50), none, .fieldAddr 0 (.t 6)⟩,
       ⟨none, none, .store 1 (.t 50) (.t 49)⟩])))))
    (.ops [⟨(some 36), none, .mv (.t 7)⟩,
      ⟨(some 37), none, .bin .add (.t 36) (.c (.int .i64 (1)))⟩,
      ⟨(some 7), none, .mv (.t 37)⟩]))))))
  (.seq (.ops [⟨(some 51), none, .mv (.t 4)⟩,
    ⟨(some 52), none, .call (.c (.func (.func 47) [] [])) [(.t 51), (.c (.int .i64 (2)))]⟩,
    ⟨(some 53), none, .fieldAddr 1 (.t 6)⟩,
    ⟨none, none, .store 1 (.t 53) (.t 52)⟩])
  (.seq (.ops [⟨(some 54), none, .mv (.t 4)⟩,
    ⟨(some 55), none, .call (.c (.func (.func 47) [] [])) [(.t 54), (.c (.int .i64 (6)))]⟩,
    ⟨(some 56), none, .fieldAddr 2 (.t 6)⟩,
    ⟨none, none, .store 1 (.t 56) (.t 55)⟩])
  (.seq (.ops [⟨(some 57), none, .mv (.t 4)⟩,
    ⟨(some 58), none, .call (.c (.func (.func 48) [] [])) [(.t 57), (.c (.int .i64 (32)))]⟩,
    ⟨(some 59), none, .fieldAddr 3 (.t 6)⟩,
    ⟨none, none, .store 1 (.t 59) (.t 58)⟩])
  (.seq (.ops [⟨(some 60), none, .mv (.t 4)⟩,
    ⟨(some 61), none, .call (.c (.func (.func 49) [] [])) [(.t 60)]⟩,
    ⟨(some 9), none, .mv (.t 61)⟩])
  (.seq (.seq (.ops [⟨(some 62), none, .mv (.t 9)⟩,
    ⟨(some 63), none, .bin .neq (.t 62) (.c (.int .i64 (0)))⟩])
  (.cond (.t 63)
   (.seq (.ops [⟨(some 64), none, .build [(.slice none 0 0), (.int .i64 (0)), (.int .i64 (0)), (.str [])] []⟩,
     ⟨(some 65), none, .mv (.t 9)⟩,
     ⟨none, none, .store 4 (.t 2) (.t 64)⟩,
     ⟨(some 3), none, .mv (.t 65)⟩])
   (.ret))
   (.skip)))
  (.seq (.seq (.ops [⟨(some 66), none, .load (some 4) (.t 6)⟩,
    ⟨(some 67), none, .call (.c (.func (.func 50) [] [])) [(.t 66)]⟩,
    ⟨(some 68), none, .bin .neq (.t 67) (.c (.int .i64 (0)))⟩])
  (.cond (.t 68)
   (.seq (.ops [⟨(some 69), none, .build [(.slice none 0 0), (.int .i64 (0)), (.int .i64 (0)), (.str [])] []⟩,
     ⟨none, none, .store 4 (.t 2) (.t 69)⟩,
     ⟨(some 3), none, .mv (.c (.int .i64 (3)))⟩])
   (.ret))
   (.skip)))
  (.seq (.ops [⟨(some 70), none, .load (some 4) (.t 6)⟩,
    ⟨none, none, .store 4 (.t 2) (.t 70)⟩,
    ⟨(some 3), none, .mv (.c (.int .i64 (0)))⟩])
  (.ret))))))))))))))⟩
theorem a26_ok : funcC Tryz.prog Tryz.f26 = some a26 := by kernel_rfl
/-- permafrost/class.Choose -/
def a27 : AFunc := ⟨4, [.tmp 8, .tmp 9],
  .seq (.ops [⟨(some 4), none, .box (.t 0)⟩,
    ⟨(some 8), none, .mv (.c (.slice none 0 0))⟩,
    ⟨(some 9), none, .mv (.c (.int .i64 (0)))⟩])
  (.seq (.seq (.draw [⟨⟨(some 13), none, .load (some 5) (.t 4)⟩, 0, []⟩,
    ⟨⟨(some 14), none, .call (.c (.func (.func 44) [] [])) [(.t 13)]⟩, 1, [0]⟩,
    ⟨⟨(some 15), none, .bin .neq (.t 14) (.c (.int .i64 (0)))⟩, 2, [0, 1]⟩,
    ⟨⟨(some 16), none, .mv (.t 15)⟩, 3, [0, 1, 2]⟩,
    ⟨⟨(some 17), (some (16, false)), .mv (.t 1)⟩, 4, [0, 1, 2, 3]⟩,
    ⟨⟨(some 18), (some (16, false)), .call (.c (.func (.func 51) [] [])) [(.t 17), (.c (.int .i64 (1)))]⟩, 5, [0, 1, 2, 3, 4]⟩,
    ⟨⟨(some 19), (some (16, false)), .not (.t 18)⟩, 6, [0, 1, 2, 3, 4, 5]⟩,
    ⟨⟨(some 20), none, .pick (.t 16) (.c (.bool true)) (.t 19)⟩, 7, [0, 1, 2, 3, 4, 5, 6]⟩,
    ⟨⟨(some 21), none, .mv (.t 20)⟩, 8, [0, 1, 2, 3, 4, 5, 6, 7]⟩,
    ⟨⟨(some 22), (some (21, false)), .mv (.t 2)⟩, 9, [0, 1, 2, 3, 4, 5, 6, 7, 8]⟩,
    ⟨⟨(some 23), (some (21, false)), .call (.c (.func (.func 51) [] [])) [(.t 22), (.c (.int .i64 (960)))]⟩, 10, [0, 1, 2, 3, 4, 5, 6, 7, 8, 9]⟩,
    ⟨⟨(some 24), (some (21, false)), .not (.t 23)⟩, 11, [0, 1, 2, 3, 4, 5, 6, 7, 8, 9, 10]⟩,
    ⟨⟨(some 25), none, .pick (.t 21) (.c (.bool true)) (.t 24)⟩, 12, [0, 1, 2, 3, 4, 5, 6, 7, 8, 9, 10, 11]⟩,
    ⟨⟨(some 26), none, .mv (.t 25)⟩, 13, [0, 1, 2, 3, 4, 5, 6, 7, 8, 9, 10, 11, 12]⟩,
    ⟨⟨(some 27), (some (26, false)), .mv (.t 3)⟩, 14, [0, 1, 2, 3, 4, 5, 6, 7, 8, 9, 10, 11, 12, 13]⟩,
    ⟨⟨(some 28), (some (26, false)), .lenSl (.t 27)⟩, 15, [0, 1, 2, 3, 4, 5, 6, 7, 8, 9, 10, 11, 12, 13, 14]⟩,
    ⟨⟨(some 29), (some (26, false)), .bin .neq (.t 28) (.c (.int .i64 (2)))⟩, 16, [0, 1, 2, 3, 4, 5, 6, 7, 8, 9, 10, 11, 12, 13, 14, 15]⟩,
    ⟨⟨(some 30), none, .pick (.t 26) (.c (.bool true)) (.t 29)⟩, 17, [0, 1, 2, 3, 4, 5, 6, 7, 8, 9, 10, 11, 12, 13, 14, 15, 16]⟩,
    ⟨⟨(some 31), none, .mv (.t 30)⟩, 18, [0, 1, 2, 3, 4, 5, 6, 7, 8, 9, 10, 11, 12, 13, 14, 15, 16, 17]⟩,
    ⟨⟨(some 32), (some (31, false)), .mv (.t 3)⟩, 19, [0, 1, 2, 3, 4, 5, 6, 7, 8, 9, 10, 11, 12, 13, 14, 15, 16, 17, 18]⟩,
    ⟨⟨(some 33), (some (31, false)), .idxSl 1 (.t 32) (.c (.int .i64 (0)))⟩, 20, [0, 1, 2, 3, 4, 5, 6, 7, 8, 9, 10, 11, 12, 13, 14, 15, 16, 17, 18, 19]⟩,
    ⟨⟨(some 34), (some (31, false)), .load none (.t 33)⟩, 21, [0, 1, 2, 3, 4, 5, 6, 7, 8, 9, 10, 11, 12, 13, 14, 15, 16, 17, 18, 19, 20]⟩,
    ⟨⟨(some 35), (some (31, false)), .mv (.t 3)⟩, 22, [0, 1, 2, 3, 4, 5, 6, 7, 8, 9, 10, 11, 12, 13, 14, 15, 16, 17, 18]⟩,
    ⟨⟨(some 36), (some (31, false)), .idxSl 1 (.t 35) (.c (.int .i64 (1)))⟩, 23, [0, 1, 2, 3, 4, 5, 6, 7, 8, 9, 10, 11, 12, 13, 14, 15, 16, 17, 18, 22]⟩,
    ⟨⟨(some 37), (some (31, false)), .load none (.t 36)⟩, 24, [0, 1, 2, 3, 4, 5, 6, 7, 8, 9, 10, 11, 12, 13, 14, 15, 16, 17, 18, 22, 23]⟩,
    ⟨⟨(some 38), (some (31, false)), .min2 (.t 34) (.t 37)⟩, 25, [0, 1, 2, 3, 4, 5, 6, 7, 8, 9, 10, 11, 12, 13, 14, 15, 16, 17, 18, 19, 20, 21, 22, 23, 24]⟩,
    ⟨⟨(some 39), (some (31, false)), .bin .lss (.t 38) (.c (.int .i64 (0)))⟩, 26, [0, 1, 2, 3, 4, 5, 6, 7, 8, 9, 10, 11, 12, 13, 14, 15, 16, 17, 18, 19, 20, 21, 22, 23, 24, 25]⟩,
    ⟨⟨(some 40), none, .pick (.t 31) (.c (.bool true)) (.t 39)⟩, 27, [0, 1, 2, 3, 4, 5, 6, 7, 8, 9, 10, 11, 12, 13, 14, 15, 16, 17, 18, 19, 20, 21, 22, 23, 24, 25, 26]⟩])
  (.cond (.t 40)
   (.seq (.ops [⟨(some 8), none, .mv (.c (.slice none 0 0))⟩,
     ⟨(some 9), none, .mv (.c (.int .i64 (1)))⟩])
   (.ret))
   (.skip)))
  (.seq (.ops [⟨(some 10), none, .mv (.c (.slice none 0 0))⟩])
  (.seq (.seq (.ops [⟨(some 41), none, .load (some 5) (.t 4)⟩,
    ⟨(some 42), none, .mv (.t 1)⟩,
    ⟨(some 43), none, .mv (.t 2)⟩,
    ⟨(some 44), none, .call (.c (.func (.func 52) [] [])) [(.t 41), (.t 42), (.t 43)]⟩,
    ⟨(some 45), none, .lenSl (.t 44)⟩,
    ⟨(some 46), none, .mv (.c (.int .i64 (0)))⟩])
  (.block 0 (.loop (.seq (.ops [⟨(some 47), none, .bin .lss (.t 46) (.t 45)⟩])
    (.seq (.cond (.t 47)
     (.skip)
     (.exit 0))
    (.seq (.block 1 (.seq (.ops [⟨(some 48), none, .idxSl 1 (.t 44) (.t 46)⟩,
       ⟨(some 49), none, .load none (.t 48)⟩,
       ⟨(some 12), none, .mv (.t 49)⟩])
     (.seq (.ops [⟨(some 50), none, .mv (.t 3)⟩,
       ⟨(some 51), none, .mv (.t 12)⟩,
       ⟨(some 52), none, .idxSl 1 (.t 50) (.t 51)⟩,
       ⟨(some 53), none, .load none (.t 52)⟩,
       ⟨(some 54), none, .bin .gtr (.t 53) (.c (.int .i64 (0)))⟩])
     (.cond (.t 54)
      (.ops [⟨(some 55), none, .mv (.t 10)⟩,
        ⟨(some 56), none, .mv (.t 12)⟩,
        ⟨(some 57), none, .buildSl [(.int .i64 (0))] 1 [(0, 1, (.t 56))]⟩,
        ⟨(some 58), none, .append 1 8 none (.t 55) (.t 57)⟩,
        ⟨(some 10), none, .mv (.t 58)⟩])
      (.skip)))))
    (.ops [⟨(some 59), none, .bin .add (.t 46) (.c (.int .i64 (1)))⟩,
      ⟨(some 46), none, .mv (.t 59)⟩])))))))
  (.seq (.block 2 (.seq (.ops [⟨(some 61), none, .mv (.t 10)⟩,
     ⟨(some 62), none, .lenSl (.t 61)⟩,
     ⟨(some 63), none, .bin .gtr (.t 62) (.c (.int .i64 (0)))⟩,
     ⟨(some 60), none, .mv (.t 63)⟩])
   (.cond (.t 60)
    (.seq (.ops [⟨(some 64), none, .mv (.t 10)⟩,
      ⟨(some 8), none, .mv (.t 64)⟩,
      ⟨(some 9), none, .mv (.c (.int .i64 (0)))⟩])
    (.ret))
    (.seq (.ops [⟨(some 66), none, .mv (.t 3)⟩,
      ⟨(some 67), none, .idxSl 1 (.t 66) (.c (.int .i64 (0)))⟩,
      ⟨(some 68), none, .load none (.t 67)⟩,
      ⟨(some 69), none, .bin .gtr (.t 68) (.c (.int .i64 (0)))⟩,
      ⟨(some 65), none, .mv (.t 69)⟩])
    (.cond (.t 65)
     (.seq (.ops [⟨(some 70), none, .buildSl [(.int .i64 (0))] 1 [(0, 1, (.c (.int .i64 (0))))]⟩,
       ⟨(some 8), none, .mv (.t 70)⟩,
       ⟨(some 9), none, .mv (.c (.int .i64 (0)))⟩])
     (.ret))
     (.skip))))))
  (.seq (.ops [⟨(some 8), none, .mv (.c (.slice none 0 0))⟩,
    ⟨(some 9), none, .mv (.c (.int .i64 (6)))⟩])
  (.ret))))))⟩
theorem a27_ok : funcC Tryz.prog Tryz.f27 = some a27 := by kernel_rfl
/-- permafrost/space.Take -/
def a28 : AFunc := ⟨2, [.tmp 4, .tmp 5, .tmp 6],
  .seq (.ops [⟨(some 3), none, .box (.t 1)⟩,
    ⟨(some 4), none, .mv (.c (.int .i64 (0)))⟩,
    ⟨(some 5), none, .mv (.c (.slice none 0 0))⟩,
    ⟨(some 6), none, .mv (.c (.bool false))⟩])
  (.seq (.seq (.ops [⟨(some 9), none, .mv (.t 0)⟩,
    ⟨(some 10), none, .call (.c (.func (.func 53) [] [])) [(.t 9)]⟩,
    ⟨(some 11), none, .not (.t 10)⟩,
    ⟨(some 12), none, .mv (.t 11)⟩,
    ⟨(some 13), (some (12, false)), .load none (.t 3)⟩,
    ⟨(some 14), (some (12, false)), .bin .lss (.t 13) (.c (.int .i64 (1)))⟩,
    ⟨(some 15), none, .pick (.t 12) (.c (.bool true)) (.t 14)⟩,
    ⟨(some 16), none, .mv (.t 15)⟩,
    ⟨(some 17), (some (16, false)), .load none (.t 3)⟩,
    ⟨(some 18), (some (16, false)), .bin .gtr (.t 17) (.c (.int .i64 (1073741824)))⟩,
    ⟨(some 19), none, .pick (.t 16) (.c (.bool true)) (.t 18)⟩])
  (.cond (.t 19)
   (.seq (.ops [⟨(some 4), none, .mv (.c (.int .i64 (0)))⟩,
     ⟨(some 5), none, .mv (.c (.slice none 0 0))⟩,
     ⟨(some 6), none, .mv (.c (.bool false))⟩])
   (.ret))
   (.skip)))
  (.seq (.ops [⟨(some 20), none, .mv (.t 0)⟩,
    ⟨(some 21), none, .mkFn (.func 55) [] [(.t 3)]⟩,
    ⟨(some 22), none, .call (.c (.func (.func 54) [] [])) [(.t 20), (.t 21)]⟩,
    ⟨(some 7), none, .mv (.t 22)⟩])
  (.seq (.seq (.ops [⟨(some 23), none, .mv (.t 7)⟩,
    ⟨(some 24), none, .bin .lss (.t 23) (.c (.int .i64 (0)))⟩])
  (.cond (.t 24)
   (.seq (.ops [⟨(some 4), none, .mv (.c (.int .i64 (0)))⟩,
     ⟨(some 5), none, .mv (.c (.slice none 0 0))⟩,
     ⟨(some 6), none, .mv (.c (.bool false))⟩])
   (.ret))
   (.skip)))
  (.seq (.ops [⟨(some 25), none, .mv (.t 0)⟩,
    ⟨(some 26), none, .mv (.t 7)⟩,
    ⟨(some 27), none, .idxSl 2 (.t 25) (.t 26)⟩,
    ⟨(some 28), none, .load (some 2) (.t 27)⟩,
    ⟨(some 8), none, .alloc none [(.int .i64 (0)), (.int .i64 (0))]⟩,
    ⟨none, none, .store 2 (.t 8) (.t 28)⟩])
  (.seq (.seq (.ops [⟨(some 29), none, .fieldAddr 1 (.t 8)⟩,
    ⟨(some 30), none, .load none (.t 29)⟩,
    ⟨(some 31), none, .load none (.t 3)⟩,
    ⟨(some 32), none, .bin .eql (.t 30) (.t 31)⟩])
  (.cond (.t 32)
   (.seq (.draw [⟨⟨(some 33), none, .fieldAddr 0 (.t 8)⟩, 0, []⟩,
     ⟨⟨(some 34), none, .load none (.t 33)⟩, 1, [0]⟩,
     ⟨⟨(some 35), none, .mv (.t 0)⟩, 2, []⟩,
     ⟨⟨(some 36), none, .mv (.t 7)⟩, 3, []⟩,
     ⟨⟨(some 37), none, .mv (.t 7)⟩, 4, []⟩,
     ⟨⟨(some 38), none, .bin .add (.t 37) (.c (.int .i64 (1)))⟩, 5, [4]⟩,
     ⟨⟨(some 39), none, .call (.c (.func (.func 56) [] [])) [(.t 35), (.t 36), (.t 38), (.c (.slice none 0 0))]⟩, 6, [2, 3, 4, 5]⟩,
     ⟨⟨(some 4), none, .mv (.t 34)⟩, 7, [0, 1, 2, 3, 4, 5, 6]⟩,
     ⟨⟨(some 5), none, .mv (.t 39)⟩, 8, [0, 1, 2, 3, 4, 5, 6, 7]⟩,
     ⟨⟨(some 6), none, .mv (.c (.bool true))⟩, 9, [0, 1, 2, 3, 4, 5, 6, 7, 8]⟩])
   (.ret))
   (.skip)))
  (.seq (.draw [⟨⟨(some 40), none, .fieldAddr 0 (.t 8)⟩, 0, []⟩,
    ⟨⟨(some 41), none, .load none (.t 40)⟩, 1, [0]⟩,
    ⟨⟨(some 42), none, .mv (.t 0)⟩, 2, []⟩,
    ⟨⟨(some 43), none, .mv (.t 7)⟩, 3, []⟩,
    ⟨⟨(some 44), none, .mv (.t 7)⟩, 4, []⟩,
    ⟨⟨(some 45), none, .bin .add (.t 44) (.c (.int .i64 (1)))⟩, 5, [4]⟩,
    ⟨⟨(some 46), none, .fieldAddr 0 (.t 8)⟩, 6, []⟩,
    ⟨⟨(some 47), none, .load none (.t 46)⟩, 7, [6]⟩,
    ⟨⟨(some 48), none, .load none (.t 3)⟩, 8, []⟩,
    ⟨⟨(some 49), none, .bin .add (.t 47) (.t 48)⟩, 9, [6, 7, 8]⟩,
    ⟨⟨(some 50), none, .fieldAddr 1 (.t 8)⟩, 10, []⟩,
    ⟨⟨(some 51), none, .load none (.t 50)⟩, 11, [10]⟩,
    ⟨⟨(some 52), none, .load none (.t 3)⟩, 12, []⟩,
    ⟨⟨(some 53), none, .bin .sub (.t 51) (.t 52)⟩, 13, [10, 11, 12]⟩,
    ⟨⟨(some 54), none, .build [(.int .i64 (0)), (.int .i64 (0))] [(0, 1, (.t 49)), (1, 1, (.t 53))]⟩, 14, [6, 7, 8, 9, 10, 11, 12, 13]⟩,
    ⟨⟨(some 55), none, .buildSl [(.int .i64 (0)), (.int .i64 (0))] 1 [(0, 2, (.t 54))]⟩, 15, [6, 7, 8, 9, 10, 11, 12, 13, 14]⟩,
    ⟨⟨(some 56), none, .call (.c (.func (.func 56) [] [])) [(.t 42), (.t 43), (.t 45), (.t 55)]⟩, 16, [2, 3, 4, 5, 6, 7, 8, 9, 10, 11, 12, 13, 14, 15]⟩,
    ⟨⟨(some 4), none, .mv (.t 41)⟩, 17, [0, 1, 2, 3, 4, 5, 6, 7, 8, 9, 10, 11, 12, 13, 14, 15, 16]⟩,
    ⟨⟨(some 5), none, .mv (.t 56)⟩, 18, [0, 1, 2, 3, 4, 5, 6, 7, 8, 9, 10, 11, 12, 13, 14, 15, 16, 17]⟩,
    ⟨⟨(some 6), none, .mv (.c (.bool true))⟩, 19, [0, 1, 2, 3, 4, 5, 6, 7, 8, 9, 10, 11, 12, 13, 14, 15, 16, 17, 18]⟩])
  (.ret)))))))⟩
theorem a28_ok : funcC Tryz.prog Tryz.f28 = some a28 := by kernel_rfl
/-- (*permafrost/dev.Devs).Lost -/
def a29 : AFunc := ⟨2, [.tmp 4],
  .seq (.ops [⟨(some 4), none, .mv (.c (.bool false))⟩])
  (.seq (.ops [⟨(some 5), none, .mv (.t 0)⟩,
    ⟨(some 6), none, .mv (.t 1)⟩,
    ⟨(some 7), none, .call (.c (.func (.func 42) [] [])) [(.t 5), (.t 6)]⟩,
    ⟨(some 8), none, .mv (.t 7)⟩,
    ⟨(some 9), (some (8, true)), .mv (.t 0)⟩,
    ⟨(some 10), (some (8, true)), .mv (.t 1)⟩,
    ⟨(some 11), (some (8, true)), .nilck (.t 9)⟩,
    ⟨(some 12), (some (8, true)), .fieldAddr 2 (.t 11)⟩,
    ⟨(some 13), (some (8, true)), .idxArr 2 1 (.t 12) (.t 10)⟩,
    ⟨(some 14), (some (8, true)), .load none (.t 13)⟩,
    ⟨(some 15), none, .pick (.t 8) (.t 14) (.c (.bool false))⟩,
    ⟨(some 4), none, .mv (.t 15)⟩])
  (.ret))⟩
theorem a29_ok : funcC Tryz.prog Tryz.f29 = some a29 := by kernel_rfl
/-- permafrost/blk.Write -/
def a30 : AFunc := ⟨4, [.cell 8 (some 4), .tmp 9],
  .seq (.ops [⟨(some 8), none, .alloc none [(.slice none 0 0), (.int .i64 (0)), (.int .i64 (0)), (.str [])]⟩,
    ⟨(some 9), none, .mv (.c (.int .i64 (0)))⟩])
  (.seq (.ops [⟨(some 16), none, .mv (.t 1)⟩,
    ⟨(some 17), none, .append 2 16 none (.c (.slice none 0 0)) (.t 16)⟩,
    ⟨(some 18), none, .mv (.t 2)⟩,
    ⟨(some 19), none, .lenStr (.t 18)⟩,
    ⟨(some 20), none, .mv (.t 3)⟩,
    ⟨(some 21), none, .mv (.t 2)⟩,
    ⟨(some 22), none, .call (.c (.func (.func 57) [] [])) [(.t 21)]⟩,
    ⟨(some 23), none, .build [(.slice none 0 0), (.int .i64 (0)), (.int .i64 (0)), (.str [])] [(0, 1, (.t 17)), (1, 1, (.t 19)), (2, 1, (.t 20)), (3, 1, (.t 22))]⟩,
    ⟨(some 10), none, .alloc none [(.slice none 0 0), (.int .i64 (0)), (.int .i64 (0)), (.str [])]⟩,
    ⟨none, none, .store 4 (.t 10) (.t 23)⟩])
  (.seq (.seq (.ops [⟨(some 24), none, .load (some 4) (.t 10)⟩,
    ⟨(some 25), none, .call (.c (.func (.func 36) [] [])) [(.t 24)]⟩,
    ⟨(some 26), none, .bin .neq (.t 25) (.c (.int .i64 (0)))⟩])
  (.cond (.t 26)
   (.seq (.ops [⟨(some 27), none, .build [(.slice none 0 0), (.int .i64 (0)), (.int .i64 (0)), (.str [])] []⟩,
     ⟨none, none, .store 4 (.t 8) (.t 27)⟩,
     ⟨(some 9), none, .mv (.c (.int .i64 (1)))⟩])
   (.ret))
   (.skip)))
  (.seq (.ops [⟨(some 11), none, .mv (.c (.bool false))⟩])
  (.seq (.seq (.ops [⟨(some 28), none, .mv (.t 1)⟩,
    ⟨(some 29), none, .lenSl (.t 28)⟩,
    ⟨(some 30), none, .mv (.c (.int .i64 (0)))⟩])
  (.block 0 (.loop (.seq (.ops [⟨(some 31), none, .bin .lss (.t 30) (.t 29)⟩])
    (.seq (.cond (.t 31)
     (.skip)
     (.exit 0))
    (.seq (.block 1 (.seq (.ops [⟨(some 32), none, .idxSl 2 (.t 28) (.t 30)⟩,
       ⟨(some 33), none, .load (some 2) (.t 32)⟩,
       ⟨(some 13), none, .alloc none [(.int .i64 (0)), (.int .i64 (0))]⟩,
       ⟨none, none, .store 2 (.t 13) (.t 33)⟩])
     (.seq (.seq (.draw [⟨⟨(some 34), none, .fieldAddr 1 (.t 13)⟩, 0, []⟩,
       ⟨⟨(some 35), none, .load none (.t 34)⟩, 1, [0]⟩,
       ⟨⟨(some 36), none, .mv (.t 0)⟩, 2, []⟩,
       ⟨⟨(some 37), none, .fieldAddr 0 (.t 13)⟩, 3, []⟩,
       ⟨⟨(some 38), none, .load none (.t 37)⟩, 4, [3]⟩,
       ⟨⟨(some 39), none, .call (.c (.func (.func 21) [] [])) [(.t 36), (.t 38)]⟩, 5, [2, 3, 4]⟩,
       ⟨⟨(some 40), none, .bin .geq (.t 35) (.t 39)⟩, 6, [0, 1, 2, 3, 4, 5]⟩])
     (.cond (.t 40)
      (.seq (.ops [⟨(some 41), none, .build [(.slice none 0 0), (.int .i64 (0)), (.int .i64 (0)), (.str [])] []⟩,
        ⟨none, none, .store 4 (.t 8) (.t 41)⟩,
        ⟨(some 9), none, .mv (.c (.int .i64 (1)))⟩])
      (.ret))
      (.skip)))
     (.ops [⟨(some 42), none, .mv (.t 11)⟩,
       ⟨(some 43), none, .mv (.t 42)⟩,
       ⟨(some 44), (some (43, false)), .mv (.t 0)⟩,
       ⟨(some 45), (some (43, false)), .fieldAddr 0 (.t 13)⟩,
       ⟨(some 46), (some (43, false)), .load none (.t 45)⟩,
       ⟨(some 47), (some (43, false)), .call (.c (.func (.func 29) [] [])) [(.t 44), (.t 46)]⟩,
       ⟨(some 48), none, .pick (.t 43) (.c (.bool true)) (.t 47)⟩,
       ⟨(some 11), none, .mv (.t 48)⟩]))))
    (.ops [⟨(some 49), none, .bin .add (.t 30) (.c (.int .i64 (1)))⟩,
      ⟨(some 30), none, .mv (.t 49)⟩])))))))
  (.seq (.seq (.ops [⟨(some 50), none, .mv (.t 11)⟩])
  (.cond (.t 50)
   (.seq (.ops [⟨(some 51), none, .build [(.slice none 0 0), (.int .i64 (0)), (.int .i64 (0)), (.str [])] []⟩,
     ⟨none, none, .store 4 (.t 8) (.t 51)⟩,
     ⟨(some 9), none, .mv (.c (.int .i64 (5)))⟩])
   (.ret))
   (.skip)))
  (.seq (.seq (.ops [⟨(some 52), none, .mv (.t 1)⟩,
    ⟨(some 53), none, .lenSl (.t 52)⟩,
    ⟨(some 54), none, .mv (.c (.int .i64 (0)))⟩])
  (.block 2 (.loop (.seq (.ops [⟨(some 55), none, .bin .lss (.t 54) (.t 53)⟩])
    (.seq (.cond (.t 55)
     (.skip)
     (.exit 2))
    (.seq (.block 3 (.seq (.ops [⟨(some 56), none, .idxSl 2 (.t 52) (.t 54)⟩,
       ⟨(some 57), none, .load (some 2) (.t 56)⟩,
       ⟨(some 15), none, .alloc none [(.int .i64 (0)), (.int .i64 (0))]⟩,
       ⟨none, none, .store 2 (.t 15) (.t 57)⟩])
     (.ops [⟨(some 58), none, .mv (.t 0)⟩,
       ⟨(some 59), none, .load (some 2) (.t 15)⟩,
       ⟨(some 60), none, .mv (.t 2)⟩,
       ⟨(some 61), none, .call (.c (.func (.func 58) [] [])) [(.t 58), (.t 59), (.t 60)]⟩])))
    (.ops [⟨(some 62), none, .bin .add (.t 54) (.c (.int .i64 (1)))⟩,
      ⟨(some 54), none, .mv (.t 62)⟩])))))))
  (.seq (.ops [⟨(some 63), none, .load (some 4) (.t 10)⟩,
    ⟨none, none, .store 4 (.t 8) (.t 63)⟩,
    ⟨(some 9), none, .mv (.c (.int .i64 (0)))⟩])
  (.ret))))))))⟩
theorem a30_ok : funcC Tryz.prog Tryz.f30 = some a30 := by kernel_rfl
/-- permafrost/ptr.Encode -/
def a31 : AFunc := ⟨1, [.tmp 2, .tmp 3],
  .seq (.ops [⟨(some 1), none, .box (.t 0)⟩,
    ⟨(some 2), none, .mv (.c (.str []))⟩,
    ⟨(some 3), none, .mv (.c (.int .i64 (0)))⟩])
  (.seq (.seq (.ops [⟨(some 8), none, .load (some 4) (.t 1)⟩,
    ⟨(some 9), none, .call (.c (.func (.func 36) [] [])) [(.t 8)]⟩,
    ⟨(some 4), none, .mv (.t 9)⟩])
  (.seq (.ops [⟨(some 10), none, .mv (.t 4)⟩,
    ⟨(some 11), none, .bin .neq (.t 10) (.c (.int .i64 (0)))⟩])
  (.cond (.t 11)
   (.seq (.ops [⟨(some 12), none, .mv (.t 4)⟩,
     ⟨(some 2), none, .mv (.c (.str []))⟩,
     ⟨(some 3), none, .mv (.t 12)⟩])
   (.ret))
   (.skip))))
  (.seq (.ops [⟨(some 5), none, .alloc (some 110) [(.ptr none), (.slice none 0 0)]⟩])
  (.seq (.ops [⟨(some 13), none, .fieldAddr 0 (.t 1)⟩,
    ⟨(some 14), none, .load none (.t 13)⟩,
    ⟨(some 15), none, .lenSl (.t 14)⟩,
    ⟨(some 16), none, .call (.c (.func (.func 60) [] [])) [(.t 15), (.c (.int .i64 (1)))]⟩,
    ⟨(some 17), none, .call (.c (.func (.func 59) [] [])) [(.t 5), (.t 16)]⟩])
  (.seq (.seq (.ops [⟨(some 18), none, .fieldAddr 0 (.t 1)⟩,
    ⟨(some 19), none, .load none (.t 18)⟩,
    ⟨(some 20), none, .lenSl (.t 19)⟩,
    ⟨(some 21), none, .mv (.c (.int .i64 (0)))⟩])
  (.block 0 (.loop (.seq (.ops [⟨(some 22), none, .bin .lss (.t 21) (.t 20)⟩])
    (.seq (.cond (.t 22)
     (.skip)
     (.exit 0))
    (.seq (.block 1 (.seq (.ops [⟨(some 23), none, .idxSl 2 (.t 19) (.t 21)⟩,
       ⟨(some 24), none, .load (some 2) (.t 23)⟩,
       ⟨(some 7), none, .alloc none [(.int .i64 (0)), (.int .i64 (0))]⟩,
       ⟨none, none, .store 2 (.t 7) (.t 24)⟩])
     (.draw [⟨⟨(some 25), none, .fieldAddr 0 (.t 7)⟩, 0, []⟩,
       ⟨⟨(some 26), none, .load none (.t 25)⟩, 1, [0]⟩,
       ⟨⟨(some 28), none, .fieldAddr 1 (.t 7)⟩, 3, []⟩,
       ⟨⟨(some 29), none, .load none (.t 28)⟩, 4, [2]⟩,
       ⟨⟨(some 27), none, .call (.c (.func (.func 60) [] [])) [(.t 26), (.c (.int .i64 (1)))]⟩, 2, [0, 1]⟩,
       ⟨⟨(some 30), none, .call (.c (.func (.func 60) [] [])) [(.t 29), (.c (.int .i64 (2)))]⟩, 5, [0, 1, 2, 3, 4]⟩,
       ⟨⟨(some 31), none, .bin .add (.t 27) (.t 30)⟩, 6, [0, 1, 2, 3, 4, 5]⟩,
       ⟨⟨(some 32), none, .call (.c (.func (.func 59) [] [])) [(.t 5), (.t 31)]⟩, 7, [0, 1, 2, 3, 4, 5, 6]⟩])))
    (.ops [⟨(some 33), none, .bin .add (.t 21) (.c (.int .i64 (1)))⟩,
      ⟨(some 21), none, .mv (.t 33)⟩])))))))
  (.seq (.draw [⟨⟨(some 34), none, .fieldAddr 1 (.t 1)⟩, 0, []⟩,
    ⟨⟨(some 35), none, .load none (.t 34)⟩, 1, [0]⟩,
    ⟨⟨(some 37), none, .fieldAddr 2 (.t 1)⟩, 3, []⟩,
    ⟨⟨(some 38), none, .load none (.t 37)⟩, 4, [2]⟩,
    ⟨⟨(some 41), none, .fieldAddr 3 (.t 1)⟩, 7, []⟩,
    ⟨⟨(some 42), none, .load none (.t 41)⟩, 8, [4]⟩,
    ⟨⟨(some 36), none, .call (.c (.func (.func 60) [] [])) [(.t 35), (.c (.int .i64 (2)))]⟩, 2, [0, 1]⟩,
    ⟨⟨(some 39), none, .call (.c (.func (.func 60) [] [])) [(.t 38), (.c (.int .i64 (6)))]⟩, 5, [0, 1, 2, 3, 6]⟩,
    ⟨⟨(some 40), none, .bin .add (.t 36) (.t 39)⟩, 6, [0, 1, 2, 3, 6, 7]⟩,
    ⟨⟨(some 43), none, .bin .add (.t 40) (.t 42)⟩, 9, [0, 1, 2, 3, 4, 5, 6, 7, 8]⟩,
    ⟨⟨(some 44), none, .call (.c (.func (.func 59) [] [])) [(.t 5), (.t 43)]⟩, 10, [0, 1, 2, 3, 4, 5, 6, 7, 8, 9]⟩])
  (.seq (.ops [⟨(some 45), none, .call (.c (.func (.func 61) [] [])) [(.t 5)]⟩,
    ⟨(some 2), none, .mv (.t 45)⟩,
    ⟨(some 3), none, .mv (.c (.int .i64 (0)))⟩])
  (.ret)))))))⟩
theorem a31_ok : funcC Tryz.prog Tryz.f31 = some a31 := by kernel_rfl
/-- permafrost/fixed.Read -/
def a32 : AFunc := ⟨1, [.tmp 2],
  .seq (.ops [⟨(some 2), none, .mv (.c (.ptr none))⟩])
  (.seq (.ops [⟨(some 3), none, .mv (.t 0)⟩,
    ⟨(some 4), none, .build [(.str []), (.int .i64 (0))] [(0, 1, (.t 3))]⟩,
    ⟨(some 5), none, .box (.t 4)⟩,
    ⟨(some 2), none, .mv (.t 5)⟩])
  (.ret))⟩
theorem a32_ok : funcC Tryz.prog Tryz.f32 = some a32 := by kernel_rfl
/-- (*permafrost/fixed.Reader).Number -/
def a33 : AFunc := ⟨2, [.tmp 4],
  .seq (.ops [⟨(some 4), none, .mv (.c (.int .i64 (0)))⟩])
  (.seq (.seq (.ops [⟨(some 9), none, .mv (.t 0)⟩,
    ⟨(some 10), none, .eq false (.flat .ptr) (.t 9) (.c (.ptr none))⟩])
  (.cond (.t 10)
   (.seq (.ops [⟨(some 4), none, .mv (.c (.int .i64 (0)))⟩])
   (.ret))
   (.skip)))
  (.seq (.ops [⟨(some 5), none, .mv (.c (.int .i64 (0)))⟩])
  (.seq (.seq (.ops [⟨(some 11), none, .mv (.t 1)⟩,
    ⟨(some 12), none, .call (.c (.func (.func 62) [] [])) [(.t 11)]⟩,
    ⟨(some 13), none, .bin .lss (.t 12) (.c (.int .i64 (0)))⟩])
  (.cond (.t 13)
   (.ops [⟨(some 5), none, .mv (.c (.int .i64 (1)))⟩])
   (.skip)))
  (.seq (.ops [⟨(some 14), none, .mv (.t 0)⟩,
    ⟨(some 15), none, .mv (.t 1)⟩,
    ⟨(some 16), none, .mv (.t 5)⟩,
    ⟨(some 17), none, .call (.c (.func (.func 63) [] [])) [(.t 14), (.t 15), (.t 16)]⟩,
    ⟨(some 6), none, .mv (.t 17)⟩])
  (.seq (.ops [⟨(some 7), none, .mv (.c (.int .i64 (0)))⟩])
  (.seq (.seq (.ops [⟨(some 18), none, .mv (.t 6)⟩,
    ⟨(some 19), none, .lenStr (.t 18)⟩,
    ⟨(some 20), none, .mv (.c (.int .i64 (0)))⟩])
  (.block 0 (.loop (.seq (.ops [⟨(some 21), none, .bin .lss (.t 20) (.t 19)⟩])
    (.seq (.cond (.t 21)
     (.skip)
     (.exit 0))
    (.seq (.block 1 (.seq (.ops [⟨(some 22), none, .mv (.t 20)⟩,
       ⟨(some 8), none, .mv (.t 22)⟩])
     (.ops [⟨(some 23), none, .mv (.t 7)⟩,
       ⟨(some 24), none, .mv (.t 6)⟩,
       ⟨(some 25), none, .mv (.t 8)⟩,
       ⟨(some 26), none, .atStr (.t 24) (.t 25)⟩,
       ⟨(some 27), none, .toInt .i64 (.t 26)⟩,
       ⟨(some 28), none, .mv (.t 8)⟩,
       ⟨(some 29), none, .bin .mul (.c (.int .i64 (8))) (.t 28)⟩,
       ⟨(some 30), none, .bin .shl (.t 27) (.t 29)⟩,
       ⟨(some 31), none, .bin .or (.t 23) (.t 30)⟩,
       ⟨(some 7), none, .mv (.t 31)⟩])))
    (.ops [⟨(some 32), none, .bin .add (.t 20) (.c (.int .i64 (1)))⟩,
      ⟨(some 20), none, .mv (.t 32)⟩])))))))
  (.seq (.ops [⟨(some 33), none, .mv (.t 7)⟩,
    ⟨(some 4), none, .mv (.t 33)⟩])
  (.ret))))))))⟩
theorem a33_ok : funcC Tryz.prog Tryz.f33 = some a33 := by kernel_rfl
/-- (*permafrost/fixed.Reader).Bytes -/
def a34 : AFunc := ⟨2, [.tmp 4],
  .seq (.ops [⟨(some 4), none, .mv (.c (.str []))⟩])
  (.seq (.seq (.ops [⟨(some 6), none, .mv (.t 0)⟩,
    ⟨(some 7), none, .eq false (.flat .ptr) (.t 6) (.c (.ptr none))⟩])
  (.cond (.t 7)
   (.seq (.ops [⟨(some 4), none, .mv (.c (.str []))⟩])
   (.ret))
   (.skip)))
  (.seq (.ops [⟨(some 5), none, .mv (.c (.int .i64 (0)))⟩])
  (.seq (.seq (.ops [⟨(some 8), none, .mv (.t 1)⟩,
    ⟨(some 9), none, .bin .lss (.t 8) (.c (.int .i64 (0)))⟩])
  (.cond (.t 9)
   (.ops [⟨(some 5), none, .mv (.c (.int .i64 (1)))⟩])
   (.skip)))
  (.seq (.ops [⟨(some 10), none, .mv (.t 0)⟩,
    ⟨(some 11), none, .mv (.t 1)⟩,
    ⟨(some 12), none, .mv (.t 5)⟩,
    ⟨(some 13), none, .call (.c (.func (.func 63) [] [])) [(.t 10), (.t 11), (.t 12)]⟩,
    ⟨(some 4), none, .mv (.t 13)⟩])
  (.ret)))))⟩
theorem a34_ok : funcC Tryz.prog Tryz.f34 = some a34 := by kernel_rfl
/-- (*permafrost/fixed.Reader).End -/
def a35 : AFunc := ⟨1, [.tmp 2],
  .seq (.ops [⟨(some 2), none, .mv (.c (.int .i64 (0)))⟩])
  (.seq (.block 0 (.seq (.ops [⟨(some 4), none, .mv (.t 0)⟩,
     ⟨(some 5), none, .eq false (.flat .ptr) (.t 4) (.c (.ptr none))⟩,
     ⟨(some 3), none, .mv (.t 5)⟩])
   (.cond (.t 3)
    (.seq (.ops [⟨(some 2), none, .mv (.c (.int .i64 (1)))⟩])
    (.ret))
    (.seq (.ops [⟨(some 7), none, .mv (.t 0)⟩,
      ⟨(some 8), none, .nilck (.t 7)⟩,
      ⟨(some 9), none, .fieldAddr 1 (.t 8)⟩,
      ⟨(some 10), none, .load none (.t 9)⟩,
      ⟨(some 11), none, .bin .eql (.t 10) (.c (.int .i64 (0)))⟩,
      ⟨(some 12), none, .mv (.t 11)⟩,
      ⟨(some 13), (some (12, true)), .mv (.t 0)⟩,
      ⟨(some 14), (some (12, true)), .nilck (.t 13)⟩,
      ⟨(some 15), (some (12, true)), .fieldAddr 0 (.t 14)⟩,
      ⟨(some 16), (some (12, true)), .load none (.t 15)⟩,
      ⟨(some 17), (some (12, true)), .bin .neq (.t 16) (.c (.str []))⟩,
      ⟨(some 18), none, .pick (.t 12) (.t 17) (.c (.bool false))⟩,
      ⟨(some 6), none, .mv (.t 18)⟩])
    (.cond (.t 6)
     (.seq (.ops [⟨(some 2), none, .mv (.c (.int .i64 (3)))⟩])
     (.ret))
     (.skip))))))
  (.seq (.ops [⟨(some 19), none, .mv (.t 0)⟩,
    ⟨(some 20), none, .nilck (.t 19)⟩,
    ⟨(some 21), none, .fieldAddr 1 (.t 20)⟩,
    ⟨(some 22), none, .load none (.t 21)⟩,
    ⟨(some 2), none, .mv (.t 22)⟩])
  (.ret)))⟩
theorem a35_ok : funcC Tryz.prog Tryz.f35 = some a35 := by kernel_rfl
/-- permafrost/ptr.Check -/
def a36 : AFunc := ⟨1, [.tmp 2],
  .seq (.ops [⟨(some 1), none, .box (.t 0)⟩,
    ⟨(some 2), none, .mv (.c (.int .i64 (0)))⟩])
  (.seq (.seq (.ops [⟨(some 6), none, .fieldAddr 0 (.t 1)⟩,
    ⟨(some 7), none, .load none (.t 6)⟩,
    ⟨(some 8), none, .lenSl (.t 7)⟩,
    ⟨(some 9), none, .mv (.c (.int .i64 (0)))⟩])
  (.block 0 (.loop (.seq (.ops [⟨(some 10), none, .bin .lss (.t 9) (.t 8)⟩])
    (.seq (.cond (.t 10)
     (.skip)
     (.exit 0))
    (.seq (.block 1 (.seq (.ops [⟨(some 11), none, .idxSl 2 (.t 7) (.t 9)⟩,
       ⟨(some 12), none, .load (some 2) (.t 11)⟩,
       ⟨(some 4), none, .alloc none [(.int .i64 (0)), (.int .i64 (0))]⟩,
       ⟨none, none, .store 2 (.t 4) (.t 12)⟩])
     (.seq (.ops [⟨(some 13), none, .fieldAddr 0 (.t 4)⟩,
       ⟨(some 14), none, .load none (.t 13)⟩,
       ⟨(some 15), none, .call (.c (.func (.func 64) [] [])) [(.t 14), (.c (.int .i64 (1)))]⟩,
       ⟨(some 16), none, .not (.t 15)⟩,
       ⟨(some 17), none, .mv (.t 16)⟩,
       ⟨(some 18), (some (17, false)), .fieldAddr 1 (.t 4)⟩,
       ⟨(some 19), (some (17, false)), .load none (.t 18)⟩,
       ⟨(some 20), (some (17, false)), .call (.c (.func (.func 64) [] [])) [(.t 19), (.c (.int .i64 (511)))]⟩,
       ⟨(some 21), (some (17, false)), .not (.t 20)⟩,
       ⟨(some 22), none, .pick (.t 17) (.c (.bool true)) (.t 21)⟩])
     (.cond (.t 22)
      (.seq (.ops [⟨(some 2), none, .mv (.c (.int .i64 (1)))⟩])
      (.ret))
      (.skip)))))
    (.ops [⟨(some 23), none, .bin .add (.t 9) (.c (.int .i64 (1)))⟩,
      ⟨(some 9), none, .mv (.t 23)⟩])))))))
  (.seq (.ops [⟨(some 24), none, .fieldAddr 0 (.t 1)⟩,
    ⟨(some 25), none, .load none (.t 24)⟩,
    ⟨(some 26), none, .lenSl (.t 25)⟩,
    ⟨(some 5), none, .mv (.t 26)⟩])
  (.seq (.seq (.draw [⟨⟨(some 27), none, .mv (.t 5)⟩, 0, []⟩,
    ⟨⟨(some 28), none, .bin .lss (.t 27) (.c (.int .i64 (1)))⟩, 1, [0]⟩,
    ⟨⟨(some 29), none, .mv (.t 28)⟩, 2, [0, 1]⟩,
    ⟨⟨(some 30), (some (29, false)), .mv (.t 5)⟩, 3, [0, 1, 2]⟩,
    ⟨⟨(some 31), (some (29, false)), .bin .gtr (.t 30) (.c (.int .i64 (2)))⟩, 4, [0, 1, 2, 3]⟩,
    ⟨⟨(some 32), none, .pick (.t 29) (.c (.bool true)) (.t 31)⟩, 5, [0, 1, 2, 3, 4]⟩,
    ⟨⟨(some 33), none, .mv (.t 32)⟩, 6, [0, 1, 2, 3, 4, 5]⟩,
    ⟨⟨(some 34), (some (33, false)), .mv (.t 5)⟩, 7, [0, 1, 2, 3, 4, 5, 6]⟩,
    ⟨⟨(some 35), (some (33, false)), .bin .eql (.t 34) (.c (.int .i64 (2)))⟩, 8, [0, 1, 2, 3, 4, 5, 6, 7]⟩,
    ⟨⟨(some 36), (some (33, false)), .mv (.t 35)⟩, 9, [0, 1, 2, 3, 4, 5, 6, 7, 8]⟩,
    ⟨⟨(some 37), (some (36, true)), .fieldAddr 0 (.t 1)⟩, 10, [0, 1, 2, 3, 4, 5, 6, 7, 8, 9]⟩,
    ⟨⟨(some 38), (some (36, true)), .load none (.t 37)⟩, 11, [0, 1, 2, 3, 4, 5, 6, 7, 8, 9, 10]⟩,
    ⟨⟨(some 39), (some (36, true)), .idxSl 2 (.t 38) (.c (.int .i64 (0)))⟩, 12, [0, 1, 2, 3, 4, 5, 6, 7, 8, 9, 10, 11]⟩,
    ⟨⟨(some 40), (some (36, true)), .fieldAddr 0 (.t 39)⟩, 13, [0, 1, 2, 3, 4, 5, 6, 7, 8, 9, 10, 11, 12]⟩,
    ⟨⟨(some 41), (some (36, true)), .load none (.t 40)⟩, 14, [0, 1, 2, 3, 4, 5, 6, 7, 8, 9, 10, 11, 12, 13]⟩,
    ⟨⟨(some 42), (some (36, true)), .fieldAddr 0 (.t 1)⟩, 15, [0, 1, 2, 3, 4, 5, 6, 7, 8, 9]⟩,
    ⟨⟨(some 43), (some (36, true)), .load none (.t 42)⟩, 16, [0, 1, 2, 3, 4, 5, 6, 7, 8, 9, 15]⟩,
    ⟨⟨(some 44), (some (36, true)), .idxSl 2 (.t 43) (.c (.int .i64 (1)))⟩, 17, [0, 1, 2, 3, 4, 5, 6, 7, 8, 9, 15, 16]⟩,
    ⟨⟨(some 45), (some (36, true)), .fieldAddr 0 (.t 44)⟩, 18, [0, 1, 2, 3, 4, 5, 6, 7, 8, 9, 15, 16, 17]⟩,
    ⟨⟨(some 46), (some (36, true)), .load none (.t 45)⟩, 19, [0, 1, 2, 3, 4, 5, 6, 7, 8, 9, 15, 16, 17, 18]⟩,
    ⟨⟨(some 47), (some (36, true)), .bin .eql (.t 41) (.t 46)⟩, 20, [0, 1, 2, 3, 4, 5, 6, 7, 8, 9, 10, 11, 12, 13, 14, 15, 16, 17, 18, 19]⟩,
    ⟨⟨(some 48), (some (33, false)), .pick (.t 36) (.t 47) (.c (.bool false))⟩, 21, [0, 1, 2, 3, 4, 5, 6, 7, 8, 9, 10, 11, 12, 13, 14, 15, 16, 17, 18, 19, 20]⟩,
    ⟨⟨(some 49), none, .pick (.t 33) (.c (.bool true)) (.t 48)⟩, 22, [0, 1, 2, 3, 4, 5, 6, 7, 8, 9, 10, 11, 12, 13, 14, 15, 16, 17, 18, 19, 20, 21]⟩,
    ⟨⟨(some 50), none, .mv (.t 49)⟩, 23, [0, 1, 2, 3, 4, 5, 6, 7, 8, 9, 10, 11, 12, 13, 14, 15, 16, 17, 18, 19, 20, 21, 22]⟩,
    ⟨⟨(some 51), (some (50, false)), .fieldAddr 1 (.t 1)⟩, 24, [0, 1, 2, 3, 4, 5, 6, 7, 8, 9, 10, 11, 12, 13, 14, 15, 16, 17, 18, 19, 20, 21, 22, 23]⟩,
    ⟨⟨(some 52), (some (50, false)), .load none (.t 51)⟩, 25, [0, 1, 2, 3, 4, 5, 6, 7, 8, 9, 10, 11, 12, 13, 14, 15, 16, 17, 18, 19, 20, 21, 22, 23, 24]⟩,
    ⟨⟨(some 53), (some (50, false)), .call (.c (.func (.func 64) [] [])) [(.t 52), (.c (.int .i64 (960)))]⟩, 26, [0, 1, 2, 3, 4, 5, 6, 7, 8, 9, 10, 11, 12, 13, 14, 15, 16, 17, 18, 19, 20, 21, 22, 23, 24, 25]⟩,
    ⟨⟨(some 54), (some (50, false)), .not (.t 53)⟩, 27, [0, 1, 2, 3, 4, 5, 6, 7, 8, 9, 10, 11, 12, 13, 14, 15, 16, 17, 18, 19, 20, 21, 22, 23, 24, 25, 26]⟩,
    ⟨⟨(some 55), none, .pick (.t 50) (.c (.bool true)) (.t 54)⟩, 28, [0, 1, 2, 3, 4, 5, 6, 7, 8, 9, 10, 11, 12, 13, 14, 15, 16, 17, 18, 19, 20, 21, 22, 23, 24, 25, 26, 27]⟩,
    ⟨⟨(some 56), none, .mv (.t 55)⟩, 29, [0, 1, 2, 3, 4, 5, 6, 7, 8, 9, 10, 11, 12, 13, 14, 15, 16, 17, 18, 19, 20, 21, 22, 23, 24, 25, 26, 27, 28]⟩,
    ⟨⟨(some 57), (some (56, false)), .fieldAddr 2 (.t 1)⟩, 30, [0, 1, 2, 3, 4, 5, 6, 7, 8, 9, 10, 11, 12, 13, 14, 15, 16, 17, 18, 19, 20, 21, 22, 23, 24, 25, 26, 27, 28, 29]⟩,
    ⟨⟨(some 58), (some (56, false)), .load none (.t 57)⟩, 31, [0, 1, 2, 3, 4, 5, 6, 7, 8, 9, 10, 11, 12, 13, 14, 15, 16, 17, 18, 19, 20, 21, 22, 23, 24, 25, 26, 27, 28, 29, 30]⟩,
    ⟨⟨(some 59), (some (56, false)), .call (.c (.func (.func 64) [] [])) [(.t 58), (.c (.int .i64 (1099511627776)))]⟩, 32, [0, 1, 2, 3, 4, 5, 6, 7, 8, 9, 10, 11, 12, 13, 14, 15, 16, 17, 18, 19, 20, 21, 22, 23, 24, 25, 26, 27, 28, 29, 30, 31]⟩,
    ⟨⟨(some 60), (some (56, false)), .not (.t 59)⟩, 33, [0, 1, 2, 3, 4, 5, 6, 7, 8, 9, 10, 11, 12, 13, 14, 15, 16, 17, 18, 19, 20, 21, 22, 23, 24, 25, 26, 27, 28, 29, 30, 31, 32]⟩,
    ⟨⟨(some 61), none, .pick (.t 56) (.c (.bool true)) (.t 60)⟩, 34, [0, 1, 2, 3, 4, 5, 6, 7, 8, 9, 10, 11, 12, 13, 14, 15, 16, 17, 18, 19, 20, 21, 22, 23, 24, 25, 26, 27, 28, 29, 30, 31, 32, 33]⟩,
    ⟨⟨(some 62), none, .mv (.t 61)⟩, 35, [0, 1, 2, 3, 4, 5, 6, 7, 8, 9, 10, 11, 12, 13, 14, 15, 16, 17, 18, 19, 20, 21, 22, 23, 24, 25, 26, 27, 28, 29, 30, 31, 32, 33, 34]⟩,
    ⟨⟨(some 63), (some (62, false)), .fieldAddr 3 (.t 1)⟩, 36, [0, 1, 2, 3, 4, 5, 6, 7, 8, 9, 10, 11, 12, 13, 14, 15, 16, 17, 18, 19, 20, 21, 22, 23, 24, 25, 26, 27, 28, 29, 30, 31, 32, 33, 34, 35]⟩,
    ⟨⟨(some 64), (some (62, false)), .load none (.t 63)⟩, 37, [0, 1, 2, 3, 4, 5, 6, 7, 8, 9, 10, 11, 12, 13, 14, 15, 16, 17, 18, 19, 20, 21, 22, 23, 24, 25, 26, 27, 28, 29, 30, 31, 32, 33, 34, 35, 36]⟩,
    ⟨⟨(some 65), (some (62, false)), .lenStr (.t 64)⟩, 38, [0, 1, 2, 3, 4, 5, 6, 7, 8, 9, 10, 11, 12, 13, 14, 15, 16, 17, 18, 19, 20, 21, 22, 23, 24, 25, 26, 27, 28, 29, 30, 31, 32, 33, 34, 35, 36, 37]⟩,
    ⟨⟨(some 66), (some (62, false)), .bin .neq (.t 65) (.c (.int .i64 (32)))⟩, 39, [0, 1, 2, 3, 4, 5, 6, 7, 8, 9, 10, 11, 12, 13, 14, 15, 16, 17, 18, 19, 20, 21, 22, 23, 24, 25, 26, 27, 28, 29, 30, 31, 32, 33, 34, 35, 36, 37, 38]⟩,
    ⟨⟨(some 67), none, .pick (.t 62) (.c (.bool true)) (.t 66)⟩, 40, [0, 1, 2, 3, 4, 5, 6, 7, 8, 9, 10, 11, 12, 13, 14, 15, 16, 17, 18, 19, 20, 21, 22, 23, 24, 25, 26, 27, 28, 29, 30, 31, 32, 33, 34, 35, 36, 37, 38, 39]⟩])
  (.cond (.t 67)
   (.seq (.ops [⟨(some 2), none, .mv (.c (.int .i64 (1)))⟩])
   (.ret))
   (.skip)))
  (.seq (.ops [⟨(some 2), none, .mv (.c (.int .i64 (0)))⟩])
  (.ret)))))⟩
theorem a36_ok : funcC Tryz.prog Tryz.f36 = some a36 := by kernel_rfl
/-- (*permafrost/second.Second).Find -/
def a37 : AFunc := ⟨2, [.tmp 4, .tmp 5],
  .seq (.ops [⟨(some 4), none, .mv (.c (.str []))⟩,
    ⟨(some 5), none, .mv (.c (.bool false))⟩])
  (.seq (.seq (.ops [⟨(some 11), none, .mv (.t 0)⟩,
    ⟨(some 12), none, .eq false (.flat .ptr) (.t 11) (.c (.ptr none))⟩])
  (.cond (.t 12)
   (.seq (.ops [⟨(some 4), none, .mv (.c (.str []))⟩,
     ⟨(some 5), none, .mv (.c (.bool false))⟩])
   (.ret))
   (.skip)))
  (.seq (.ops [⟨(some 14), none, .mv (.t 0)⟩,
    ⟨(some 15), none, .mv (.t 1)⟩,
    ⟨(some 16), none, .call (.c (.func (.func 65) [] [])) [(.t 14), (.t 15)]⟩,
    ⟨(some 13), none, .mv (.t 16)⟩,
    ⟨(some 17), none, .extract 0 (.t 13)⟩,
    ⟨(some 18), none, .extract 1 (.t 13)⟩,
    ⟨(some 6), none, .mv (.t 17)⟩,
    ⟨(some 7), none, .mv (.t 18)⟩])
  (.seq (.seq (.ops [⟨(some 19), none, .mv (.t 7)⟩,
    ⟨(some 20), none, .not (.t 19)⟩])
  (.cond (.t 20)
   (.seq (.ops [⟨(some 4), none, .mv (.c (.str []))⟩,
     ⟨(some 5), none, .mv (.c (.bool false))⟩])
   (.ret))
   (.skip)))
  (.seq (.ops [⟨(some 21), none, .mv (.t 0)⟩,
    ⟨(some 22), none, .nilck (.t 21)⟩,
    ⟨(some 23), none, .fieldAddr 3 (.t 22)⟩,
    ⟨(some 24), none, .load none (.t 23)⟩,
    ⟨(some 25), none, .mv (.t 6)⟩,
    ⟨(some 26), none, .lookup .int (.agg [(.str []), (.str []), (.int .i64 (0)), (.int .i64 (0))]) false (.t 24) (.t 25)⟩,
    ⟨(some 8), none, .alloc none [(.str []), (.str []), (.int .i64 (0)), (.int .i64 (0))]⟩,
    ⟨none, none, .store 4 (.t 8) (.t 26)⟩])
  (.seq (.draw [⟨⟨(some 28), none, .mv (.t 0)⟩, 0, []⟩,
    ⟨⟨(some 29), none, .nilck (.t 28)⟩, 1, [0]⟩,
    ⟨⟨(some 30), none, .fieldAddr 0 (.t 29)⟩, 2, [0, 1]⟩,
    ⟨⟨(some 31), none, .load none (.t 30)⟩, 3, [0, 1, 2]⟩,
    ⟨⟨(some 32), none, .fieldAddr 3 (.t 8)⟩, 4, []⟩,
    ⟨⟨(some 33), none, .load none (.t 32)⟩, 5, [4]⟩,
    ⟨⟨(some 34), none, .build [(.int .i64 (0)), (.int .i64 (0))] [(0, 1, (.c (.int .i64 (1)))), (1, 1, (.t 33))]⟩, 6, [4, 5]⟩,
    ⟨⟨(some 35), none, .call (.c (.func (.func 66) [] [])) [(.t 31), (.t 34)]⟩, 7, [0, 1, 2, 3, 4, 5, 6]⟩,
    ⟨⟨(some 27), none, .mv (.t 35)⟩, 8, [0, 1, 2, 3, 4, 5, 6, 7]⟩,
    ⟨⟨(some 36), none, .extract 0 (.t 27)⟩, 9, [0, 1, 2, 3, 4, 5, 6, 7, 8]⟩,
    ⟨⟨(some 37), none, .extract 1 (.t 27)⟩, 10, [0, 1, 2, 3, 4, 5, 6, 7, 8]⟩,
    ⟨⟨(some 9), none, .mv (.t 36)⟩, 11, [0, 1, 2, 3, 4, 5, 6, 7, 8, 9]⟩,
    ⟨⟨(some 10), none, .mv (.t 37)⟩, 12, [0, 1, 2, 3, 4, 5, 6, 7, 8, 9, 10, 11]⟩])
  (.seq (.seq (.draw [⟨⟨(some 38), none, .mv (.t 10)⟩, 0, []⟩,
    ⟨⟨(some 39), none, .bin .eql (.t 38) (.c (.int .i64 (0)))⟩, 1, [0]⟩,
    ⟨⟨(some 40), none, .mv (.t 39)⟩, 2, [0, 1]⟩,
    ⟨⟨(some 41), (some (40, true)), .mv (.t 9)⟩, 3, [0, 1, 2]⟩,
    ⟨⟨(some 42), (some (40, true)), .lenStr (.t 41)⟩, 4, [0, 1, 2, 3]⟩,
    ⟨⟨(some 43), (some (40, true)), .fieldAddr 2 (.t 8)⟩, 5, [0, 1, 2]⟩,
    ⟨⟨(some 44), (some (40, true)), .load none (.t 43)⟩, 6, [0, 1, 2, 5]⟩,
    ⟨⟨(some 45), (some (40, true)), .bin .eql (.t 42) (.t 44)⟩, 7, [0, 1, 2, 3, 4, 5, 6]⟩,
    ⟨⟨(some 46), none, .pick (.t 40) (.t 45) (.c (.bool false))⟩, 8, [0, 1, 2, 3, 4, 5, 6, 7]⟩,
    ⟨⟨(some 47), none, .mv (.t 46)⟩, 9, [0, 1, 2, 3, 4, 5, 6, 7, 8]⟩,
    ⟨⟨(some 48), (some (47, true)), .mv (.t 9)⟩, 10, [0, 1, 2, 3, 4, 5, 6, 7, 8, 9]⟩,
    ⟨⟨(some 50), (some (47, true)), .fieldAddr 1 (.t 8)⟩, 12, [0, 1, 2, 3, 4, 5, 6, 7, 8, 9]⟩,
    ⟨⟨(some 51), (some (47, true)), .load none (.t 50)⟩, 13, [0, 1, 2, 3, 4, 5, 6, 7, 8, 9, 11]⟩,
    ⟨⟨(some 49), (some (47, true)), .call (.c (.func (.func 57) [] [])) [(.t 48)]⟩, 11, [0, 1, 2, 3, 4, 5, 6, 7, 8, 9, 10]⟩,
    ⟨⟨(some 52), (some (47, true)), .bin .eql (.t 49) (.t 51)⟩, 14, [0, 1, 2, 3, 4, 5, 6, 7, 8, 9, 10, 11, 12, 13]⟩,
    ⟨⟨(some 53), none, .pick (.t 47) (.t 52) (.c (.bool false))⟩, 15, [0, 1, 2, 3, 4, 5, 6, 7, 8, 9, 10, 11, 12, 13, 14]⟩])
  (.cond (.t 53)
   (.seq (.ops [⟨(some 54), none, .mv (.t 9)⟩,
     ⟨(some 4), none, .mv (.t 54)⟩,
     ⟨(some 5), none, .mv (.c (.bool true))⟩])
   (.ret))
   (.skip)))
  (.seq (.ops [⟨(some 55), none, .mv (.t 0)⟩,
    ⟨(some 56), none, .nilck (.t 55)⟩,
    ⟨(some 57), none, .fieldAddr 3 (.t 56)⟩,
    ⟨(some 58), none, .load none (.t 57)⟩,
    ⟨(some 59), none, .mv (.t 6)⟩,
    ⟨none, none, .mapDel .int (.t 58) (.t 59)⟩])
  (.seq (.ops [⟨(some 4), none, .mv (.c (.str []))⟩,
    ⟨(some 5), none, .mv (.c (.bool false))⟩])
  (.ret)))))))))⟩
theorem a37_ok : funcC Tryz.prog Tryz.f37 = some a37 := by kernel_rfl
/-- permafrost/blk.Read -/
def a38 : AFunc := ⟨2, [.cell 4 none, .cell 5 none, .cell 6 none],
  .seq (.ops [⟨(some 3), none, .box (.t 1)⟩,
    ⟨(some 4), none, .alloc none [(.str [])]⟩,
    ⟨(some 5), none, .alloc none [(.int .i64 (0))]⟩,
    ⟨(some 6), none, .alloc none [(.int .i64 (0))]⟩])
  (.seq (.seq (.ops [⟨(some 10), none, .load (some 4) (.t 3)⟩,
    ⟨(some 11), none, .call (.c (.func (.func 36) [] [])) [(.t 10)]⟩,
    ⟨(some 12), none, .bin .neq (.t 11) (.c (.int .i64 (0)))⟩])
  (.cond (.t 12)
   (.seq (.ops [⟨none, none, .store 1 (.t 4) (.c (.str []))⟩,
     ⟨none, none, .store 1 (.t 5) (.c (.int .i64 (0)))⟩,
     ⟨none, none, .store 1 (.t 6) (.c (.int .i64 (1)))⟩])
   (.ret))
   (.skip)))
  (.seq (.ops [⟨(some 7), none, .alloc none [(.int .i64 (0))]⟩,
    ⟨none, none, .store 1 (.t 7) (.c (.int .i64 (0)))⟩])
  (.seq (.seq (.ops [⟨(some 13), none, .mv (.t 0)⟩,
    ⟨(some 14), none, .load (some 4) (.t 3)⟩,
    ⟨(some 15), none, .call (.c (.func (.func 67) [] [])) [(.t 13), (.t 14)]⟩])
  (.block 0 (.range 23 (.t 15) [16, 17]
    (.seq (.ops [⟨(some 8), none, .mv (.t 16)⟩])
    (.ops [⟨(some 9), none, .mv (.t 17)⟩]))
    (.block 1 (.seq (.seq (.ops [⟨(some 18), none, .mv (.t 9)⟩])
     (.cond (.t 18)
      (.seq (.draw [⟨⟨(some 19), none, .mv (.t 8)⟩, 0, []⟩,
        ⟨⟨(some 20), none, .load none (.t 7)⟩, 1, []⟩,
        ⟨⟨none, none, .store 1 (.t 4) (.t 19)⟩, 2, [0]⟩,
        ⟨⟨none, none, .store 1 (.t 5) (.t 20)⟩, 3, [0, 1, 2]⟩,
        ⟨⟨none, none, .store 1 (.t 6) (.c (.int .i64 (0)))⟩, 4, [0, 1, 2, 3]⟩])
      (.ret))
      (.skip)))
     (.ops [⟨(some 21), none, .load none (.t 7)⟩,
       ⟨(some 22), none, .bin .add (.t 21) (.c (.int .i64 (1)))⟩,
       ⟨none, none, .store 1 (.t 7) (.t 22)⟩]))))))
  (.seq (.ops [⟨none, none, .store 1 (.t 4) (.c (.str []))⟩,
    ⟨none, none, .store 1 (.t 5) (.c (.int .i64 (0)))⟩,
    ⟨none, none, .store 1 (.t 6) (.c (.int .i64 (7)))⟩])
  (.ret)))))⟩
theorem a38_ok : funcC Tryz.prog Tryz.f38 = some a38 := by kernel_rfl
/-- (*permafrost/arc.Arc).Ask -/
def a39 : AFunc := ⟨2, [.tmp 4, .tmp 5],
  .seq (.ops [⟨(some 4), none, .mv (.c (.bool false))⟩,
    ⟨(some 5), none, .mv (.c (.str []))⟩])
  (.seq (.seq (.ops [⟨(some 9), none, .mv (.t 0)⟩,
    ⟨(some 10), none, .eq false (.flat .ptr) (.t 9) (.c (.ptr none))⟩,
    ⟨(some 11), none, .mv (.t 10)⟩,
    ⟨(some 12), (some (11, false)), .mv (.t 1)⟩,
    ⟨(some 13), (some (11, false)), .bin .eql (.t 12) (.c (.str []))⟩,
    ⟨(some 14), none, .pick (.t 11) (.c (.bool true)) (.t 13)⟩])
  (.cond (.t 14)
   (.seq (.ops [⟨(some 4), none, .mv (.c (.bool false))⟩,
     ⟨(some 5), none, .mv (.c (.str []))⟩])
   (.ret))
   (.skip)))
  (.seq (.draw [⟨⟨(some 15), none, .mv (.t 0)⟩, 0, []⟩,
    ⟨⟨(some 16), none, .nilck (.t 15)⟩, 1, [0]⟩,
    ⟨⟨(some 17), none, .fieldAddr 2 (.t 16)⟩, 2, [0, 1]⟩,
    ⟨⟨(some 19), none, .mv (.t 0)⟩, 4, []⟩,
    ⟨⟨(some 20), none, .nilck (.t 19)⟩, 5, [3]⟩,
    ⟨⟨(some 21), none, .fieldAddr 3 (.t 20)⟩, 6, [3, 4]⟩,
    ⟨⟨(some 18), none, .call (.c (.func (.func 68) [] [])) [(.t 17)]⟩, 3, [0, 1, 2]⟩,
    ⟨⟨(some 22), none, .call (.c (.func (.func 68) [] [])) [(.t 21)]⟩, 7, [0, 1, 2, 3, 4, 5, 6]⟩,
    ⟨⟨(some 6), none, .mv (.t 18)⟩, 8, [0, 1, 2, 3, 4, 5, 6, 7]⟩,
    ⟨⟨(some 7), none, .mv (.t 22)⟩, 9, [0, 1, 2, 3, 4, 5, 6, 7, 8]⟩])
  (.seq (.ops [⟨(some 8), none, .mv (.c (.str []))⟩])
  (.seq (.block 0 (.seq (.ops [⟨(some 32), none, .mv (.t 0)⟩,
     ⟨(some 33), none, .mv (.t 1)⟩,
     ⟨(some 34), none, .call (.c (.func (.func 69) [] [])) [(.t 32), (.t 33)]⟩,
     ⟨(some 31), none, .mv (.t 34)⟩])
   (.cond (.t 31)
    (.seq (.ops [⟨(some 35), none, .mv (.t 0)⟩,
      ⟨(some 36), none, .nilck (.t 35)⟩,
      ⟨(some 37), none, .fieldAddr 1 (.t 36)⟩,
      ⟨(some 38), none, .mv (.t 1)⟩,
      ⟨(some 39), none, .call (.c (.func (.func 70) [] [])) [(.t 37), (.t 38)]⟩])
    (.seq (.ops [⟨(some 4), none, .mv (.c (.bool true))⟩,
      ⟨(some 5), none, .mv (.c (.str []))⟩])
    (.ret)))
    (.seq (.ops [⟨(some 41), none, .mv (.t 6)⟩,
      ⟨(some 42), none, .mv (.t 0)⟩,
      ⟨(some 43), none, .nilck (.t 42)⟩,
      ⟨(some 44), none, .fieldAddr 2 (.t 43)⟩,
      ⟨(some 45), none, .call (.c (.func (.func 68) [] [])) [(.t 44)]⟩,
      ⟨(some 46), none, .bin .gtr (.t 41) (.t 45)⟩,
      ⟨(some 40), none, .mv (.t 46)⟩])
    (.cond (.t 40)
     (.seq (.draw [⟨⟨(some 47), none, .mv (.t 0)⟩, 0, []⟩,
       ⟨⟨(some 48), none, .mv (.t 0)⟩, 1, []⟩,
       ⟨⟨(some 49), none, .nilck (.t 48)⟩, 2, [1]⟩,
       ⟨⟨(some 50), none, .fieldAddr 5 (.t 49)⟩, 3, [1, 2]⟩,
       ⟨⟨(some 51), none, .load none (.t 50)⟩, 4, [1, 2, 3]⟩,
       ⟨⟨(some 52), none, .mv (.t 0)⟩, 5, []⟩,
       ⟨⟨(some 53), none, .nilck (.t 52)⟩, 6, [5]⟩,
       ⟨⟨(some 54), none, .fieldAddr 4 (.t 53)⟩, 7, [5, 6]⟩,
       ⟨⟨(some 55), none, .load none (.t 54)⟩, 8, [5, 6, 7]⟩,
       ⟨⟨(some 56), none, .mv (.t 7)⟩, 9, []⟩,
       ⟨⟨(some 57), none, .mv (.t 6)⟩, 10, []⟩,
       ⟨⟨(some 58), none, .bin .quo (.t 56) (.t 57)⟩, 11, [9, 10]⟩,
       ⟨⟨(some 59), none, .max2 (.t 58) (.c (.int .i64 (1)))⟩, 12, [9, 10, 11]⟩,
       ⟨⟨(some 60), none, .bin .add (.t 55) (.t 59)⟩, 13, [5, 6, 7, 8, 9, 10, 11, 12]⟩,
       ⟨⟨(some 61), none, .min2 (.t 51) (.t 60)⟩, 14, [1, 2, 3, 4, 5, 6, 7, 8, 9, 10, 11, 12, 13]⟩,
       ⟨⟨(some 62), none, .nilck (.t 47)⟩, 15, [0, 1, 2, 3, 4, 5, 6, 7, 8, 9, 10, 11, 12, 13, 14]⟩,
       ⟨⟨(some 63), none, .fieldAddr 4 (.t 62)⟩, 16, [0, 1, 2, 3, 4, 5, 6, 7, 8, 9, 10, 11, 12, 13, 14, 15]⟩,
       ⟨⟨none, none, .store 1 (.t 63) (.t 61)⟩, 17, [0, 1, 2, 3, 4, 5, 6, 7, 8, 9, 10, 11, 12, 13, 14, 15, 16]⟩])
     (.ops [⟨(some 64), none, .mv (.t 0)⟩,
       ⟨(some 65), none, .call (.c (.func (.func 71) [] [])) [(.t 64), (.c (.bool false))]⟩,
       ⟨(some 8), none, .mv (.t 65)⟩]))
     (.seq (.ops [⟨(some 67), none, .mv (.t 7)⟩,
       ⟨(some 68), none, .mv (.t 0)⟩,
       ⟨(some 69), none, .nilck (.t 68)⟩,
       ⟨(some 70), none, .fieldAddr 3 (.t 69)⟩,
       ⟨(some 71), none, .call (.c (.func (.func 68) [] [])) [(.t 70)]⟩,
       ⟨(some 72), none, .bin .gtr (.t 67) (.t 71)⟩,
       ⟨(some 66), none, .mv (.t 72)⟩])
     (.cond (.t 66)
      (.seq (.draw [⟨⟨(some 73), none, .mv (.t 0)⟩, 0, []⟩,
        ⟨⟨(some 74), none, .mv (.t 0)⟩, 1, []⟩,
        ⟨⟨(some 75), none, .nilck (.t 74)⟩, 2, [1]⟩,
        ⟨⟨(some 76), none, .fieldAddr 4 (.t 75)⟩, 3, [1, 2]⟩,
        ⟨⟨(some 77), none, .load none (.t 76)⟩, 4, [1, 2, 3]⟩,
        ⟨⟨(some 78), none, .mv (.t 6)⟩, 5, []⟩,
        ⟨⟨(some 79), none, .mv (.t 7)⟩, 6, []⟩,
        ⟨⟨(some 80), none, .bin .quo (.t 78) (.t 79)⟩, 7, [5, 6]⟩,
        ⟨⟨(some 81), none, .max2 (.t 80) (.c (.int .i64 (1)))⟩, 8, [5, 6, 7]⟩,
        ⟨⟨(some 82), none, .bin .sub (.t 77) (.t 81)⟩, 9, [1, 2, 3, 4, 5, 6, 7, 8]⟩,
        ⟨⟨(some 83), none, .max2 (.c (.int .i64 (0))) (.t 82)⟩, 10, [1, 2, 3, 4, 5, 6, 7, 8, 9]⟩,
        ⟨⟨(some 84), none, .nilck (.t 73)⟩, 11, [0, 1, 2, 3, 4, 5, 6, 7, 8, 9, 10]⟩,
        ⟨⟨(some 85), none, .fieldAddr 4 (.t 84)⟩, 12, [0, 1, 2, 3, 4, 5, 6, 7, 8, 9, 10, 11]⟩,
        ⟨⟨none, none, .store 1 (.t 85) (.t 83)⟩, 13, [0, 1, 2, 3, 4, 5, 6, 7, 8, 9, 10, 11, 12]⟩])
      (.ops [⟨(some 86), none, .mv (.t 0)⟩,
        ⟨(some 87), none, .call (.c (.func (.func 71) [] [])) [(.t 86), (.c (.bool true))]⟩,
        ⟨(some 8), none, .mv (.t 87)⟩]))
      (.seq (.ops [⟨(some 23), none, .mv (.t 0)⟩,
        ⟨(some 24), none, .call (.c (.func (.func 72) [] [])) [(.t 23)]⟩,
        ⟨(some 8), none, .mv (.t 24)⟩])
      (.seq (.ops [⟨(some 25), none, .mv (.t 0)⟩,
        ⟨(some 26), none, .nilck (.t 25)⟩,
        ⟨(some 27), none, .fieldAddr 0 (.t 26)⟩,
        ⟨(some 28), none, .mv (.t 1)⟩,
        ⟨(some 29), none, .call (.c (.func (.func 70) [] [])) [(.t 27), (.t 28)]⟩])
      (.seq (.ops [⟨(some 30), none, .mv (.t 8)⟩,
        ⟨(some 4), none, .mv (.c (.bool false))⟩,
        ⟨(some 5), none, .mv (.t 30)⟩])
      (.ret)))))))))))
  (.seq (.ops [⟨(some 88), none, .mv (.t 0)⟩,
    ⟨(some 89), none, .nilck (.t 88)⟩,
    ⟨(some 90), none, .fieldAddr 1 (.t 89)⟩,
    ⟨(some 91), none, .mv (.t 1)⟩,
    ⟨(some 92), none, .call (.c (.func (.func 70) [] [])) [(.t 90), (.t 91)]⟩])
  (.seq (.ops [⟨(some 93), none, .mv (.t 8)⟩,
    ⟨(some 4), none, .mv (.c (.bool false))⟩,
    ⟨(some 5), none, .mv (.t 93)⟩])
  (.ret)))))))⟩
theorem a39_ok : funcC Tryz.prog Tryz.f39 = some a39 := by kernel_rfl
/-- (*permafrost/second.Second).Feed -/
def a40 : AFunc := ⟨3, [.tmp 6],
  .seq (.ops [⟨(some 3), none, .box (.t 0)⟩,
    ⟨(some 4), none, .box (.t 1)⟩,
    ⟨(some 5), none, .box (.t 2)⟩,
    ⟨(some 6), none, .mv (.c (.bool false))⟩])
  (.seq (.seq (.ops [⟨(some 12), none, .load none (.t 3)⟩,
    ⟨(some 13), none, .eq false (.flat .ptr) (.t 12) (.c (.ptr none))⟩,
    ⟨(some 14), none, .mv (.t 13)⟩,
    ⟨(some 15), (some (14, false)), .load none (.t 4)⟩,
    ⟨(some 16), (some (14, false)), .bin .eql (.t 15) (.c (.str []))⟩,
    ⟨(some 17), none, .pick (.t 14) (.c (.bool true)) (.t 16)⟩,
    ⟨(some 18), none, .mv (.t 17)⟩,
    ⟨(some 19), (some (18, false)), .load none (.t 4)⟩,
    ⟨(some 20), (some (18, false)), .lenStr (.t 19)⟩,
    ⟨(some 21), (some (18, false)), .bin .gtr (.t 20) (.c (.int .i64 (60)))⟩,
    ⟨(some 22), none, .pick (.t 18) (.c (.bool true)) (.t 21)⟩,
    ⟨(some 23), none, .mv (.t 22)⟩,
    ⟨(some 24), (some (23, false)), .load none (.t 5)⟩,
    ⟨(some 25), (some (23, false)), .lenStr (.t 24)⟩,
    ⟨(some 26), (some (23, false)), .bin .gtr (.t 25) (.c (.int .i64 (960)))⟩,
    ⟨(some 27), none, .pick (.t 23) (.c (.bool true)) (.t 26)⟩,
    ⟨(some 28), none, .mv (.t 27)⟩,
    ⟨(some 29), (some (28, false)), .load none (.t 3)⟩,
    ⟨(some 30), (some (28, false)), .nilck (.t 29)⟩,
    ⟨(some 31), (some (28, false)), .fieldAddr 0 (.t 30)⟩,
    ⟨(some 32), (some (28, false)), .load none (.t 31)⟩,
    ⟨(some 33), (some (28, false)), .call (.c (.func (.func 29) [] [])) [(.t 32), (.c (.int .i64 (1)))]⟩,
    ⟨(some 34), none, .pick (.t 28) (.c (.bool true)) (.t 33)⟩])
  (.cond (.t 34)
   (.seq (.ops [⟨(some 6), none, .mv (.c (.bool false))⟩])
   (.ret))
   (.skip)))
  (.seq (.seq (.ops [⟨(some 36), none, .load none (.t 3)⟩,
    ⟨(some 37), none, .load none (.t 4)⟩,
    ⟨(some 38), none, .call (.c (.func (.func 65) [] [])) [(.t 36), (.t 37)]⟩,
    ⟨(some 35), none, .mv (.t 38)⟩,
    ⟨(some 39), none, .extract 0 (.t 35)⟩,
    ⟨(some 40), none, .extract 1 (.t 35)⟩,
    ⟨(some 7), none, .mv (.t 39)⟩,
    ⟨(some 8), none, .mv (.t 40)⟩])
  (.seq (.ops [⟨(some 41), none, .mv (.t 8)⟩])
  (.cond (.t 41)
   (.seq (.ops [⟨(some 6), none, .mv (.c (.bool true))⟩])
   (.ret))
   (.skip))))
  (.seq (.ops [⟨(some 42), none, .load none (.t 3)⟩,
    ⟨(some 43), none, .nilck (.t 42)⟩,
    ⟨(some 44), none, .fieldAddr 5 (.t 43)⟩,
    ⟨(some 45), none, .load none (.t 44)⟩,
    ⟨(some 46), none, .bin .quo (.t 45) (.c (.int .i64 (7)))⟩,
    ⟨(some 9), none, .alloc none [(.int .i64 (0))]⟩,
    ⟨none, none, .store 1 (.t 9) (.t 46)⟩])
  (.seq (.seq (.ops [⟨(some 47), none, .load none (.t 3)⟩,
    ⟨(some 48), none, .load none (.t 9)⟩,
    ⟨(some 49), none, .call (.c (.func (.func 73) [] [])) [(.t 47), (.t 48)]⟩])
  (.block 0 (.range 110 (.t 49) [50, 51]
    (.seq (.ops [⟨(some 10), none, .mv (.t 50)⟩])
    (.ops [⟨(some 11), none, .mv (.t 51)⟩]))
    (.block 1 (.seq (.seq (.ops [⟨(some 52), none, .mv (.t 10)⟩,
       ⟨(some 53), none, .load none (.t 3)⟩,
       ⟨(some 54), none, .nilck (.t 53)⟩,
       ⟨(some 55), none, .fieldAddr 5 (.t 54)⟩,
       ⟨(some 56), none, .load none (.t 55)⟩,
       ⟨(some 57), none, .bin .neq (.t 52) (.t 56)⟩])
     (.cond (.t 57)
      (.exit 1)
      (.skip)))
     (.seq (.ops [⟨(some 58), none, .load none (.t 3)⟩,
       ⟨(some 59), none, .nilck (.t 58)⟩,
       ⟨(some 60), none, .fieldAddr 3 (.t 59)⟩,
       ⟨(some 61), none, .load none (.t 60)⟩,
       ⟨(some 62), none, .mv (.t 10)⟩,
       ⟨none, none, .mapDel .int (.t 61) (.t 62)⟩])
     (.seq (.ops [⟨(some 63), none, .load none (.t 3)⟩,
       ⟨(some 64), none, .load none (.t 9)⟩,
       ⟨(some 65), none, .call (.c (.func (.func 74) [] [])) [(.t 63), (.t 64)]⟩])
     (.seq (.ops [⟨(some 66), none, .load none (.t 3)⟩,
       ⟨(some 67), none, .nilck (.t 66)⟩,
       ⟨(some 68), none, .fieldAddr 0 (.t 67)⟩,
       ⟨(some 69), none, .load none (.t 68)⟩,
       ⟨(some 70), none, .call (.c (.func (.func 75) [] [])) [(.t 69)]⟩])
     (.seq (.draw [⟨⟨(some 71), none, .load none (.t 3)⟩, 0, []⟩,
       ⟨⟨(some 72), none, .nilck (.t 71)⟩, 1, [0]⟩,
       ⟨⟨(some 73), none, .fieldAddr 0 (.t 72)⟩, 2, [0, 1]⟩,
       ⟨⟨(some 74), none, .load none (.t 73)⟩, 3, [0, 1, 2]⟩,
       ⟨⟨(some 75), none, .mv (.t 11)⟩, 4, []⟩,
       ⟨⟨(some 76), none, .build [(.int .i64 (0)), (.int .i64 (0))] [(0, 1, (.c (.int .i64 (1)))), (1, 1, (.t 75))]⟩, 5, [4]⟩,
       ⟨⟨(some 77), none, .load none (.t 5)⟩, 6, []⟩,
       ⟨⟨(some 78), none, .call (.c (.func (.func 58) [] [])) [(.t 74), (.t 76), (.t 77)]⟩, 7, [0, 1, 2, 3, 4, 5, 6]⟩])
     (.seq (.ops [⟨(some 79), none, .load none (.t 3)⟩,
       ⟨(some 80), none, .nilck (.t 79)⟩,
       ⟨(some 81), none, .fieldAddr 0 (.t 80)⟩,
       ⟨(some 82), none, .load none (.t 81)⟩,
       ⟨(some 83), none, .call (.c (.func (.func 75) [] [])) [(.t 82)]⟩])
     (.seq (.draw [⟨⟨(some 84), none, .load none (.t 3)⟩, 0, []⟩,
       ⟨⟨(some 85), none, .nilck (.t 84)⟩, 1, [0]⟩,
       ⟨⟨(some 86), none, .fieldAddr 3 (.t 85)⟩, 2, [0, 1]⟩,
       ⟨⟨(some 87), none, .load none (.t 86)⟩, 3, [0, 1, 2]⟩,
       ⟨⟨(some 88), none, .mv (.t 10)⟩, 4, []⟩,
       ⟨⟨(some 89), none, .load none (.t 4)⟩, 5, []⟩,
       ⟨⟨(some 90), none, .load none (.t 5)⟩, 6, []⟩,
       ⟨⟨(some 92), none, .load none (.t 5)⟩, 8, []⟩,
       ⟨⟨(some 93), none, .lenStr (.t 92)⟩, 9, [7]⟩,
       ⟨⟨(some 94), none, .mv (.t 11)⟩, 10, []⟩,
       ⟨⟨(some 91), none, .call (.c (.func (.func 57) [] [])) [(.t 90)]⟩, 7, [6]⟩,
       ⟨⟨(some 95), none, .build [(.str []), (.str []), (.int .i64 (0)), (.int .i64 (0))] [(0, 1, (.t 89)), (1, 1, (.t 91)), (2, 1, (.t 93)), (3, 1, (.t 94))]⟩, 11, [5, 6, 7, 8, 9, 10]⟩,
       ⟨⟨none, none, .mapUpd .int (.t 87) (.t 88) (.t 95)⟩, 12, [0, 1, 2, 3, 4, 5, 6, 7, 8, 9, 10, 11]⟩])
     (.ops [⟨(some 96), none, .load none (.t 3)⟩,
       ⟨(some 97), none, .load none (.t 9)⟩,
       ⟨(some 98), none, .call (.c (.func (.func 74) [] [])) [(.t 96), (.t 97)]⟩]))))))))))))
  (.seq (.draw [⟨⟨(some 99), none, .load none (.t 3)⟩, 0, []⟩,
    ⟨⟨(some 100), none, .load none (.t 3)⟩, 1, []⟩,
    ⟨⟨(some 101), none, .nilck (.t 100)⟩, 2, [1]⟩,
    ⟨⟨(some 102), none, .fieldAddr 5 (.t 101)⟩, 3, [1, 2]⟩,
    ⟨⟨(some 103), none, .load none (.t 102)⟩, 4, [1, 2, 3]⟩,
    ⟨⟨(some 104), none, .bin .add (.t 103) (.c (.int .i64 (1)))⟩, 5, [1, 2, 3, 4]⟩,
    ⟨⟨(some 105), none, .load none (.t 3)⟩, 6, []⟩,
    ⟨⟨(some 106), none, .call (.c (.func (.func 76) [] [])) [(.t 105)]⟩, 7, [6]⟩,
    ⟨⟨(some 107), none, .bin .rem (.t 104) (.t 106)⟩, 8, [1, 2, 3, 4, 5, 6, 7]⟩,
    ⟨⟨(some 108), none, .nilck (.t 99)⟩, 9, [0, 1, 2, 3, 4, 5, 6, 7, 8]⟩,
    ⟨⟨(some 109), none, .fieldAddr 5 (.t 108)⟩, 10, [0, 1, 2, 3, 4, 5, 6, 7, 8, 9]⟩,
    ⟨⟨none, none, .store 1 (.t 109) (.t 107)⟩, 11, [0, 1, 2, 3, 4, 5, 6, 7, 8, 9, 10]⟩])
  (.seq (.ops [⟨(some 6), none, .mv (.c (.bool true))⟩])
  (.ret)))))))⟩
theorem a40_ok : funcC Tryz.prog Tryz.f40 = some a40 := by kernel_rfl
/-- permafrost/space.Total -/
def a41 : AFunc := ⟨1, [.tmp 2],
  .seq (.ops [⟨(some 2), none, .mv (.c (.int .i64 (0)))⟩])
  (.seq (.ops [⟨(some 3), none, .mv (.c (.int .i64 (0)))⟩])
  (.seq (.seq (.ops [⟨(some 6), none, .mv (.t 0)⟩,
    ⟨(some 7), none, .call (.c (.func (.func 53) [] [])) [(.t 6)]⟩])
  (.cond (.t 7)
   (.seq (.ops [⟨(some 8), none, .mv (.t 0)⟩,
     ⟨(some 9), none, .lenSl (.t 8)⟩,
     ⟨(some 10), none, .mv (.c (.int .i64 (0)))⟩])
   (.block 0 (.loop (.seq (.ops [⟨(some 11), none, .bin .lss (.t 10) (.t 9)⟩])
     (.seq (.cond (.t 11)
      (.skip)
      (.exit 0))
     (.seq (.block 1 (.seq (.ops [⟨(some 12), none, .idxSl 2 (.t 8) (.t 10)⟩,
        ⟨(some 13), none, .load (some 2) (.t 12)⟩,
        ⟨(some 5), none, .alloc none [(.int .i64 (0)), (.int .i64 (0))]⟩,
        ⟨none, none, .store 2 (.t 5) (.t 13)⟩])
      (.ops [⟨(some 14), none, .mv (.t 3)⟩,
        ⟨(some 15), none, .fieldAddr 1 (.t 5)⟩,
        ⟨(some 16), none, .load none (.t 15)⟩,
        ⟨(some 17), none, .bin .add (.t 14) (.t 16)⟩,
        ⟨(some 3), none, .mv (.t 17)⟩])))
     (.ops [⟨(some 18), none, .bin .add (.t 10) (.c (.int .i64 (1)))⟩,
       ⟨(some 10), none, .mv (.t 18)⟩])))))))
   (.skip)))
  (.seq (.ops [⟨(some 19), none, .mv (.t 3)⟩,
    ⟨(some 2), none, .mv (.t 19)⟩])
  (.ret))))⟩
theorem a41_ok : funcC Tryz.prog Tryz.f41 = some a41 := by kernel_rfl
/-- (*permafrost/dev.Devs).is -/
def a42 : AFunc := ⟨2, [.tmp 4],
  .seq (.ops [⟨(some 4), none, .mv (.c (.bool false))⟩])
  (.seq (.ops [⟨(some 5), none, .mv (.t 0)⟩,
    ⟨(some 6), none, .eq true (.flat .ptr) (.t 5) (.c (.ptr none))⟩,
    ⟨(some 7), none, .mv (.t 6)⟩,
    ⟨(some 8), (some (7, true)), .mv (.t 1)⟩,
    ⟨(some 9), (some (7, true)), .bin .eql (.t 8) (.c (.int .i64 (0)))⟩,
    ⟨(some 10), (some (7, true)), .mv (.t 9)⟩,
    ⟨(some 11), (some (10, false)), .mv (.t 1)⟩,
    ⟨(some 12), (some (10, false)), .bin .eql (.t 11) (.c (.int .i64 (1)))⟩,
    ⟨(some 13), (some (7, true)), .pick (.t 10) (.c (.bool true)) (.t 12)⟩,
    ⟨(some 14), none, .pick (.t 7) (.t 13) (.c (.bool false))⟩,
    ⟨(some 4), none, .mv (.t 14)⟩])
  (.ret))⟩
theorem a42_ok : funcC Tryz.prog Tryz.f42 = some a42 := by kernel_rfl
/-- (permafrost/space.Run).end -/
def a43 : AFunc := ⟨1, [.tmp 2],
  .seq (.ops [⟨(some 1), none, .box (.t 0)⟩,
    ⟨(some 2), none, .mv (.c (.int .i64 (0)))⟩])
  (.seq (.ops [⟨(some 3), none, .fieldAddr 0 (.t 1)⟩,
    ⟨(some 4), none, .load none (.t 3)⟩,
    ⟨(some 5), none, .fieldAddr 1 (.t 1)⟩,
    ⟨(some 6), none, .load none (.t 5)⟩,
    ⟨(some 7), none, .bin .add (.t 4) (.t 6)⟩,
    ⟨(some 2), none, .mv (.t 7)⟩])
  (.ret))⟩
theorem a43_ok : funcC Tryz.prog Tryz.f43 = some a43 := by kernel_rfl
/-- permafrost/class.Check -/
def a44 : AFunc := ⟨1, [.tmp 2],
  .seq (.ops [⟨(some 1), none, .box (.t 0)⟩,
    ⟨(some 2), none, .mv (.c (.int .i64 (0)))⟩])
  (.seq (.seq (.ops [⟨(some 3), none, .fieldAddr 2 (.t 1)⟩,
    ⟨(some 4), none, .load none (.t 3)⟩,
    ⟨(some 5), none, .call (.c (.func (.func 51) [] [])) [(.t 4), (.c (.int .i64 (256)))]⟩,
    ⟨(some 6), none, .not (.t 5)⟩,
    ⟨(some 7), none, .mv (.t 6)⟩,
    ⟨(some 8), (some (7, false)), .fieldAddr 3 (.t 1)⟩,
    ⟨(some 9), (some (7, false)), .load none (.t 8)⟩,
    ⟨(some 10), (some (7, false)), .call (.c (.func (.func 51) [] [])) [(.t 9), (.c (.int .i64 (64)))]⟩,
    ⟨(some 11), (some (7, false)), .not (.t 10)⟩,
    ⟨(some 12), none, .pick (.t 7) (.c (.bool true)) (.t 11)⟩,
    ⟨(some 13), none, .mv (.t 12)⟩,
    ⟨(some 14), (some (13, false)), .fieldAddr 4 (.t 1)⟩,
    ⟨(some 15), (some (13, false)), .load none (.t 14)⟩,
    ⟨(some 16), (some (13, false)), .call (.c (.func (.func 51) [] [])) [(.t 15), (.c (.int .i64 (508)))]⟩,
    ⟨(some 17), (some (13, false)), .not (.t 16)⟩,
    ⟨(some 18), none, .pick (.t 13) (.c (.bool true)) (.t 17)⟩])
  (.cond (.t 18)
   (.seq (.ops [⟨(some 2), none, .mv (.c (.int .i64 (1)))⟩])
   (.ret))
   (.skip)))
  (.seq (.ops [⟨(some 2), none, .mv (.c (.int .i64 (0)))⟩])
  (.ret)))⟩
theorem a44_ok : funcC Tryz.prog Tryz.f44 = some a44 := by kernel_rfl
/-- permafrost/arc.New -/
def a45 : AFunc := ⟨1, [.tmp 2],
  .seq (.ops [⟨(some 2), none, .mv (.c (.ptr none))⟩])
  (.seq (.seq (.ops [⟨(some 3), none, .mv (.t 0)⟩,
    ⟨(some 4), none, .bin .lss (.t 3) (.c (.int .i64 (1)))⟩,
    ⟨(some 5), none, .mv (.t 4)⟩,
    ⟨(some 6), (some (5, false)), .mv (.t 0)⟩,
    ⟨(some 7), (some (5, false)), .bin .gtr (.t 6) (.c (.int .i64 (64)))⟩,
    ⟨(some 8), none, .pick (.t 5) (.c (.bool true)) (.t 7)⟩])
  (.cond (.t 8)
   (.seq (.ops [⟨(some 2), none, .mv (.c (.ptr none))⟩])
   (.ret))
   (.skip)))
  (.seq (.ops [⟨(some 9), none, .mv (.t 0)⟩,
    ⟨(some 10), none, .build [(.slice none 0 0), (.slice none 0 0), (.slice none 0 0), (.slice none 0 0), (.int .i64 (0)), (.int .i64 (0))] [(5, 1, (.t 9))]⟩,
    ⟨(some 11), none, .box (.t 10)⟩,
    ⟨(some 2), none, .mv (.t 11)⟩])
  (.ret)))⟩
theorem a45_ok : funcC Tryz.prog Tryz.f45 = some a45 := by kernel_rfl
/-- permafrost/second.Open -/
def a46 : AFunc := ⟨3, [.tmp 6],
  .seq (.ops [⟨(some 6), none, .mv (.c (.ptr none))⟩])
  (.seq (.seq (.ops [⟨(some 12), none, .mv (.t 0)⟩,
    ⟨(some 13), none, .eq false (.flat .ptr) (.t 12) (.c (.ptr none))⟩,
    ⟨(some 14), none, .mv (.t 13)⟩,
    ⟨(some 15), (some (14, false)), .mv (.t 1)⟩,
    ⟨(some 16), (some (14, false)), .bin .lss (.t 15) (.c (.int .i64 (0)))⟩,
    ⟨(some 17), none, .pick (.t 14) (.c (.bool true)) (.t 16)⟩,
    ⟨(some 18), none, .mv (.t 17)⟩,
    ⟨(some 19), (some (18, false)), .mv (.t 2)⟩,
    ⟨(some 20), (some (18, false)), .bin .lss (.t 19) (.c (.int .i64 (2)))⟩,
    ⟨(some 21), none, .pick (.t 18) (.c (.bool true)) (.t 20)⟩,
    ⟨(some 22), none, .mv (.t 21)⟩,
    ⟨(some 23), (some (22, false)), .mv (.t 1)⟩,
    ⟨(some 24), (some (22, false)), .mv (.t 0)⟩,
    ⟨(some 25), (some (22, false)), .call (.c (.func (.func 21) [] [])) [(.t 24), (.c (.int .i64 (1)))]⟩,
    ⟨(some 26), (some (22, false)), .mv (.t 2)⟩,
    ⟨(some 27), (some (22, false)), .bin .sub (.t 25) (.t 26)⟩,
    ⟨(some 28), (some (22, false)), .bin .gtr (.t 23) (.t 27)⟩,
    ⟨(some 29), none, .pick (.t 22) (.c (.bool true)) (.t 28)⟩])
  (.cond (.t 29)
   (.seq (.ops [⟨(some 6), none, .mv (.c (.ptr none))⟩])
   (.ret))
   (.skip)))
  (.seq (.ops [⟨(some 30), none, .mv (.t 0)⟩,
    ⟨(some 31), none, .mv (.t 1)⟩,
    ⟨(some 32), none, .mv (.t 2)⟩,
    ⟨(some 33), none, .makeMap⟩,
    ⟨(some 34), none, .build [(.ptr none), (.int .i64 (0)), (.int .i64 (0)), (.map none), (.int .i64 (0)), (.int .i64 (0))] [(0, 1, (.t 30)), (1, 1, (.t 31)), (2, 1, (.t 32)), (3, 1, (.t 33))]⟩,
    ⟨(some 35), none, .box (.t 34)⟩,
    ⟨(some 7), none, .mv (.t 35)⟩])
  (.seq (.ops [⟨(some 8), none, .mv (.c (.int .i64 (-1)))⟩])
  (.seq (.seq (.ops [⟨(some 36), none, .mv (.t 7)⟩,
    ⟨(some 37), none, .call (.c (.func (.func 76) [] [])) [(.t 36)]⟩,
    ⟨(some 38), none, .bin .add (.t 37) (.c (.int .i64 (7)))⟩,
    ⟨(some 39), none, .bin .sub (.t 38) (.c (.int .i64 (1)))⟩,
    ⟨(some 40), none, .bin .quo (.t 39) (.c (.int .i64 (7)))⟩,
    ⟨(some 41), none, .mv (.c (.int .i64 (0)))⟩])
  (.block 0 (.loop (.seq (.ops [⟨(some 42), none, .bin .lss (.t 41) (.t 40)⟩])
    (.seq (.cond (.t 42)
     (.skip)
     (.exit 0))
    (.seq (.block 1 (.seq (.ops [⟨(some 43), none, .mv (.t 41)⟩,
       ⟨(some 9), none, .mv (.t 43)⟩])
     (.seq (.ops [⟨(some 45), none, .mv (.t 7)⟩,
       ⟨(some 46), none, .mv (.t 9)⟩,
       ⟨(some 47), none, .call (.c (.func (.func 77) [] [])) [(.t 45), (.t 46)]⟩,
       ⟨(some 44), none, .mv (.t 47)⟩,
       ⟨(some 48), none, .extract 0 (.t 44)⟩,
       ⟨(some 49), none, .extract 1 (.t 44)⟩,
       ⟨(some 10), none, .alloc none [(.int .i64 (0)), (.slice none 0 0)]⟩,
       ⟨none, none, .store 2 (.t 10) (.t 48)⟩,
       ⟨(some 11), none, .mv (.t 49)⟩])
     (.seq (.seq (.ops [⟨(some 50), none, .mv (.t 11)⟩,
       ⟨(some 51), none, .not (.t 50)⟩,
       ⟨(some 52), none, .mv (.t 51)⟩,
       ⟨(some 53), (some (52, false)), .fieldAddr 0 (.t 10)⟩,
       ⟨(some 54), (some (52, false)), .load none (.t 53)⟩,
       ⟨(some 55), (some (52, false)), .mv (.t 8)⟩,
       ⟨(some 56), (some (52, false)), .bin .lss (.t 54) (.t 55)⟩,
       ⟨(some 57), none, .pick (.t 52) (.c (.bool true)) (.t 56)⟩])
     (.cond (.t 57)
      (.exit 1)
      (.skip)))
     (.seq (.draw [⟨⟨(some 58), none, .mv (.t 7)⟩, 0, []⟩,
       ⟨⟨(some 59), none, .fieldAddr 0 (.t 10)⟩, 1, []⟩,
       ⟨⟨(some 60), none, .load none (.t 59)⟩, 2, [1]⟩,
       ⟨⟨(some 61), none, .fieldAddr 0 (.t 10)⟩, 3, []⟩,
       ⟨⟨(some 62), none, .load none (.t 61)⟩, 4, [3]⟩,
       ⟨⟨(some 8), none, .mv (.t 60)⟩, 5, [1, 2]⟩,
       ⟨⟨(some 63), none, .nilck (.t 58)⟩, 6, [0, 1, 2, 3, 4, 5]⟩,
       ⟨⟨(some 64), none, .fieldAddr 4 (.t 63)⟩, 7, [0, 1, 2, 3, 4, 5, 6]⟩,
       ⟨⟨none, none, .store 1 (.t 64) (.t 62)⟩, 8, [0, 1, 2, 3, 4, 5, 6, 7]⟩])
     (.seq (.ops [⟨(some 65), none, .mv (.t 7)⟩,
       ⟨(some 66), none, .mv (.t 9)⟩,
       ⟨(some 67), none, .bin .add (.t 66) (.c (.int .i64 (1)))⟩,
       ⟨(some 68), none, .bin .mul (.c (.int .i64 (7))) (.t 67)⟩,
       ⟨(some 69), none, .nilck (.t 65)⟩,
       ⟨(some 70), none, .fieldAddr 5 (.t 69)⟩,
       ⟨none, none, .store 1 (.t 70) (.t 68)⟩])
     (.seq (.draw [⟨⟨(some 71), none, .mv (.t 7)⟩, 0, []⟩,
       ⟨⟨(some 72), none, .nilck (.t 71)⟩, 1, [0]⟩,
       ⟨⟨(some 73), none, .fieldAddr 5 (.t 72)⟩, 2, [0, 1]⟩,
       ⟨⟨(some 74), none, .load none (.t 73)⟩, 3, [0, 1, 2]⟩,
       ⟨⟨(some 75), none, .mv (.t 7)⟩, 4, []⟩,
       ⟨⟨(some 76), none, .call (.c (.func (.func 76) [] [])) [(.t 75)]⟩, 5, [4]⟩,
       ⟨⟨(some 77), none, .bin .geq (.t 74) (.t 76)⟩, 6, [0, 1, 2, 3, 4, 5]⟩])
     (.cond (.t 77)
      (.ops [⟨(some 78), none, .mv (.t 7)⟩,
        ⟨(some 79), none, .nilck (.t 78)⟩,
        ⟨(some 80), none, .fieldAddr 5 (.t 79)⟩,
        ⟨none, none, .store 1 (.t 80) (.c (.int .i64 (0)))⟩])
      (.skip)))))))))
    (.ops [⟨(some 81), none, .bin .add (.t 41) (.c (.int .i64 (1)))⟩,
      ⟨(some 41), none, .mv (.t 81)⟩])))))))
  (.seq (.ops [⟨(some 82), none, .mv (.t 7)⟩,
    ⟨(some 6), none, .mv (.t 82)⟩])
  (.ret))))))⟩
theorem a46_ok : funcC Tryz.prog Tryz.f46 = some a46 := by kernel_rfl
/-- (*permafrost/permafrostref01.Reader).Number -/
def a47 : AFunc := ⟨2, [.tmp 4],
  .seq (.ops [⟨(some 4), none, .mv (.c (.int .i64 (0)))⟩])
  (.seq (.seq (.ops [⟨(some 8), none, .mv (.t 0)⟩,
    ⟨(some 9), none, .nilck (.t 8)⟩,
    ⟨(some 10), none, .fieldAddr 1 (.t 9)⟩,
    ⟨(some 11), none, .load none (.t 10)⟩,
    ⟨(some 12), none, .bin .neq (.t 11) (.c (.int .i64 (0)))⟩])
  (.cond (.t 12)
   (.seq (.ops [⟨(some 4), none, .mv (.c (.int .i64 (0)))⟩])
   (.ret))
   (.skip)))
  (.seq (.seq (.ops [⟨(some 13), none, .mv (.t 1)⟩,
    ⟨(some 14), none, .call (.c (.func (.func 78) [] [])) [(.t 13)]⟩,
    ⟨(some 15), none, .bin .lss (.t 14) (.c (.int .i64 (0)))⟩])
  (.cond (.t 15)
   (.seq (.ops [⟨(some 16), none, .mv (.t 0)⟩,
     ⟨(some 17), none, .nilck (.t 16)⟩,
     ⟨(some 18), none, .fieldAddr 1 (.t 17)⟩,
     ⟨none, none, .store 1 (.t 18) (.c (.int .i64 (1)))⟩])
   (.seq (.ops [⟨(some 4), none, .mv (.c (.int .i64 (0)))⟩])
   (.ret)))
   (.skip)))
  (.seq (.ops [⟨(some 19), none, .mv (.t 0)⟩,
    ⟨(some 20), none, .mv (.t 1)⟩,
    ⟨(some 21), none, .call (.c (.func (.func 48) [] [])) [(.t 19), (.t 20)]⟩,
    ⟨(some 5), none, .mv (.t 21)⟩])
  (.seq (.ops [⟨(some 6), none, .mv (.c (.int .i64 (0)))⟩])
  (.seq (.seq (.ops [⟨(some 22), none, .mv (.t 5)⟩,
    ⟨(some 23), none, .lenStr (.t 22)⟩,
    ⟨(some 24), none, .bin .sub (.t 23) (.c (.int .i64 (1)))⟩,
    ⟨(some 7), none, .mv (.t 24)⟩])
  (.block 0 (.loop (.seq (.seq (.ops [⟨(some 25), none, .mv (.t 7)⟩,
      ⟨(some 26), none, .bin .geq (.t 25) (.c (.int .i64 (0)))⟩])
    (.cond (.t 26)
     (.skip)
     (.exit 0)))
    (.seq (.block 1 (.ops [⟨(some 29), none, .mv (.t 6)⟩,
       ⟨(some 30), none, .bin .mul (.c (.int .i64 (256))) (.t 29)⟩,
       ⟨(some 31), none, .mv (.t 5)⟩,
       ⟨(some 32), none, .mv (.t 7)⟩,
       ⟨(some 33), none, .atStr (.t 31) (.t 32)⟩,
       ⟨(some 34), none, .toInt .i64 (.t 33)⟩,
       ⟨(some 35), none, .bin .add (.t 30) (.t 34)⟩,
       ⟨(some 6), none, .mv (.t 35)⟩]))
    (.ops [⟨(some 27), none, .mv (.t 7)⟩,
      ⟨(some 28), none, .bin .sub (.t 27) (.c (.int .i64 (1)))⟩,
      ⟨(some 7), none, .mv (.t 28)⟩]))))))
  (.seq (.ops [⟨(some 36), none, .mv (.t 6)⟩,
    ⟨(some 4), none, .mv (.t 36)⟩])
  (.ret)))))))⟩
theorem a47_ok : funcC Tryz.prog Tryz.f47 = some a47 := by kernel_rfl
end Abs
end Go.Proofs.YtmgbcaboljilnaaGreatDoor
