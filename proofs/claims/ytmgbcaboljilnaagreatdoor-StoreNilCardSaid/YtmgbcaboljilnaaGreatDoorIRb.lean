/- Functions of these statements, as the abstract machine's code: each is what the machine reads off the program. -/
import Derived.Test.YtmgbcaboljilnaaGreatDoorProg
import Derived.KernelRfl
import Derived.Test.YtmgbcaboljilnaaGreatDoorA18
namespace Go.Proofs.YtmgbcaboljilnaaGreatDoor
namespace Abs
set_option linter.unusedVariables false
set_option maxRecDepth 100000
/-- (*permafrost/permafrostref01.Reader).Bytes -/
def a48 : AFunc := ⟨2, [.tmp 4],
  .seq (.ops [⟨(some 4), none, .mv (.c (.str []))⟩])
  (.seq (.seq (.ops [⟨(some 6), none, .mv (.t 0)⟩,
    ⟨(some 7), none, .nilck (.t 6)⟩,
    ⟨(some 8), none, .fieldAddr 1 (.t 7)⟩,
    ⟨(some 9), none, .load none (.t 8)⟩,
    ⟨(some 10), none, .bin .neq (.t 9) (.c (.int .i64 (0)))⟩])
  (.cond (.t 10)
   (.seq (.ops [⟨(some 4), none, .mv (.c (.str []))⟩])
   (.ret))
   (.skip)))
  (.seq (.seq (.ops [⟨(some 11), none, .mv (.t 1)⟩,
    ⟨(some 12), none, .bin .lss (.t 11) (.c (.int .i64 (0)))⟩])
  (.cond (.t 12)
   (.seq (.ops [⟨(some 13), none, .mv (.t 0)⟩,
     ⟨(some 14), none, .nilck (.t 13)⟩,
     ⟨(some 15), none, .fieldAddr 1 (.t 14)⟩,
     ⟨none, none, .store 1 (.t 15) (.c (.int .i64 (1)))⟩])
   (.seq (.ops [⟨(some 4), none, .mv (.c (.str []))⟩])
   (.ret)))
   (.skip)))
  (.seq (.seq (.ops [⟨(some 16), none, .mv (.t 1)⟩,
    ⟨(some 17), none, .mv (.t 0)⟩,
    ⟨(some 18), none, .nilck (.t 17)⟩,
    ⟨(some 19), none, .fieldAddr 0 (.t 18)⟩,
    ⟨(some 20), none, .load none (.t 19)⟩,
    ⟨(some 21), none, .lenStr (.t 20)⟩,
    ⟨(some 22), none, .bin .gtr (.t 16) (.t 21)⟩])
  (.cond (.t 22)
   (.seq (.ops [⟨(some 23), none, .mv (.t 0)⟩,
     ⟨(some 24), none, .nilck (.t 23)⟩,
     ⟨(some 25), none, .fieldAddr 1 (.t 24)⟩,
     ⟨none, none, .store 1 (.t 25) (.c (.int .i64 (2)))⟩])
   (.seq (.ops [⟨(some 4), none, .mv (.c (.str []))⟩])
   (.ret)))
   (.skip)))
  (.seq (.ops [⟨(some 26), none, .mv (.t 0)⟩,
    ⟨(some 27), none, .nilck (.t 26)⟩,
    ⟨(some 28), none, .fieldAddr 0 (.t 27)⟩,
    ⟨(some 29), none, .load none (.t 28)⟩,
    ⟨(some 30), none, .mv (.t 1)⟩,
    ⟨(some 31), none, .sliceStr (.t 29) none (some (.t 30))⟩,
    ⟨(some 5), none, .mv (.t 31)⟩])
  (.seq (.ops [⟨(some 32), none, .mv (.t 0)⟩,
    ⟨(some 33), none, .mv (.t 0)⟩,
    ⟨(some 34), none, .nilck (.t 33)⟩,
    ⟨(some 35), none, .fieldAddr 0 (.t 34)⟩,
    ⟨(some 36), none, .load none (.t 35)⟩,
    ⟨(some 37), none, .mv (.t 1)⟩,
    ⟨(some 38), none, .sliceStr (.t 36) (some (.t 37)) none⟩,
    ⟨(some 39), none, .nilck (.t 32)⟩,
    ⟨(some 40), none, .fieldAddr 0 (.t 39)⟩,
    ⟨none, none, .store 1 (.t 40) (.t 38)⟩])
  (.seq (.ops [⟨(some 41), none, .mv (.t 5)⟩,
    ⟨(some 4), none, .mv (.t 41)⟩])
  (.ret)))))))⟩
theorem a48_ok : funcC Tryz.prog Tryz.f48 = some a48 := by kernel_rfl
/-- (*permafrost/permafrostref01.Reader).End -/
def a49 : AFunc := ⟨1, [.tmp 2],
  .seq (.ops [⟨(some 2), none, .mv (.c (.int .i64 (0)))⟩])
  (.seq (.seq (.ops [⟨(some 3), none, .mv (.t 0)⟩,
    ⟨(some 4), none, .nilck (.t 3)⟩,
    ⟨(some 5), none, .fieldAddr 1 (.t 4)⟩,
    ⟨(some 6), none, .load none (.t 5)⟩,
    ⟨(some 7), none, .bin .eql (.t 6) (.c (.int .i64 (0)))⟩,
    ⟨(some 8), none, .mv (.t 7)⟩,
    ⟨(some 9), (some (8, true)), .mv (.t 0)⟩,
    ⟨(some 10), (some (8, true)), .nilck (.t 9)⟩,
    ⟨(some 11), (some (8, true)), .fieldAddr 0 (.t 10)⟩,
    ⟨(some 12), (some (8, true)), .load none (.t 11)⟩,
    ⟨(some 13), (some (8, true)), .bin .neq (.t 12) (.c (.str []))⟩,
    ⟨(some 14), none, .pick (.t 8) (.t 13) (.c (.bool false))⟩])
  (.cond (.t 14)
   (.seq (.ops [⟨(some 2), none, .mv (.c (.int .i64 (3)))⟩])
   (.ret))
   (.skip)))
  (.seq (.ops [⟨(some 15), none, .mv (.t 0)⟩,
    ⟨(some 16), none, .nilck (.t 15)⟩,
    ⟨(some 17), none, .fieldAddr 1 (.t 16)⟩,
    ⟨(some 18), none, .load none (.t 17)⟩,
    ⟨(some 2), none, .mv (.t 18)⟩])
  (.ret)))⟩
theorem a49_ok : funcC Tryz.prog Tryz.f49 = some a49 := by kernel_rfl
/-- permafrost/permafrostref04.Check -/
def a50 : AFunc := ⟨1, [.tmp 2],
  .seq (.ops [⟨(some 1), none, .box (.t 0)⟩,
    ⟨(some 2), none, .mv (.c (.int .i64 (0)))⟩])
  (.seq (.seq (.ops [⟨(some 5), none, .fieldAddr 0 (.t 1)⟩,
    ⟨(some 6), none, .load none (.t 5)⟩,
    ⟨(some 7), none, .lenSl (.t 6)⟩,
    ⟨(some 8), none, .bin .lss (.t 7) (.c (.int .i64 (1)))⟩,
    ⟨(some 9), none, .mv (.t 8)⟩,
    ⟨(some 10), (some (9, false)), .fieldAddr 0 (.t 1)⟩,
    ⟨(some 11), (some (9, false)), .load none (.t 10)⟩,
    ⟨(some 12), (some (9, false)), .lenSl (.t 11)⟩,
    ⟨(some 13), (some (9, false)), .bin .gtr (.t 12) (.c (.int .i64 (2)))⟩,
    ⟨(some 14), none, .pick (.t 9) (.c (.bool true)) (.t 13)⟩,
    ⟨(some 15), none, .mv (.t 14)⟩,
    ⟨(some 16), (some (15, false)), .fieldAddr 1 (.t 1)⟩,
    ⟨(some 17), (some (15, false)), .load none (.t 16)⟩,
    ⟨(some 18), (some (15, false)), .bin .lss (.t 17) (.c (.int .i64 (0)))⟩,
    ⟨(some 19), none, .pick (.t 15) (.c (.bool true)) (.t 18)⟩,
    ⟨(some 20), none, .mv (.t 19)⟩,
    ⟨(some 21), (some (20, false)), .fieldAddr 1 (.t 1)⟩,
    ⟨(some 22), (some (20, false)), .load none (.t 21)⟩,
    ⟨(some 23), (some (20, false)), .bin .gtr (.t 22) (.c (.int .i64 (960)))⟩,
    ⟨(some 24), none, .pick (.t 20) (.c (.bool true)) (.t 23)⟩,
    ⟨(some 25), none, .mv (.t 24)⟩,
    ⟨(some 26), (some (25, false)), .fieldAddr 2 (.t 1)⟩,
    ⟨(some 27), (some (25, false)), .load none (.t 26)⟩,
    ⟨(some 28), (some (25, false)), .bin .lss (.t 27) (.c (.int .i64 (0)))⟩,
    ⟨(some 29), none, .pick (.t 25) (.c (.bool true)) (.t 28)⟩,
    ⟨(some 30), none, .mv (.t 29)⟩,
    ⟨(some 31), (some (30, false)), .fieldAddr 2 (.t 1)⟩,
    ⟨(some 32), (some (30, false)), .load none (.t 31)⟩,
    ⟨(some 33), (some (30, false)), .bin .gtr (.t 32) (.c (.int .i64 (1099511627776)))⟩,
    ⟨(some 34), none, .pick (.t 30) (.c (.bool true)) (.t 33)⟩,
    ⟨(some 35), none, .mv (.t 34)⟩,
    ⟨(some 36), (some (35, false)), .fieldAddr 3 (.t 1)⟩,
    ⟨(some 37), (some (35, false)), .load none (.t 36)⟩,
    ⟨(some 38), (some (35, false)), .lenStr (.t 37)⟩,
    ⟨(some 39), (some (35, false)), .bin .neq (.t 38) (.c (.int .i64 (32)))⟩,
    ⟨(some 40), none, .pick (.t 35) (.c (.bool true)) (.t 39)⟩])
  (.cond (.t 40)
   (.seq (.ops [⟨(some 2), none, .mv (.c (.int .i64 (1)))⟩])
   (.ret))
   (.skip)))
  (.seq (.seq (.ops [⟨(some 3), none, .mv (.c (.int .i64 (0)))⟩])
  (.block 0 (.loop (.seq (.seq (.ops [⟨(some 41), none, .mv (.t 3)⟩,
      ⟨(some 42), none, .fieldAddr 0 (.t 1)⟩,
      ⟨(some 43), none, .load none (.t 42)⟩,
      ⟨(some 44), none, .lenSl (.t 43)⟩,
      ⟨(some 45), none, .bin .lss (.t 41) (.t 44)⟩])
    (.cond (.t 45)
     (.skip)
     (.exit 0)))
    (.seq (.block 1 (.seq (.ops [⟨(some 48), none, .fieldAddr 0 (.t 1)⟩,
       ⟨(some 49), none, .load none (.t 48)⟩,
       ⟨(some 50), none, .mv (.t 3)⟩,
       ⟨(some 51), none, .idxSl 2 (.t 49) (.t 50)⟩,
       ⟨(some 52), none, .load (some 2) (.t 51)⟩,
       ⟨(some 4), none, .alloc none [(.int .i64 (0)), (.int .i64 (0))]⟩,
       ⟨none, none, .store 2 (.t 4) (.t 52)⟩])
     (.seq (.draw [⟨⟨(some 53), none, .fieldAddr 0 (.t 4)⟩, 0, []⟩,
       ⟨⟨(some 54), none, .load none (.t 53)⟩, 1, [0]⟩,
       ⟨⟨(some 55), none, .bin .lss (.t 54) (.c (.int .i64 (0)))⟩, 2, [0, 1]⟩,
       ⟨⟨(some 56), none, .mv (.t 55)⟩, 3, [0, 1, 2]⟩,
       ⟨⟨(some 57), (some (56, false)), .fieldAddr 0 (.t 4)⟩, 4, [0, 1, 2, 3]⟩,
       ⟨⟨(some 58), (some (56, false)), .load none (.t 57)⟩, 5, [0, 1, 2, 3, 4]⟩,
       ⟨⟨(some 59), (some (56, false)), .bin .gtr (.t 58) (.c (.int .i64 (1)))⟩, 6, [0, 1, 2, 3, 4, 5]⟩,
       ⟨⟨(some 60), none, .pick (.t 56) (.c (.bool true)) (.t 59)⟩, 7, [0, 1, 2, 3, 4, 5, 6]⟩,
       ⟨⟨(some 61), none, .mv (.t 60)⟩, 8, [0, 1, 2, 3, 4, 5, 6, 7]⟩,
       ⟨⟨(some 62), (some (61, false)), .fieldAddr 1 (.t 4)⟩, 9, [0, 1, 2, 3, 4, 5, 6, 7, 8]⟩,
       ⟨⟨(some 63), (some (61, false)), .load none (.t 62)⟩, 10, [0, 1, 2, 3, 4, 5, 6, 7, 8, 9]⟩,
       ⟨⟨(some 64), (some (61, false)), .bin .lss (.t 63) (.c (.int .i64 (0)))⟩, 11, [0, 1, 2, 3, 4, 5, 6, 7, 8, 9, 10]⟩,
       ⟨⟨(some 65), none, .pick (.t 61) (.c (.bool true)) (.t 64)⟩, 12, [0, 1, 2, 3, 4, 5, 6, 7, 8, 9, 10, 11]⟩,
       ⟨⟨(some 66), none, .mv (.t 65)⟩, 13, [0, 1, 2, 3, 4, 5, 6, 7, 8, 9, 10, 11, 12]⟩,
       ⟨⟨(some 67), (some (66, false)), .fieldAddr 1 (.t 4)⟩, 14, [0, 1, 2, 3, 4, 5, 6, 7, 8, 9, 10, 11, 12, 13]⟩,
       ⟨⟨(some 68), (some (66, false)), .load none (.t 67)⟩, 15, [0, 1, 2, 3, 4, 5, 6, 7, 8, 9, 10, 11, 12, 13, 14]⟩,
       ⟨⟨(some 69), (some (66, false)), .bin .gtr (.t 68) (.c (.int .i64 (511)))⟩, 16, [0, 1, 2, 3, 4, 5, 6, 7, 8, 9, 10, 11, 12, 13, 14, 15]⟩,
       ⟨⟨(some 70), none, .pick (.t 66) (.c (.bool true)) (.t 69)⟩, 17, [0, 1, 2, 3, 4, 5, 6, 7, 8, 9, 10, 11, 12, 13, 14, 15, 16]⟩,
       ⟨⟨(some 71), none, .mv (.t 70)⟩, 18, [0, 1, 2, 3, 4, 5, 6, 7, 8, 9, 10, 11, 12, 13, 14, 15, 16, 17]⟩,
       ⟨⟨(some 72), (some (71, false)), .mv (.t 3)⟩, 19, [0, 1, 2, 3, 4, 5, 6, 7, 8, 9, 10, 11, 12, 13, 14, 15, 16, 17, 18]⟩,
       ⟨⟨(some 73), (some (71, false)), .bin .eql (.t 72) (.c (.int .i64 (1)))⟩, 20, [0, 1, 2, 3, 4, 5, 6, 7, 8, 9, 10, 11, 12, 13, 14, 15, 16, 17, 18, 19]⟩,
       ⟨⟨(some 74), (some (71, false)), .mv (.t 73)⟩, 21, [0, 1, 2, 3, 4, 5, 6, 7, 8, 9, 10, 11, 12, 13, 14, 15, 16, 17, 18, 19, 20]⟩,
       ⟨⟨(some 75), (some (74, true)), .fieldAddr 0 (.t 4)⟩, 22, [0, 1, 2, 3, 4, 5, 6, 7, 8, 9, 10, 11, 12, 13, 14, 15, 16, 17, 18, 19, 20, 21]⟩,
       ⟨⟨(some 76), (some (74, true)), .load none (.t 75)⟩, 23, [0, 1, 2, 3, 4, 5, 6, 7, 8, 9, 10, 11, 12, 13, 14, 15, 16, 17, 18, 19, 20, 21, 22]⟩,
       ⟨⟨(some 77), (some (74, true)), .fieldAddr 0 (.t 1)⟩, 24, [0, 1, 2, 3, 4, 5, 6, 7, 8, 9, 10, 11, 12, 13, 14, 15, 16, 17, 18, 19, 20, 21]⟩,
       ⟨⟨(some 78), (some (74, true)), .load none (.t 77)⟩, 25, [0, 1, 2, 3, 4, 5, 6, 7, 8, 9, 10, 11, 12, 13, 14, 15, 16, 17, 18, 19, 20, 21, 24]⟩,
       ⟨⟨(some 79), (some (74, true)), .idxSl 2 (.t 78) (.c (.int .i64 (0)))⟩, 26, [0, 1, 2, 3, 4, 5, 6, 7, 8, 9, 10, 11, 12, 13, 14, 15, 16, 17, 18, 19, 20, 21, 24, 25]⟩,
       ⟨⟨(some 80), (some (74, true)), .fieldAddr 0 (.t 79)⟩, 27, [0, 1, 2, 3, 4, 5, 6, 7, 8, 9, 10, 11, 12, 13, 14, 15, 16, 17, 18, 19, 20, 21, 24, 25, 26]⟩,
       ⟨⟨(some 81), (some (74, true)), .load none (.t 80)⟩, 28, [0, 1, 2, 3, 4, 5, 6, 7, 8, 9, 10, 11, 12, 13, 14, 15, 16, 17, 18, 19, 20, 21, 24, 25, 26, 27]⟩,
       ⟨⟨(some 82), (some (74, true)), .bin .eql (.t 76) (.t 81)⟩, 29, [0, 1, 2, 3, 4, 5, 6, 7, 8, 9, 10, 11, 12, 13, 14, 15, 16, 17, 18, 19, 20, 21, 22, 23, 24, 25, 26, 27, 28]⟩,
       ⟨⟨(some 83), (some (71, false)), .pick (.t 74) (.t 82) (.c (.bool false))⟩, 30, [0, 1, 2, 3, 4, 5, 6, 7, 8, 9, 10, 11, 12, 13, 14, 15, 16, 17, 18, 19, 20, 21, 22, 23, 24, 25, 26, 27, 28, 29]⟩,
       ⟨⟨(some 84), none, .pick (.t 71) (.c (.bool true)) (.t 83)⟩, 31, [0, 1, 2, 3, 4, 5, 6, 7, 8, 9, 10, 11, 12, 13, 14, 15, 16, 17, 18, 19, 20, 21, 22, 23, 24, 25, 26, 27, 28, 29, 30]⟩])
     (.cond (.t 84)
      (.seq (.ops [⟨(some 2), none, .mv (.c (.int .i64 (1)))⟩])
      (.ret))
      (.skip)))))
    (.ops [⟨(some 46), none, .mv (.t 3)⟩,
      ⟨(some 47), none, .bin .add (.t 46) (.c (.int .i64 (1)))⟩,
      ⟨(some 3), none, .mv (.t 47)⟩]))))))
  (.seq (.ops [⟨(some 2), none, .mv (.c (.int .i64 (0)))⟩])
  (.ret))))⟩
theorem a50_ok : funcC Tryz.prog Tryz.f50 = some a50 := by kernel_rfl
/-- permafrost/class.in -/
def a51 : AFunc := ⟨2, [.tmp 4],
  .seq (.ops [⟨(some 4), none, .mv (.c (.bool false))⟩])
  (.seq (.ops [⟨(some 5), none, .mv (.t 0)⟩,
    ⟨(some 6), none, .bin .geq (.t 5) (.c (.int .i64 (0)))⟩,
    ⟨(some 7), none, .mv (.t 6)⟩,
    ⟨(some 8), (some (7, true)), .mv (.t 0)⟩,
    ⟨(some 9), (some (7, true)), .mv (.t 1)⟩,
    ⟨(some 10), (some (7, true)), .bin .leq (.t 8) (.t 9)⟩,
    ⟨(some 11), none, .pick (.t 7) (.t 10) (.c (.bool false))⟩,
    ⟨(some 4), none, .mv (.t 11)⟩])
  (.ret))⟩
theorem a51_ok : funcC Tryz.prog Tryz.f51 = some a51 := by kernel_rfl
/-- permafrost/class.wishes -/
def a52 : AFunc := ⟨3, [.tmp 6],
  .seq (.ops [⟨(some 3), none, .box (.t 0)⟩,
    ⟨(some 6), none, .mv (.c (.slice none 0 0))⟩])
  (.seq (.block 0 (.seq (.block 3 (.block 2 (.seq (.block 1 (.seq (.seq (.seq (.ops [⟨(some 8), none, .mv (.t 1)⟩,
        ⟨(some 9), none, .bin .eql (.t 8) (.c (.int .i64 (0)))⟩,
        ⟨(some 10), none, .mv (.t 9)⟩,
        ⟨(some 11), (some (10, true)), .fieldAddr 0 (.t 3)⟩,
        ⟨(some 12), (some (10, true)), .load none (.t 11)⟩,
        ⟨(some 13), none, .pick (.t 10) (.t 12) (.c (.bool false))⟩,
        ⟨(some 14), none, .mv (.t 13)⟩,
        ⟨(some 15), (some (14, true)), .fieldAddr 1 (.t 3)⟩,
        ⟨(some 16), (some (14, true)), .load none (.t 15)⟩,
        ⟨(some 17), none, .pick (.t 14) (.t 16) (.c (.bool false))⟩,
        ⟨(some 7), none, .mv (.t 17)⟩])
      (.cond (.t 7)
       (.exit 1)
       (.skip)))
      (.seq (.seq (.ops [⟨(some 19), none, .mv (.t 1)⟩,
        ⟨(some 20), none, .bin .eql (.t 19) (.c (.int .i64 (0)))⟩,
        ⟨(some 21), none, .mv (.t 20)⟩,
        ⟨(some 22), (some (21, true)), .fieldAddr 0 (.t 3)⟩,
        ⟨(some 23), (some (21, true)), .load none (.t 22)⟩,
        ⟨(some 24), (some (21, true)), .not (.t 23)⟩,
        ⟨(some 25), none, .pick (.t 21) (.t 24) (.c (.bool false))⟩,
        ⟨(some 18), none, .mv (.t 25)⟩])
      (.cond (.t 18)
       (.exit 2)
       (.skip)))
      (.seq (.ops [⟨(some 27), none, .mv (.t 1)⟩,
        ⟨(some 28), none, .bin .eql (.t 27) (.c (.int .i64 (1)))⟩,
        ⟨(some 29), none, .mv (.t 28)⟩,
        ⟨(some 30), (some (29, true)), .fieldAddr 2 (.t 3)⟩,
        ⟨(some 31), (some (29, true)), .load none (.t 30)⟩,
        ⟨(some 32), (some (29, true)), .bin .eql (.t 31) (.c (.int .i64 (0)))⟩,
        ⟨(some 33), (some (29, true)), .mv (.t 32)⟩,
        ⟨(some 34), (some (33, false)), .mv (.t 2)⟩,
        ⟨(some 35), (some (33, false)), .fieldAddr 2 (.t 3)⟩,
        ⟨(some 36), (some (33, false)), .load none (.t 35)⟩,
        ⟨(some 37), (some (33, false)), .bin .gtr (.t 34) (.t 36)⟩,
        ⟨(some 38), (some (29, true)), .pick (.t 33) (.c (.bool true)) (.t 37)⟩,
        ⟨(some 39), none, .pick (.t 29) (.t 38) (.c (.bool false))⟩,
        ⟨(some 26), none, .mv (.t 39)⟩])
      (.cond (.t 26)
       (.exit 3)
       (.skip)))))
      (.exit 0)))
     (.seq (.seq (.ops [⟨(some 40), none, .buildSl [(.int .i64 (0)), (.int .i64 (0))] 2 [(0, 1, (.c (.int .i64 (1)))), (1, 1, (.c (.int .i64 (0))))]⟩,
       ⟨(some 6), none, .mv (.t 40)⟩])
     (.ret))
     (.exit 0)))))
   (.seq (.seq (.ops [⟨(some 41), none, .buildSl [(.int .i64 (0))] 1 [(0, 1, (.c (.int .i64 (0))))]⟩,
     ⟨(some 6), none, .mv (.t 41)⟩])
   (.ret))
   (.exit 0))))
  (.seq (.ops [⟨(some 42), none, .buildSl [(.int .i64 (0))] 1 [(0, 1, (.c (.int .i64 (1))))]⟩,
    ⟨(some 6), none, .mv (.t 42)⟩])
  (.ret)))⟩
theorem a52_ok : funcC Tryz.prog Tryz.f52 = some a52 := by kernel_rfl
/-- permafrost/space.May -/
def a53 : AFunc := ⟨1, [.tmp 2],
  .seq (.ops [⟨(some 2), none, .mv (.c (.bool false))⟩])
  (.seq (.ops [⟨(some 3), none, .mv (.c (.int .i64 (-1)))⟩])
  (.seq (.seq (.ops [⟨(some 6), none, .mv (.t 0)⟩,
    ⟨(some 7), none, .lenSl (.t 6)⟩,
    ⟨(some 8), none, .mv (.c (.int .i64 (0)))⟩])
  (.block 0 (.loop (.seq (.ops [⟨(some 9), none, .bin .lss (.t 8) (.t 7)⟩])
    (.seq (.cond (.t 9)
     (.skip)
     (.exit 0))
    (.seq (.block 1 (.seq (.ops [⟨(some 10), none, .idxSl 2 (.t 6) (.t 8)⟩,
       ⟨(some 11), none, .load (some 2) (.t 10)⟩,
       ⟨(some 5), none, .alloc none [(.int .i64 (0)), (.int .i64 (0))]⟩,
       ⟨none, none, .store 2 (.t 5) (.t 11)⟩])
     (.seq (.seq (.ops [⟨(some 12), none, .fieldAddr 0 (.t 5)⟩,
       ⟨(some 13), none, .load none (.t 12)⟩,
       ⟨(some 14), none, .mv (.t 3)⟩,
       ⟨(some 15), none, .bin .leq (.t 13) (.t 14)⟩,
       ⟨(some 16), none, .mv (.t 15)⟩,
       ⟨(some 17), (some (16, false)), .fieldAddr 1 (.t 5)⟩,
       ⟨(some 18), (some (16, false)), .load none (.t 17)⟩,
       ⟨(some 19), (some (16, false)), .bin .lss (.t 18) (.c (.int .i64 (1)))⟩,
       ⟨(some 20), none, .pick (.t 16) (.c (.bool true)) (.t 19)⟩,
       ⟨(some 21), none, .mv (.t 20)⟩,
       ⟨(some 22), (some (21, false)), .fieldAddr 1 (.t 5)⟩,
       ⟨(some 23), (some (21, false)), .load none (.t 22)⟩,
       ⟨(some 24), (some (21, false)), .bin .gtr (.t 23) (.c (.int .i64 (1073741824)))⟩,
       ⟨(some 25), none, .pick (.t 21) (.c (.bool true)) (.t 24)⟩,
       ⟨(some 26), none, .mv (.t 25)⟩,
       ⟨(some 27), (some (26, false)), .fieldAddr 0 (.t 5)⟩,
       ⟨(some 28), (some (26, false)), .load none (.t 27)⟩,
       ⟨(some 29), (some (26, false)), .fieldAddr 1 (.t 5)⟩,
       ⟨(some 30), (some (26, false)), .load none (.t 29)⟩,
       ⟨(some 31), (some (26, false)), .bin .sub (.c (.int .i64 (1073741824))) (.t 30)⟩,
       ⟨(some 32), (some (26, false)), .bin .gtr (.t 28) (.t 31)⟩,
       ⟨(some 33), none, .pick (.t 26) (.c (.bool true)) (.t 32)⟩])
     (.cond (.t 33)
      (.seq (.ops [⟨(some 2), none, .mv (.c (.bool false))⟩])
      (.ret))
      (.skip)))
     (.ops [⟨(some 34), none, .load (some 2) (.t 5)⟩,
       ⟨(some 35), none, .call (.c (.func (.func 43) [] [])) [(.t 34)]⟩,
       ⟨(some 3), none, .mv (.t 35)⟩]))))
    (.ops [⟨(some 36), none, .bin .add (.t 8) (.c (.int .i64 (1)))⟩,
      ⟨(some 8), none, .mv (.t 36)⟩])))))))
  (.seq (.ops [⟨(some 2), none, .mv (.c (.bool true))⟩])
  (.ret))))⟩
theorem a53_ok : funcC Tryz.prog Tryz.f53 = some a53 := by kernel_rfl
/-- slices.IndexFunc[[]permafrost/space.Run,permafrost/space.Run] -/
def a54 : AFunc := ⟨2, [.tmp 4],
  .seq (.ops [⟨(some 4), none, .mv (.c (.int .i64 (0)))⟩])
  (.seq (.seq (.ops [⟨(some 6), none, .mv (.t 0)⟩,
    ⟨(some 7), none, .lenSl (.t 6)⟩,
    ⟨(some 8), none, .mv (.c (.int .i64 (0)))⟩])
  (.block 0 (.loop (.seq (.ops [⟨(some 9), none, .bin .lss (.t 8) (.t 7)⟩])
    (.seq (.cond (.t 9)
     (.skip)
     (.exit 0))
    (.seq (.block 1 (.seq (.ops [⟨(some 10), none, .mv (.t 8)⟩,
       ⟨(some 5), none, .mv (.t 10)⟩])
     (.seq (.ops [⟨(some 11), none, .mv (.t 1)⟩,
       ⟨(some 12), none, .mv (.t 0)⟩,
       ⟨(some 13), none, .mv (.t 5)⟩,
       ⟨(some 14), none, .idxSl 2 (.t 12) (.t 13)⟩,
       ⟨(some 15), none, .load (some 2) (.t 14)⟩,
       ⟨(some 16), none, .call (.t 11) [(.t 15)]⟩])
     (.cond (.t 16)
      (.seq (.ops [⟨(some 17), none, .mv (.t 5)⟩,
        ⟨(some 4), none, .mv (.t 17)⟩])
      (.ret))
      (.skip)))))
    (.ops [⟨(some 18), none, .bin .add (.t 8) (.c (.int .i64 (1)))⟩,
      ⟨(some 8), none, .mv (.t 18)⟩])))))))
  (.seq (.ops [⟨(some 4), none, .mv (.c (.int .i64 (-1)))⟩])
  (.ret)))⟩
theorem a54_ok : funcC Tryz.prog Tryz.f54 = some a54 := by kernel_rfl
/-- permafrost/space.Take$1 -/
def a55 : AFunc := ⟨2, [.tmp 3],
  .seq (.ops [⟨(some 2), none, .box (.t 0)⟩,
    ⟨(some 3), none, .mv (.c (.bool false))⟩])
  (.seq (.ops [⟨(some 4), none, .fieldAddr 1 (.t 2)⟩,
    ⟨(some 5), none, .load none (.t 4)⟩,
    ⟨(some 6), none, .load none (.t 1)⟩,
    ⟨(some 7), none, .bin .geq (.t 5) (.t 6)⟩,
    ⟨(some 3), none, .mv (.t 7)⟩])
  (.ret))⟩
theorem a55_ok : funcC Tryz.prog Tryz.f55 = some a55 := by kernel_rfl
/-- permafrost/space.swapped -/
def a56 : AFunc := ⟨4, [.tmp 8],
  .seq (.ops [⟨(some 8), none, .mv (.c (.slice none 0 0))⟩])
  (.seq (.draw [⟨⟨(some 9), none, .mv (.t 0)⟩, 0, []⟩,
    ⟨⟨(some 10), none, .mv (.t 1)⟩, 1, []⟩,
    ⟨⟨(some 11), none, .mv (.t 1)⟩, 2, []⟩,
    ⟨⟨(some 12), none, .sliceSl 2 (.t 9) none (some (.t 10)) (some (.t 11))⟩, 3, [0, 1, 2]⟩,
    ⟨⟨(some 13), none, .mv (.t 3)⟩, 4, []⟩,
    ⟨⟨(some 15), none, .mv (.t 0)⟩, 6, []⟩,
    ⟨⟨(some 16), none, .mv (.t 2)⟩, 7, []⟩,
    ⟨⟨(some 17), none, .sliceSl 2 (.t 15) (some (.t 16)) none none⟩, 8, [5, 6]⟩,
    ⟨⟨(some 14), none, .append 2 16 none (.t 12) (.t 13)⟩, 5, [0, 1, 2, 3, 4]⟩,
    ⟨⟨(some 18), none, .append 2 16 none (.t 14) (.t 17)⟩, 9, [0, 1, 2, 3, 4, 5, 6, 7, 8]⟩,
    ⟨⟨(some 19), none, .call (.c (.func (.func 79) [] [])) [(.t 18)]⟩, 10, [0, 1, 2, 3, 4, 5, 6, 7, 8, 9]⟩,
    ⟨⟨(some 8), none, .mv (.t 19)⟩, 11, [0, 1, 2, 3, 4, 5, 6, 7, 8, 9, 10]⟩])
  (.ret))⟩
theorem a56_ok : funcC Tryz.prog Tryz.f56 = some a56 := by kernel_rfl
/-- permafrost/sum.Of -/
def a57 : AFunc := ⟨1, [.tmp 2],
  .seq (.ops [⟨(some 2), none, .mv (.c (.str []))⟩])
  (.seq (.ops [⟨(some 4), none, .call (.c (.func (.func 80) [] [])) []⟩,
    ⟨(some 3), none, .mv (.t 4)⟩])
  (.seq (.ops [⟨(some 5), none, .mv (.t 3)⟩,
    ⟨(some 6), none, .mv (.t 0)⟩,
    ⟨(some 7), none, .call (.c (.func (.func 81) [] [])) [(.t 5), (.t 6)]⟩])
  (.seq (.ops [⟨(some 8), none, .mv (.t 3)⟩,
    ⟨(some 9), none, .call (.c (.func (.func 82) [] [])) [(.t 8)]⟩,
    ⟨(some 2), none, .mv (.t 9)⟩])
  (.ret))))⟩
theorem a57_ok : funcC Tryz.prog Tryz.f57 = some a57 := by kernel_rfl
/-- (*permafrost/dev.Devs).Write -/
def a58 : AFunc := ⟨3, [.tmp 6],
  .seq (.ops [⟨(some 4), none, .box (.t 1)⟩,
    ⟨(some 6), none, .mv (.c (.int .i64 (0)))⟩])
  (.seq (.ops [⟨(some 8), none, .mv (.t 0)⟩,
    ⟨(some 9), none, .load (some 2) (.t 4)⟩,
    ⟨(some 10), none, .mv (.t 2)⟩,
    ⟨(some 11), none, .call (.c (.func (.func 83) [] [])) [(.t 8), (.t 9), (.t 10)]⟩,
    ⟨(some 7), none, .mv (.t 11)⟩])
  (.seq (.seq (.ops [⟨(some 12), none, .mv (.t 7)⟩,
    ⟨(some 13), none, .bin .eql (.t 12) (.c (.int .i64 (0)))⟩])
  (.cond (.t 13)
   (.draw [⟨⟨(some 14), none, .mv (.t 0)⟩, 0, []⟩,
     ⟨⟨(some 15), none, .mv (.t 0)⟩, 1, []⟩,
     ⟨⟨(some 16), none, .nilck (.t 15)⟩, 2, [1]⟩,
     ⟨⟨(some 17), none, .fieldAddr 4 (.t 16)⟩, 3, [1, 2]⟩,
     ⟨⟨(some 18), none, .load none (.t 17)⟩, 4, [1, 2, 3]⟩,
     ⟨⟨(some 19), none, .load (some 2) (.t 4)⟩, 5, []⟩,
     ⟨⟨(some 20), none, .mv (.t 2)⟩, 6, []⟩,
     ⟨⟨(some 21), none, .build [(.int .i64 (0)), (.int .i64 (0)), (.str [])] [(0, 2, (.t 19)), (2, 1, (.t 20))]⟩, 7, [5, 6]⟩,
     ⟨⟨(some 22), none, .buildSl [(.int .i64 (0)), (.int .i64 (0)), (.str [])] 1 [(0, 3, (.t 21))]⟩, 8, [5, 6, 7]⟩,
     ⟨⟨(some 23), none, .append 3 32 none (.t 18) (.t 22)⟩, 9, [1, 2, 3, 4, 5, 6, 7, 8]⟩,
     ⟨⟨(some 24), none, .nilck (.t 14)⟩, 10, [0, 1, 2, 3, 4, 5, 6, 7, 8, 9]⟩,
     ⟨⟨(some 25), none, .fieldAddr 4 (.t 24)⟩, 11, [0, 1, 2, 3, 4, 5, 6, 7, 8, 9, 10]⟩,
     ⟨⟨none, none, .store 1 (.t 25) (.t 23)⟩, 12, [0, 1, 2, 3, 4, 5, 6, 7, 8, 9, 10, 11]⟩])
   (.skip)))
  (.seq (.ops [⟨(some 26), none, .mv (.t 7)⟩,
    ⟨(some 6), none, .mv (.t 26)⟩])
  (.ret))))⟩
theorem a58_ok : funcC Tryz.prog Tryz.f58 = some a58 := by kernel_rfl
/-- (*strings.Builder).WriteString -/
def a59 : AFunc := ⟨2, [.tmp 4, .tmp 5],
  .seq (.ops [⟨(some 4), none, .mv (.c (.int .i64 (0)))⟩,
    ⟨(some 5), none, .mv (.c .nilIface)⟩])
  (.seq (.ops [⟨(some 6), none, .mv (.t 0)⟩,
    ⟨(some 7), none, .call (.c (.func (.func 84) [] [])) [(.t 6)]⟩])
  (.seq (.ops [⟨(some 8), none, .mv (.t 0)⟩,
    ⟨(some 9), none, .mv (.t 0)⟩,
    ⟨(some 10), none, .nilck (.t 9)⟩,
    ⟨(some 11), none, .fieldAddr 1 (.t 10)⟩,
    ⟨(some 12), none, .load none (.t 11)⟩,
    ⟨(some 13), none, .mv (.t 1)⟩,
    ⟨(some 14), none, .appendS (some 5) (.t 12) (.t 13)⟩,
    ⟨(some 15), none, .nilck (.t 8)⟩,
    ⟨(some 16), none, .fieldAddr 1 (.t 15)⟩,
    ⟨none, none, .store 1 (.t 16) (.t 14)⟩])
  (.seq (.ops [⟨(some 17), none, .mv (.t 1)⟩,
    ⟨(some 18), none, .lenStr (.t 17)⟩,
    ⟨(some 4), none, .mv (.t 18)⟩,
    ⟨(some 5), none, .mv (.c .nilIface)⟩])
  (.ret))))⟩
theorem a59_ok : funcC Tryz.prog Tryz.f59 = some a59 := by kernel_rfl
/-- permafrost/fixed.Put -/
def a60 : AFunc := ⟨2, [.tmp 4],
  .seq (.ops [⟨(some 4), none, .mv (.c (.str []))⟩])
  (.seq (.seq (.ops [⟨(some 7), none, .mv (.t 0)⟩,
    ⟨(some 8), none, .bin .lss (.t 7) (.c (.int .i64 (0)))⟩,
    ⟨(some 9), none, .mv (.t 8)⟩,
    ⟨(some 10), (some (9, false)), .mv (.t 0)⟩,
    ⟨(some 11), (some (9, false)), .mv (.t 1)⟩,
    ⟨(some 12), (some (9, false)), .call (.c (.func (.func 62) [] [])) [(.t 11)]⟩,
    ⟨(some 13), (some (9, false)), .bin .gtr (.t 10) (.t 12)⟩,
    ⟨(some 14), none, .pick (.t 9) (.c (.bool true)) (.t 13)⟩])
  (.cond (.t 14)
   (.seq (.ops [⟨(some 4), none, .mv (.c (.str []))⟩])
   (.ret))
   (.skip)))
  (.seq (.ops [⟨(some 15), none, .mv (.t 1)⟩,
    ⟨(some 16), none, .makeSl 1 1 [(.int .u8 (0))] (.t 15) (.t 15)⟩,
    ⟨(some 5), none, .mv (.t 16)⟩])
  (.seq (.seq (.ops [⟨(some 17), none, .mv (.t 1)⟩,
    ⟨(some 18), none, .mv (.c (.int .i64 (0)))⟩])
  (.block 0 (.loop (.seq (.ops [⟨(some 19), none, .bin .lss (.t 18) (.t 17)⟩])
    (.seq (.cond (.t 19)
     (.skip)
     (.exit 0))
    (.seq (.block 1 (.seq (.ops [⟨(some 20), none, .mv (.t 18)⟩,
       ⟨(some 6), none, .mv (.t 20)⟩])
     (.ops [⟨(some 21), none, .mv (.t 5)⟩,
       ⟨(some 22), none, .mv (.t 6)⟩,
       ⟨(some 23), none, .mv (.t 0)⟩,
       ⟨(some 24), none, .mv (.t 6)⟩,
       ⟨(some 25), none, .bin .mul (.c (.int .i64 (8))) (.t 24)⟩,
       ⟨(some 26), none, .bin .shr (.t 23) (.t 25)⟩,
       ⟨(some 27), none, .toInt .u8 (.t 26)⟩,
       ⟨(some 28), none, .idxSl 1 (.t 21) (.t 22)⟩,
       ⟨none, none, .store 1 (.t 28) (.t 27)⟩])))
    (.ops [⟨(some 29), none, .bin .add (.t 18) (.c (.int .i64 (1)))⟩,
      ⟨(some 18), none, .mv (.t 29)⟩])))))))
  (.seq (.ops [⟨(some 30), none, .mv (.t 5)⟩,
    ⟨(some 31), none, .toStr (.t 30)⟩,
    ⟨(some 4), none, .mv (.t 31)⟩])
  (.ret)))))⟩
theorem a60_ok : funcC Tryz.prog Tryz.f60 = some a60 := by kernel_rfl
/-- (*strings.Builder).String -/
def a61 : AFunc := ⟨1, [.tmp 2],
  .seq (.ops [⟨(some 2), none, .mv (.c (.str []))⟩])
  (.seq (.draw [⟨⟨(some 3), none, .mv (.t 0)⟩, 0, []⟩,
    ⟨⟨(some 4), none, .nilck (.t 3)⟩, 1, [0]⟩,
    ⟨⟨(some 5), none, .fieldAddr 1 (.t 4)⟩, 2, [0, 1]⟩,
    ⟨⟨(some 6), none, .load none (.t 5)⟩, 3, [0, 1, 2]⟩,
    ⟨⟨(some 7), none, .sliceData (.t 6)⟩, 4, [0, 1, 2, 3]⟩,
    ⟨⟨(some 8), none, .mv (.t 0)⟩, 5, []⟩,
    ⟨⟨(some 9), none, .nilck (.t 8)⟩, 6, [5]⟩,
    ⟨⟨(some 10), none, .fieldAddr 1 (.t 9)⟩, 7, [5, 6]⟩,
    ⟨⟨(some 11), none, .load none (.t 10)⟩, 8, [5, 6, 7]⟩,
    ⟨⟨(some 12), none, .lenSl (.t 11)⟩, 9, [5, 6, 7, 8]⟩,
    ⟨⟨(some 13), none, .unsStr 5 (.t 7) (.t 12)⟩, 10, [0, 1, 2, 3, 4, 5, 6, 7, 8, 9]⟩,
    ⟨⟨(some 2), none, .mv (.t 13)⟩, 11, [0, 1, 2, 3, 4, 5, 6, 7, 8, 9, 10]⟩])
  (.ret))⟩
theorem a61_ok : funcC Tryz.prog Tryz.f61 = some a61 := by kernel_rfl
/-- permafrost/fixed.Most -/
def a62 : AFunc := ⟨1, [.tmp 2],
  .seq (.ops [⟨(some 2), none, .mv (.c (.int .i64 (0)))⟩])
  (.seq (.seq (.ops [⟨(some 3), none, .mv (.t 0)⟩,
    ⟨(some 4), none, .bin .lss (.t 3) (.c (.int .i64 (1)))⟩,
    ⟨(some 5), none, .mv (.t 4)⟩,
    ⟨(some 6), (some (5, false)), .mv (.t 0)⟩,
    ⟨(some 7), (some (5, false)), .bin .gtr (.t 6) (.c (.int .i64 (7)))⟩,
    ⟨(some 8), none, .pick (.t 5) (.c (.bool true)) (.t 7)⟩])
  (.cond (.t 8)
   (.seq (.ops [⟨(some 2), none, .mv (.c (.int .i64 (-1)))⟩])
   (.ret))
   (.skip)))
  (.seq (.ops [⟨(some 9), none, .mv (.t 0)⟩,
    ⟨(some 10), none, .bin .mul (.c (.int .i64 (8))) (.t 9)⟩,
    ⟨(some 11), none, .bin .shl (.c (.int .i64 (1))) (.t 10)⟩,
    ⟨(some 12), none, .bin .sub (.t 11) (.c (.int .i64 (1)))⟩,
    ⟨(some 2), none, .mv (.t 12)⟩])
  (.ret)))⟩
theorem a62_ok : funcC Tryz.prog Tryz.f62 = some a62 := by kernel_rfl
/-- (*permafrost/fixed.Reader).take -/
def a63 : AFunc := ⟨3, [.tmp 6],
  .seq (.ops [⟨(some 6), none, .mv (.c (.str []))⟩])
  (.seq (.block 0 (.seq (.ops [⟨(some 25), none, .mv (.t 0)⟩,
     ⟨(some 26), none, .nilck (.t 25)⟩,
     ⟨(some 27), none, .fieldAddr 1 (.t 26)⟩,
     ⟨(some 28), none, .load none (.t 27)⟩,
     ⟨(some 29), none, .bin .neq (.t 28) (.c (.int .i64 (0)))⟩,
     ⟨(some 24), none, .mv (.t 29)⟩])
   (.cond (.t 24)
    (.skip)
    (.seq (.ops [⟨(some 31), none, .mv (.t 2)⟩,
      ⟨(some 32), none, .bin .neq (.t 31) (.c (.int .i64 (0)))⟩,
      ⟨(some 30), none, .mv (.t 32)⟩])
    (.cond (.t 30)
     (.ops [⟨(some 33), none, .mv (.t 0)⟩,
       ⟨(some 34), none, .mv (.t 2)⟩,
       ⟨(some 35), none, .nilck (.t 33)⟩,
       ⟨(some 36), none, .fieldAddr 1 (.t 35)⟩,
       ⟨none, none, .store 1 (.t 36) (.t 34)⟩])
     (.seq (.ops [⟨(some 38), none, .mv (.t 1)⟩,
       ⟨(some 39), none, .mv (.t 0)⟩,
       ⟨(some 40), none, .nilck (.t 39)⟩,
       ⟨(some 41), none, .fieldAddr 0 (.t 40)⟩,
       ⟨(some 42), none, .load none (.t 41)⟩,
       ⟨(some 43), none, .lenStr (.t 42)⟩,
       ⟨(some 44), none, .bin .gtr (.t 38) (.t 43)⟩,
       ⟨(some 37), none, .mv (.t 44)⟩])
     (.cond (.t 37)
      (.ops [⟨(some 45), none, .mv (.t 0)⟩,
        ⟨(some 46), none, .nilck (.t 45)⟩,
        ⟨(some 47), none, .fieldAddr 1 (.t 46)⟩,
        ⟨none, none, .store 1 (.t 47) (.c (.int .i64 (2)))⟩])
      (.seq (.ops [⟨(some 8), none, .mv (.t 0)⟩,
        ⟨(some 9), none, .nilck (.t 8)⟩,
        ⟨(some 10), none, .fieldAddr 0 (.t 9)⟩,
        ⟨(some 11), none, .load none (.t 10)⟩,
        ⟨(some 12), none, .mv (.t 1)⟩,
        ⟨(some 13), none, .sliceStr (.t 11) none (some (.t 12))⟩,
        ⟨(some 7), none, .mv (.t 13)⟩])
      (.seq (.ops [⟨(some 14), none, .mv (.t 0)⟩,
        ⟨(some 15), none, .mv (.t 0)⟩,
        ⟨(some 16), none, .nilck (.t 15)⟩,
        ⟨(some 17), none, .fieldAddr 0 (.t 16)⟩,
        ⟨(some 18), none, .load none (.t 17)⟩,
        ⟨(some 19), none, .mv (.t 1)⟩,
        ⟨(some 20), none, .sliceStr (.t 18) (some (.t 19)) none⟩,
        ⟨(some 21), none, .nilck (.t 14)⟩,
        ⟨(some 22), none, .fieldAddr 0 (.t 21)⟩,
        ⟨none, none, .store 1 (.t 22) (.t 20)⟩])
      (.seq (.ops [⟨(some 23), none, .mv (.t 7)⟩,
        ⟨(some 6), none, .mv (.t 23)⟩])
      (.ret)))))))))))
  (.seq (.ops [⟨(some 6), none, .mv (.c (.str []))⟩])
  (.ret)))⟩
theorem a63_ok : funcC Tryz.prog Tryz.f63 = some a63 := by kernel_rfl
/-- permafrost/ptr.in -/
def a64 : AFunc := ⟨2, [.tmp 4],
  .seq (.ops [⟨(some 4), none, .mv (.c (.bool false))⟩])
  (.seq (.ops [⟨(some 5), none, .mv (.t 0)⟩,
    ⟨(some 6), none, .bin .geq (.t 5) (.c (.int .i64 (0)))⟩,
    ⟨(some 7), none, .mv (.t 6)⟩,
    ⟨(some 8), (some (7, true)), .mv (.t 0)⟩,
    ⟨(some 9), (some (7, true)), .mv (.t 1)⟩,
    ⟨(some 10), (some (7, true)), .bin .leq (.t 8) (.t 9)⟩,
    ⟨(some 11), none, .pick (.t 7) (.t 10) (.c (.bool false))⟩,
    ⟨(some 4), none, .mv (.t 11)⟩])
  (.ret))⟩
theorem a64_ok : funcC Tryz.prog Tryz.f64 = some a64 := by kernel_rfl
/-- (*permafrost/second.Second).find -/
def a65 : AFunc := ⟨2, [.tmp 4, .tmp 5],
  .seq (.ops [⟨(some 4), none, .mv (.c (.int .i64 (0)))⟩,
    ⟨(some 5), none, .mv (.c (.bool false))⟩])
  (.seq (.seq (.ops [⟨(some 8), none, .mv (.t 0)⟩,
    ⟨(some 9), none, .nilck (.t 8)⟩,
    ⟨(some 10), none, .fieldAddr 3 (.t 9)⟩,
    ⟨(some 11), none, .load none (.t 10)⟩,
    ⟨(some 12), none, .call (.c (.func (.func 86) [] [])) [(.t 11)]⟩,
    ⟨(some 13), none, .call (.c (.func (.func 85) [] [])) [(.t 12)]⟩,
    ⟨(some 14), none, .lenSl (.t 13)⟩,
    ⟨(some 15), none, .mv (.c (.int .i64 (0)))⟩])
  (.block 0 (.loop (.seq (.ops [⟨(some 16), none, .bin .lss (.t 15) (.t 14)⟩])
    (.seq (.cond (.t 16)
     (.skip)
     (.exit 0))
    (.seq (.block 1 (.seq (.ops [⟨(some 17), none, .idxSl 1 (.t 13) (.t 15)⟩,
       ⟨(some 18), none, .load none (.t 17)⟩,
       ⟨(some 7), none, .mv (.t 18)⟩])
     (.seq (.ops [⟨(some 19), none, .mv (.t 0)⟩,
       ⟨(some 20), none, .nilck (.t 19)⟩,
       ⟨(some 21), none, .fieldAddr 3 (.t 20)⟩,
       ⟨(some 22), none, .load none (.t 21)⟩,
       ⟨(some 23), none, .mv (.t 7)⟩,
       ⟨(some 24), none, .lookup .int (.agg [(.str []), (.str []), (.int .i64 (0)), (.int .i64 (0))]) false (.t 22) (.t 23)⟩,
       ⟨(some 25), none, .field 0 none (.t 24)⟩,
       ⟨(some 26), none, .mv (.t 1)⟩,
       ⟨(some 27), none, .bin .eql (.t 25) (.t 26)⟩])
     (.cond (.t 27)
      (.seq (.ops [⟨(some 28), none, .mv (.t 7)⟩,
        ⟨(some 4), none, .mv (.t 28)⟩,
        ⟨(some 5), none, .mv (.c (.bool true))⟩])
      (.ret))
      (.skip)))))
    (.ops [⟨(some 29), none, .bin .add (.t 15) (.c (.int .i64 (1)))⟩,
      ⟨(some 15), none, .mv (.t 29)⟩])))))))
  (.seq (.ops [⟨(some 4), none, .mv (.c (.int .i64 (0)))⟩,
    ⟨(some 5), none, .mv (.c (.bool false))⟩])
  (.ret)))⟩
theorem a65_ok : funcC Tryz.prog Tryz.f65 = some a65 := by kernel_rfl
/-- (*permafrost/dev.Devs).Read -/
def a66 : AFunc := ⟨2, [.cell 4 none, .cell 5 none],
  .seq (.ops [⟨(some 3), none, .box (.t 1)⟩,
    ⟨(some 4), none, .alloc none [(.str [])]⟩,
    ⟨(some 5), none, .alloc none [(.int .i64 (0))]⟩])
  (.seq (.seq (.ops [⟨(some 9), none, .mv (.t 0)⟩,
    ⟨(some 10), none, .load (some 2) (.t 3)⟩,
    ⟨(some 11), none, .call (.c (.func (.func 83) [] [])) [(.t 9), (.t 10), (.c (.str []))]⟩,
    ⟨(some 6), none, .mv (.t 11)⟩])
  (.seq (.ops [⟨(some 12), none, .mv (.t 6)⟩,
    ⟨(some 13), none, .bin .neq (.t 12) (.c (.int .i64 (0)))⟩])
  (.cond (.t 13)
   (.seq (.ops [⟨(some 14), none, .mv (.t 6)⟩,
     ⟨none, none, .store 1 (.t 4) (.c (.str []))⟩,
     ⟨none, none, .store 1 (.t 5) (.t 14)⟩])
   (.ret))
   (.skip))))
  (.seq (.seq (.ops [⟨(some 15), none, .mv (.t 0)⟩,
    ⟨(some 16), none, .nilck (.t 15)⟩,
    ⟨(some 17), none, .fieldAddr 4 (.t 16)⟩,
    ⟨(some 18), none, .load none (.t 17)⟩,
    ⟨(some 19), none, .call (.c (.func (.func 87) [] [])) [(.t 18)]⟩])
  (.block 0 (.range 39 (.t 19) [20, 21]
    (.ops [⟨(some 8), none, .alloc none [(.int .i64 (0)), (.int .i64 (0)), (.str [])]⟩,
      ⟨none, none, .store 3 (.t 8) (.t 21)⟩])
    (.block 1 (.seq (.ops [⟨(some 22), none, .fieldAddr 0 (.t 8)⟩,
       ⟨(some 23), none, .load (some 2) (.t 22)⟩,
       ⟨(some 24), none, .load (some 2) (.t 3)⟩,
       ⟨(some 25), none, .eq false (.struct [(0, none, (.flat .int)), (1, none, (.flat .int))]) (.t 23) (.t 24)⟩])
     (.cond (.t 25)
      (.seq (.ops [⟨(some 26), none, .fieldAddr 2 (.t 8)⟩,
        ⟨(some 27), none, .load none (.t 26)⟩,
        ⟨none, none, .store 1 (.t 4) (.t 27)⟩,
        ⟨none, none, .store 1 (.t 5) (.c (.int .i64 (0)))⟩])
      (.ret))
      (.skip)))))))
  (.seq (.draw [⟨⟨(some 28), none, .mv (.t 0)⟩, 0, []⟩,
    ⟨⟨(some 29), none, .fieldAddr 0 (.t 3)⟩, 1, []⟩,
    ⟨⟨(some 30), none, .load none (.t 29)⟩, 2, [1]⟩,
    ⟨⟨(some 31), none, .nilck (.t 28)⟩, 3, [0]⟩,
    ⟨⟨(some 32), none, .fieldAddr 0 (.t 31)⟩, 4, [0, 3]⟩,
    ⟨⟨(some 33), none, .idxArr 2 1 (.t 32) (.t 30)⟩, 5, [0, 1, 2, 3, 4]⟩,
    ⟨⟨(some 34), none, .load none (.t 33)⟩, 6, [0, 1, 2, 3, 4, 5]⟩,
    ⟨⟨(some 35), none, .fieldAddr 1 (.t 3)⟩, 7, []⟩,
    ⟨⟨(some 36), none, .load none (.t 35)⟩, 8, [7]⟩,
    ⟨⟨(some 37), none, .idxSl 1 (.t 34) (.t 36)⟩, 9, [0, 1, 2, 3, 4, 5, 6, 7, 8]⟩,
    ⟨⟨(some 38), none, .load none (.t 37)⟩, 10, [0, 1, 2, 3, 4, 5, 6, 7, 8, 9]⟩,
    ⟨⟨none, none, .store 1 (.t 4) (.t 38)⟩, 11, [0, 1, 2, 3, 4, 5, 6, 7, 8, 9, 10]⟩,
    ⟨⟨none, none, .store 1 (.t 5) (.c (.int .i64 (0)))⟩, 12, [0, 1, 2, 3, 4, 5, 6, 7, 8, 9, 10, 11]⟩])
  (.ret))))⟩
theorem a66_ok : funcC Tryz.prog Tryz.f66 = some a66 := by kernel_rfl
/-- permafrost/blk.copies -/
def a67 : AFunc := ⟨2, [.tmp 4],
  .seq (.ops [⟨(some 2), none, .box (.t 0)⟩,
    ⟨(some 3), none, .box (.t 1)⟩,
    ⟨(some 4), none, .mv (.c .nilFunc)⟩])
  (.seq (.ops [⟨(some 5), none, .mkFn (.func 88) [] [(.t 3), (.t 2)]⟩,
    ⟨(some 4), none, .mv (.t 5)⟩])
  (.ret))⟩
theorem a67_ok : funcC Tryz.prog Tryz.f67 = some a67 := by kernel_rfl
/-- (*permafrost/arc.list).len -/
def a68 : AFunc := ⟨1, [.tmp 2],
  .seq (.ops [⟨(some 2), none, .mv (.c (.int .i64 (0)))⟩])
  (.seq (.ops [⟨(some 3), none, .mv (.t 0)⟩,
    ⟨(some 4), none, .nilck (.t 3)⟩,
    ⟨(some 5), none, .fieldAddr 0 (.t 4)⟩,
    ⟨(some 6), none, .load none (.t 5)⟩,
    ⟨(some 7), none, .lenSl (.t 6)⟩,
    ⟨(some 2), none, .mv (.t 7)⟩])
  (.ret))⟩
theorem a68_ok : funcC Tryz.prog Tryz.f68 = some a68 := by kernel_rfl
/-- (*permafrost/arc.Arc).Drop -/
def a69 : AFunc := ⟨2, [.tmp 4],
  .seq (.ops [⟨(some 4), none, .mv (.c (.bool false))⟩])
  (.seq (.seq (.ops [⟨(some 6), none, .mv (.t 0)⟩,
    ⟨(some 7), none, .eq false (.flat .ptr) (.t 6) (.c (.ptr none))⟩])
  (.cond (.t 7)
   (.seq (.ops [⟨(some 4), none, .mv (.c (.bool false))⟩])
   (.ret))
   (.skip)))
  (.seq (.ops [⟨(some 8), none, .mv (.t 0)⟩,
    ⟨(some 9), none, .mv (.t 1)⟩,
    ⟨(some 10), none, .call (.c (.func (.func 89) [] [])) [(.t 8), (.t 9)]⟩,
    ⟨(some 5), none, .mv (.t 10)⟩])
  (.seq (.draw [⟨⟨(some 11), none, .mv (.t 1)⟩, 0, []⟩,
    ⟨⟨(some 12), none, .mv (.t 0)⟩, 1, []⟩,
    ⟨⟨(some 13), none, .nilck (.t 12)⟩, 2, [1]⟩,
    ⟨⟨(some 14), none, .fieldAddr 0 (.t 13)⟩, 3, [1, 2]⟩,
    ⟨⟨(some 15), none, .mv (.t 0)⟩, 4, []⟩,
    ⟨⟨(some 16), none, .nilck (.t 15)⟩, 5, [4]⟩,
    ⟨⟨(some 17), none, .fieldAddr 1 (.t 16)⟩, 6, [4, 5]⟩,
    ⟨⟨(some 18), none, .mv (.t 0)⟩, 7, []⟩,
    ⟨⟨(some 19), none, .nilck (.t 18)⟩, 8, [7]⟩,
    ⟨⟨(some 20), none, .fieldAddr 2 (.t 19)⟩, 9, [7, 8]⟩,
    ⟨⟨(some 21), none, .mv (.t 0)⟩, 10, []⟩,
    ⟨⟨(some 22), none, .nilck (.t 21)⟩, 11, [10]⟩,
    ⟨⟨(some 23), none, .fieldAddr 3 (.t 22)⟩, 12, [10, 11]⟩,
    ⟨⟨(some 24), none, .buildSl [(.ptr none), (.ptr none), (.ptr none), (.ptr none)] 4 [(0, 1, (.t 14)), (1, 1, (.t 17)), (2, 1, (.t 20)), (3, 1, (.t 23))]⟩, 13, [1, 2, 3, 4, 5, 6, 7, 8, 9, 10, 11, 12]⟩,
    ⟨⟨(some 25), none, .call (.c (.func (.func 90) [] [])) [(.c (.func (.func 91) [] [])), (.t 11), (.t 24)]⟩, 14, [0, 1, 2, 3, 4, 5, 6, 7, 8, 9, 10, 11, 12, 13]⟩])
  (.seq (.ops [⟨(some 26), none, .mv (.t 5)⟩,
    ⟨(some 4), none, .mv (.t 26)⟩])
  (.ret)))))⟩
theorem a69_ok : funcC Tryz.prog Tryz.f69 = some a69 := by kernel_rfl
/-- (*permafrost/arc.list).add -/
def a70 : AFunc := ⟨2, [],
  .ops [⟨(some 4), none, .mv (.t 0)⟩,
    ⟨(some 5), none, .mv (.t 0)⟩,
    ⟨(some 6), none, .nilck (.t 5)⟩,
    ⟨(some 7), none, .fieldAddr 0 (.t 6)⟩,
    ⟨(some 8), none, .load none (.t 7)⟩,
    ⟨(some 9), none, .mv (.t 1)⟩,
    ⟨(some 10), none, .buildSl [(.str [])] 1 [(0, 1, (.t 9))]⟩,
    ⟨(some 11), none, .append 1 16 none (.t 8) (.t 10)⟩,
    ⟨(some 12), none, .nilck (.t 4)⟩,
    ⟨(some 13), none, .fieldAddr 0 (.t 12)⟩,
    ⟨none, none, .store 1 (.t 13) (.t 11)⟩]⟩
theorem a70_ok : funcC Tryz.prog Tryz.f70 = some a70 := by kernel_rfl
/-- (*permafrost/arc.Arc).room -/
def a71 : AFunc := ⟨2, [.tmp 4],
  .seq (.ops [⟨(some 4), none, .mv (.c (.str []))⟩])
  (.seq (.ops [⟨(some 8), none, .mv (.t 0)⟩,
    ⟨(some 9), none, .nilck (.t 8)⟩,
    ⟨(some 10), none, .fieldAddr 0 (.t 9)⟩,
    ⟨(some 11), none, .call (.c (.func (.func 68) [] [])) [(.t 10)]⟩,
    ⟨(some 5), none, .mv (.t 11)⟩])
  (.seq (.seq (.ops [⟨(some 12), none, .mv (.t 5)⟩,
    ⟨(some 13), none, .bin .gtr (.t 12) (.c (.int .i64 (0)))⟩,
    ⟨(some 14), none, .mv (.t 13)⟩,
    ⟨(some 15), (some (14, true)), .mv (.t 5)⟩,
    ⟨(some 16), (some (14, true)), .mv (.t 0)⟩,
    ⟨(some 17), (some (14, true)), .nilck (.t 16)⟩,
    ⟨(some 18), (some (14, true)), .fieldAddr 4 (.t 17)⟩,
    ⟨(some 19), (some (14, true)), .load none (.t 18)⟩,
    ⟨(some 20), (some (14, true)), .bin .gtr (.t 15) (.t 19)⟩,
    ⟨(some 21), (some (14, true)), .mv (.t 20)⟩,
    ⟨(some 22), (some (21, false)), .mv (.t 1)⟩,
    ⟨(some 23), (some (21, false)), .mv (.t 22)⟩,
    ⟨(some 24), (some (23, true)), .mv (.t 5)⟩,
    ⟨(some 25), (some (23, true)), .mv (.t 0)⟩,
    ⟨(some 26), (some (23, true)), .nilck (.t 25)⟩,
    ⟨(some 27), (some (23, true)), .fieldAddr 4 (.t 26)⟩,
    ⟨(some 28), (some (23, true)), .load none (.t 27)⟩,
    ⟨(some 29), (some (23, true)), .bin .eql (.t 24) (.t 28)⟩,
    ⟨(some 30), (some (21, false)), .pick (.t 23) (.t 29) (.c (.bool false))⟩,
    ⟨(some 31), (some (14, true)), .pick (.t 21) (.c (.bool true)) (.t 30)⟩,
    ⟨(some 32), (some (14, true)), .mv (.t 31)⟩,
    ⟨(some 33), (some (32, false)), .mv (.t 0)⟩,
    ⟨(some 34), (some (32, false)), .nilck (.t 33)⟩,
    ⟨(some 35), (some (32, false)), .fieldAddr 1 (.t 34)⟩,
    ⟨(some 36), (some (32, false)), .call (.c (.func (.func 68) [] [])) [(.t 35)]⟩,
    ⟨(some 37), (some (32, false)), .bin .eql (.t 36) (.c (.int .i64 (0)))⟩,
    ⟨(some 38), (some (14, true)), .pick (.t 32) (.c (.bool true)) (.t 37)⟩,
    ⟨(some 39), none, .pick (.t 14) (.t 38) (.c (.bool false))⟩])
  (.cond (.t 39)
   (.seq (.ops [⟨(some 40), none, .mv (.t 0)⟩,
     ⟨(some 41), none, .nilck (.t 40)⟩,
     ⟨(some 42), none, .fieldAddr 0 (.t 41)⟩,
     ⟨(some 43), none, .call (.c (.func (.func 92) [] [])) [(.t 42)]⟩,
     ⟨(some 6), none, .mv (.t 43)⟩])
   (.seq (.ops [⟨(some 44), none, .mv (.t 0)⟩,
     ⟨(some 45), none, .nilck (.t 44)⟩,
     ⟨(some 46), none, .fieldAddr 2 (.t 45)⟩,
     ⟨(some 47), none, .mv (.t 6)⟩,
     ⟨(some 48), none, .call (.c (.func (.func 70) [] [])) [(.t 46), (.t 47)]⟩])
   (.seq (.ops [⟨(some 49), none, .mv (.t 6)⟩,
     ⟨(some 4), none, .mv (.t 49)⟩])
   (.ret))))
   (.skip)))
  (.seq (.ops [⟨(some 50), none, .mv (.t 0)⟩,
    ⟨(some 51), none, .nilck (.t 50)⟩,
    ⟨(some 52), none, .fieldAddr 1 (.t 51)⟩,
    ⟨(some 53), none, .call (.c (.func (.func 92) [] [])) [(.t 52)]⟩,
    ⟨(some 7), none, .mv (.t 53)⟩])
  (.seq (.seq (.ops [⟨(some 54), none, .mv (.t 7)⟩,
    ⟨(some 55), none, .bin .neq (.t 54) (.c (.str []))⟩])
  (.cond (.t 55)
   (.ops [⟨(some 56), none, .mv (.t 0)⟩,
     ⟨(some 57), none, .nilck (.t 56)⟩,
     ⟨(some 58), none, .fieldAddr 3 (.t 57)⟩,
     ⟨(some 59), none, .mv (.t 7)⟩,
     ⟨(some 60), none, .call (.c (.func (.func 70) [] [])) [(.t 58), (.t 59)]⟩])
   (.skip)))
  (.seq (.ops [⟨(some 61), none, .mv (.t 7)⟩,
    ⟨(some 4), none, .mv (.t 61)⟩])
  (.ret))))))⟩
theorem a71_ok : funcC Tryz.prog Tryz.f71 = some a71 := by kernel_rfl
/-- (*permafrost/arc.Arc).fresh -/
def a72 : AFunc := ⟨1, [.tmp 2],
  .seq (.ops [⟨(some 2), none, .mv (.c (.str []))⟩])
  (.seq (.draw [⟨⟨(some 6), none, .mv (.t 0)⟩, 0, []⟩,
    ⟨⟨(some 7), none, .nilck (.t 6)⟩, 1, [0]⟩,
    ⟨⟨(some 8), none, .fieldAddr 0 (.t 7)⟩, 2, [0, 1]⟩,
    ⟨⟨(some 10), none, .mv (.t 0)⟩, 4, []⟩,
    ⟨⟨(some 11), none, .nilck (.t 10)⟩, 5, [3]⟩,
    ⟨⟨(some 12), none, .fieldAddr 2 (.t 11)⟩, 6, [3, 4]⟩,
    ⟨⟨(some 9), none, .call (.c (.func (.func 68) [] [])) [(.t 8)]⟩, 3, [0, 1, 2]⟩,
    ⟨⟨(some 13), none, .call (.c (.func (.func 68) [] [])) [(.t 12)]⟩, 7, [0, 1, 2, 3, 4, 5, 6]⟩,
    ⟨⟨(some 3), none, .mv (.t 9)⟩, 8, [0, 1, 2, 3, 4, 5, 6, 7]⟩,
    ⟨⟨(some 4), none, .mv (.t 13)⟩, 9, [0, 1, 2, 3, 4, 5, 6, 7, 8]⟩])
  (.seq (.draw [⟨⟨(some 14), none, .mv (.t 3)⟩, 0, []⟩,
    ⟨⟨(some 15), none, .mv (.t 4)⟩, 1, []⟩,
    ⟨⟨(some 16), none, .bin .add (.t 14) (.t 15)⟩, 2, [0, 1]⟩,
    ⟨⟨(some 17), none, .mv (.t 0)⟩, 3, []⟩,
    ⟨⟨(some 18), none, .nilck (.t 17)⟩, 4, [3]⟩,
    ⟨⟨(some 19), none, .fieldAddr 1 (.t 18)⟩, 5, [3, 4]⟩,
    ⟨⟨(some 22), none, .mv (.t 0)⟩, 8, []⟩,
    ⟨⟨(some 23), none, .nilck (.t 22)⟩, 9, [6]⟩,
    ⟨⟨(some 24), none, .fieldAddr 3 (.t 23)⟩, 10, [6, 7]⟩,
    ⟨⟨(some 20), none, .call (.c (.func (.func 68) [] [])) [(.t 19)]⟩, 6, [3, 4, 5]⟩,
    ⟨⟨(some 21), none, .bin .add (.t 16) (.t 20)⟩, 7, [0, 1, 2, 3, 4, 5, 9]⟩,
    ⟨⟨(some 25), none, .call (.c (.func (.func 68) [] [])) [(.t 24)]⟩, 11, [3, 4, 5, 6, 7, 8, 9]⟩,
    ⟨⟨(some 26), none, .bin .add (.t 21) (.t 25)⟩, 12, [0, 1, 2, 3, 4, 5, 6, 7, 8, 9, 10, 11]⟩,
    ⟨⟨(some 5), none, .mv (.t 26)⟩, 13, [0, 1, 2, 3, 4, 5, 6, 7, 8, 9, 10, 11, 12]⟩])
  (.seq (.block 0 (.seq (.ops [⟨(some 28), none, .mv (.t 3)⟩,
     ⟨(some 29), none, .mv (.t 0)⟩,
     ⟨(some 30), none, .nilck (.t 29)⟩,
     ⟨(some 31), none, .fieldAddr 5 (.t 30)⟩,
     ⟨(some 32), none, .load none (.t 31)⟩,
     ⟨(some 33), none, .bin .eql (.t 28) (.t 32)⟩,
     ⟨(some 34), none, .mv (.t 33)⟩,
     ⟨(some 35), (some (34, true)), .mv (.t 4)⟩,
     ⟨(some 36), (some (34, true)), .bin .eql (.t 35) (.c (.int .i64 (0)))⟩,
     ⟨(some 37), none, .pick (.t 34) (.t 36) (.c (.bool false))⟩,
     ⟨(some 27), none, .mv (.t 37)⟩])
   (.cond (.t 27)
    (.seq (.ops [⟨(some 38), none, .mv (.t 0)⟩,
      ⟨(some 39), none, .nilck (.t 38)⟩,
      ⟨(some 40), none, .fieldAddr 0 (.t 39)⟩,
      ⟨(some 41), none, .call (.c (.func (.func 92) [] [])) [(.t 40)]⟩,
      ⟨(some 2), none, .mv (.t 41)⟩])
    (.ret))
    (.seq (.ops [⟨(some 43), none, .mv (.t 3)⟩,
      ⟨(some 44), none, .mv (.t 4)⟩,
      ⟨(some 45), none, .bin .add (.t 43) (.t 44)⟩,
      ⟨(some 46), none, .mv (.t 0)⟩,
      ⟨(some 47), none, .nilck (.t 46)⟩,
      ⟨(some 48), none, .fieldAddr 5 (.t 47)⟩,
      ⟨(some 49), none, .load none (.t 48)⟩,
      ⟨(some 50), none, .bin .eql (.t 45) (.t 49)⟩,
      ⟨(some 42), none, .mv (.t 50)⟩])
    (.cond (.t 42)
     (.ops [⟨(some 51), none, .mv (.t 0)⟩,
       ⟨(some 52), none, .nilck (.t 51)⟩,
       ⟨(some 53), none, .fieldAddr 2 (.t 52)⟩,
       ⟨(some 54), none, .call (.c (.func (.func 92) [] [])) [(.t 53)]⟩])
     (.seq (.ops [⟨(some 56), none, .mv (.t 5)⟩,
       ⟨(some 57), none, .mv (.t 0)⟩,
       ⟨(some 58), none, .nilck (.t 57)⟩,
       ⟨(some 59), none, .fieldAddr 5 (.t 58)⟩,
       ⟨(some 60), none, .load none (.t 59)⟩,
       ⟨(some 61), none, .bin .lss (.t 56) (.t 60)⟩,
       ⟨(some 55), none, .mv (.t 61)⟩])
     (.cond (.t 55)
      (.seq (.ops [⟨(some 2), none, .mv (.c (.str []))⟩])
      (.ret))
      (.seq (.ops [⟨(some 63), none, .mv (.t 5)⟩,
        ⟨(some 64), none, .mv (.t 0)⟩,
        ⟨(some 65), none, .nilck (.t 64)⟩,
        ⟨(some 66), none, .fieldAddr 5 (.t 65)⟩,
        ⟨(some 67), none, .load none (.t 66)⟩,
        ⟨(some 68), none, .bin .mul (.c (.int .i64 (2))) (.t 67)⟩,
        ⟨(some 69), none, .bin .eql (.t 63) (.t 68)⟩,
        ⟨(some 62), none, .mv (.t 69)⟩])
      (.cond (.t 62)
       (.ops [⟨(some 70), none, .mv (.t 0)⟩,
         ⟨(some 71), none, .nilck (.t 70)⟩,
         ⟨(some 72), none, .fieldAddr 3 (.t 71)⟩,
         ⟨(some 73), none, .call (.c (.func (.func 92) [] [])) [(.t 72)]⟩])
       (.skip))))))))))
  (.seq (.ops [⟨(some 74), none, .mv (.t 0)⟩,
    ⟨(some 75), none, .call (.c (.func (.func 71) [] [])) [(.t 74), (.c (.bool false))]⟩,
    ⟨(some 2), none, .mv (.t 75)⟩])
  (.ret)))))⟩
theorem a72_ok : funcC Tryz.prog Tryz.f72 = some a72 := by kernel_rfl
/-- (*permafrost/second.Second).sectors -/
def a73 : AFunc := ⟨2, [.tmp 4],
  .seq (.ops [⟨(some 2), none, .box (.t 0)⟩,
    ⟨(some 3), none, .box (.t 1)⟩,
    ⟨(some 4), none, .mv (.c .nilFunc)⟩])
  (.seq (.ops [⟨(some 5), none, .mkFn (.func 93) [] [(.t 3), (.t 2)]⟩,
    ⟨(some 4), none, .mv (.t 5)⟩])
  (.ret))⟩
theorem a73_ok : funcC Tryz.prog Tryz.f73 = some a73 := by kernel_rfl
/-- (*permafrost/second.Second).tell -/
def a74 : AFunc := ⟨2, [],
  .seq (.ops [⟨(some 2), none, .box (.t 0)⟩])
  (.seq (.ops [⟨(some 10), none, .load none (.t 2)⟩,
    ⟨(some 11), none, .nilck (.t 10)⟩,
    ⟨(some 12), none, .fieldAddr 4 (.t 11)⟩,
    ⟨(some 13), none, .load none (.t 12)⟩,
    ⟨(some 14), none, .bin .add (.t 13) (.c (.int .i64 (1)))⟩,
    ⟨(some 15), none, .nilck (.t 10)⟩,
    ⟨(some 16), none, .fieldAddr 4 (.t 15)⟩,
    ⟨none, none, .store 1 (.t 16) (.t 14)⟩])
  (.seq (.ops [⟨(some 17), none, .load none (.t 2)⟩,
    ⟨(some 18), none, .nilck (.t 17)⟩,
    ⟨(some 19), none, .fieldAddr 4 (.t 18)⟩,
    ⟨(some 20), none, .load none (.t 19)⟩,
    ⟨(some 21), none, .build [(.int .i64 (0)), (.slice none 0 0)] [(0, 1, (.t 20))]⟩,
    ⟨(some 4), none, .alloc none [(.int .i64 (0)), (.slice none 0 0)]⟩,
    ⟨none, none, .store 2 (.t 4) (.t 21)⟩])
  (.seq (.seq (.ops [⟨(some 22), none, .load none (.t 2)⟩,
    ⟨(some 23), none, .mv (.t 1)⟩,
    ⟨(some 24), none, .call (.c (.func (.func 73) [] [])) [(.t 22), (.t 23)]⟩])
  (.block 0 (.range 57 (.t 24) [25, 26]
    (.ops [⟨(some 5), none, .mv (.t 25)⟩])
    (.block 1 (.seq (.ops [⟨(some 28), none, .load none (.t 2)⟩,
       ⟨(some 29), none, .nilck (.t 28)⟩,
       ⟨(some 30), none, .fieldAddr 3 (.t 29)⟩,
       ⟨(some 31), none, .load none (.t 30)⟩,
       ⟨(some 32), none, .mv (.t 5)⟩,
       ⟨(some 33), none, .lookup .int (.agg [(.str []), (.str []), (.int .i64 (0)), (.int .i64 (0))]) true (.t 31) (.t 32)⟩,
       ⟨(some 27), none, .mv (.t 33)⟩,
       ⟨(some 34), none, .extract 0 (.t 27)⟩,
       ⟨(some 35), none, .extract 1 (.t 27)⟩,
       ⟨(some 6), none, .alloc none [(.str []), (.str []), (.int .i64 (0)), (.int .i64 (0))]⟩,
       ⟨none, none, .store 4 (.t 6) (.t 34)⟩,
       ⟨(some 7), none, .mv (.t 35)⟩])
     (.seq (.ops [⟨(some 36), none, .mv (.t 7)⟩])
     (.cond (.t 36)
      (.ops [⟨(some 37), none, .fieldAddr 1 (.t 4)⟩,
        ⟨(some 38), none, .load none (.t 37)⟩,
        ⟨(some 39), none, .load (some 4) (.t 6)⟩,
        ⟨(some 40), none, .buildSl [(.str []), (.str []), (.int .i64 (0)), (.int .i64 (0))] 1 [(0, 4, (.t 39))]⟩,
        ⟨(some 41), none, .append 4 48 none (.t 38) (.t 40)⟩,
        ⟨(some 42), none, .fieldAddr 1 (.t 4)⟩,
        ⟨none, none, .store 1 (.t 42) (.t 41)⟩])
      (.skip))))))))
  (.seq (.ops [⟨(some 44), none, .load (some 2) (.t 4)⟩,
    ⟨(some 45), none, .call (.c (.func (.func 95) [] [])) [(.t 44)]⟩,
    ⟨(some 43), none, .mv (.t 45)⟩,
    ⟨(some 46), none, .extract 0 (.t 43)⟩,
    ⟨(some 47), none, .extract 1 (.t 43)⟩,
    ⟨(some 8), none, .mv (.t 46)⟩,
    ⟨(some 9), none, .mv (.t 47)⟩])
  (.draw [⟨⟨(some 48), none, .load none (.t 2)⟩, 0, []⟩,
    ⟨⟨(some 49), none, .nilck (.t 48)⟩, 1, [0]⟩,
    ⟨⟨(some 50), none, .fieldAddr 0 (.t 49)⟩, 2, [0, 1]⟩,
    ⟨⟨(some 51), none, .load none (.t 50)⟩, 3, [0, 1, 2]⟩,
    ⟨⟨(some 52), none, .load none (.t 2)⟩, 4, []⟩,
    ⟨⟨(some 53), none, .mv (.t 1)⟩, 5, []⟩,
    ⟨⟨(some 55), none, .mv (.t 8)⟩, 7, []⟩,
    ⟨⟨(some 54), none, .call (.c (.func (.func 94) [] [])) [(.t 52), (.t 53)]⟩, 6, [4, 5]⟩,
    ⟨⟨(some 56), none, .call (.c (.func (.func 58) [] [])) [(.t 51), (.t 54), (.t 55)]⟩, 8, [0, 1, 2, 3, 4, 5, 6, 7]⟩])))))⟩
theorem a74_ok : funcC Tryz.prog Tryz.f74 = some a74 := by kernel_rfl
/-- (*permafrost/dev.Devs).Flush -/
def a75 : AFunc := ⟨1, [.tmp 2],
  .seq (.ops [⟨(some 2), none, .mv (.c (.int .i64 (0)))⟩])
  (.seq (.ops [⟨(some 3), none, .mv (.t 0)⟩,
    ⟨(some 4), none, .call (.c (.func (.func 96) [] [])) [(.t 3), (.c (.func (.func 97) [] []))]⟩,
    ⟨(some 2), none, .mv (.t 4)⟩])
  (.ret))⟩
theorem a75_ok : funcC Tryz.prog Tryz.f75 = some a75 := by kernel_rfl
/-- (*permafrost/second.Second).Room -/
def a76 : AFunc := ⟨1, [.tmp 2],
  .seq (.ops [⟨(some 2), none, .mv (.c (.int .i64 (0)))⟩])
  (.seq (.seq (.ops [⟨(some 3), none, .mv (.t 0)⟩,
    ⟨(some 4), none, .eq false (.flat .ptr) (.t 3) (.c (.ptr none))⟩])
  (.cond (.t 4)
   (.seq (.ops [⟨(some 2), none, .mv (.c (.int .i64 (0)))⟩])
   (.ret))
   (.skip)))
  (.seq (.draw [⟨⟨(some 5), none, .mv (.t 0)⟩, 0, []⟩,
    ⟨⟨(some 6), none, .nilck (.t 5)⟩, 1, [0]⟩,
    ⟨⟨(some 7), none, .fieldAddr 2 (.t 6)⟩, 2, [0, 1]⟩,
    ⟨⟨(some 8), none, .load none (.t 7)⟩, 3, [0, 1, 2]⟩,
    ⟨⟨(some 9), none, .bin .quo (.t 8) (.c (.int .i64 (8)))⟩, 4, [0, 1, 2, 3]⟩,
    ⟨⟨(some 10), none, .bin .mul (.t 9) (.c (.int .i64 (7)))⟩, 5, [0, 1, 2, 3, 4]⟩,
    ⟨⟨(some 11), none, .mv (.t 0)⟩, 6, []⟩,
    ⟨⟨(some 12), none, .nilck (.t 11)⟩, 7, [6]⟩,
    ⟨⟨(some 13), none, .fieldAddr 2 (.t 12)⟩, 8, [6, 7]⟩,
    ⟨⟨(some 14), none, .load none (.t 13)⟩, 9, [6, 7, 8]⟩,
    ⟨⟨(some 15), none, .bin .rem (.t 14) (.c (.int .i64 (8)))⟩, 10, [6, 7, 8, 9]⟩,
    ⟨⟨(some 16), none, .bin .sub (.t 15) (.c (.int .i64 (1)))⟩, 11, [6, 7, 8, 9, 10]⟩,
    ⟨⟨(some 17), none, .max2 (.t 16) (.c (.int .i64 (0)))⟩, 12, [6, 7, 8, 9, 10, 11]⟩,
    ⟨⟨(some 18), none, .bin .add (.t 10) (.t 17)⟩, 13, [0, 1, 2, 3, 4, 5, 6, 7, 8, 9, 10, 11, 12]⟩,
    ⟨⟨(some 2), none, .mv (.t 18)⟩, 14, [0, 1, 2, 3, 4, 5, 6, 7, 8, 9, 10, 11, 12, 13]⟩])
  (.ret)))⟩
theorem a76_ok : funcC Tryz.prog Tryz.f76 = some a76 := by kernel_rfl
/-- (*permafrost/second.Second).load -/
def a77 : AFunc := ⟨2, [.cell 4 (some 2), .tmp 5],
  .seq (.ops [⟨(some 4), none, .alloc none [(.int .i64 (0)), (.slice none 0 0)]⟩,
    ⟨(some 5), none, .mv (.c (.bool false))⟩])
  (.seq (.draw [⟨⟨(some 20), none, .mv (.t 0)⟩, 0, []⟩,
    ⟨⟨(some 21), none, .nilck (.t 20)⟩, 1, [0]⟩,
    ⟨⟨(some 22), none, .fieldAddr 0 (.t 21)⟩, 2, [0, 1]⟩,
    ⟨⟨(some 23), none, .load none (.t 22)⟩, 3, [0, 1, 2]⟩,
    ⟨⟨(some 24), none, .mv (.t 0)⟩, 4, []⟩,
    ⟨⟨(some 25), none, .mv (.t 1)⟩, 5, []⟩,
    ⟨⟨(some 26), none, .call (.c (.func (.func 94) [] [])) [(.t 24), (.t 25)]⟩, 6, [4, 5]⟩,
    ⟨⟨(some 27), none, .call (.c (.func (.func 66) [] [])) [(.t 23), (.t 26)]⟩, 7, [0, 1, 2, 3, 4, 5, 6]⟩,
    ⟨⟨(some 19), none, .mv (.t 27)⟩, 8, [0, 1, 2, 3, 4, 5, 6, 7]⟩,
    ⟨⟨(some 28), none, .extract 0 (.t 19)⟩, 9, [0, 1, 2, 3, 4, 5, 6, 7, 8]⟩,
    ⟨⟨(some 29), none, .extract 1 (.t 19)⟩, 10, [0, 1, 2, 3, 4, 5, 6, 7, 8]⟩,
    ⟨⟨(some 6), none, .mv (.t 28)⟩, 11, [0, 1, 2, 3, 4, 5, 6, 7, 8, 9]⟩,
    ⟨⟨(some 7), none, .mv (.t 29)⟩, 12, [0, 1, 2, 3, 4, 5, 6, 7, 8, 9, 10, 11]⟩])
  (.seq (.ops [⟨(some 31), none, .mv (.t 6)⟩,
    ⟨(some 32), none, .call (.c (.func (.func 98) [] [])) [(.t 31)]⟩,
    ⟨(some 30), none, .mv (.t 32)⟩,
    ⟨(some 33), none, .extract 0 (.t 30)⟩,
    ⟨(some 34), none, .extract 1 (.t 30)⟩,
    ⟨(some 8), none, .alloc none [(.int .i64 (0)), (.slice none 0 0)]⟩,
    ⟨none, none, .store 2 (.t 8) (.t 33)⟩,
    ⟨(some 9), none, .mv (.t 34)⟩])
  (.seq (.seq (.ops [⟨(some 35), none, .mv (.t 7)⟩,
    ⟨(some 36), none, .bin .neq (.t 35) (.c (.int .i64 (0)))⟩,
    ⟨(some 37), none, .mv (.t 36)⟩,
    ⟨(some 38), (some (37, false)), .mv (.t 9)⟩,
    ⟨(some 39), (some (37, false)), .bin .neq (.t 38) (.c (.int .i64 (0)))⟩,
    ⟨(some 40), none, .pick (.t 37) (.c (.bool true)) (.t 39)⟩])
  (.cond (.t 40)
   (.seq (.ops [⟨(some 41), none, .build [(.int .i64 (0)), (.slice none 0 0)] []⟩,
     ⟨none, none, .store 2 (.t 4) (.t 41)⟩,
     ⟨(some 5), none, .mv (.c (.bool false))⟩])
   (.ret))
   (.skip)))
  (.seq (.ops [⟨(some 42), none, .makeMap⟩,
    ⟨(some 10), none, .alloc none [(.map none)]⟩,
    ⟨none, none, .store 1 (.t 10) (.t 42)⟩])
  (.seq (.seq (.ops [⟨(some 43), none, .mv (.t 0)⟩,
    ⟨(some 44), none, .mv (.t 1)⟩,
    ⟨(some 45), none, .call (.c (.func (.func 73) [] [])) [(.t 43), (.t 44)]⟩])
  (.block 0 (.range 87 (.t 45) [46, 47]
    (.seq (.ops [⟨(some 11), none, .mv (.t 46)⟩])
    (.ops [⟨(some 12), none, .mv (.t 47)⟩]))
    (.block 1 (.ops [⟨(some 48), none, .load none (.t 10)⟩,
       ⟨(some 49), none, .mv (.t 12)⟩,
       ⟨(some 50), none, .mv (.t 11)⟩,
       ⟨none, none, .mapUpd .int (.t 48) (.t 49) (.t 50)⟩])))))
  (.seq (.seq (.ops [⟨(some 51), none, .fieldAddr 1 (.t 8)⟩,
    ⟨(some 52), none, .load none (.t 51)⟩,
    ⟨(some 53), none, .lenSl (.t 52)⟩,
    ⟨(some 54), none, .mv (.c (.int .i64 (0)))⟩])
  (.block 2 (.loop (.seq (.ops [⟨(some 55), none, .bin .lss (.t 54) (.t 53)⟩])
    (.seq (.cond (.t 55)
     (.skip)
     (.exit 2))
    (.seq (.block 3 (.seq (.ops [⟨(some 56), none, .idxSl 4 (.t 52) (.t 54)⟩,
       ⟨(some 57), none, .load (some 4) (.t 56)⟩,
       ⟨(some 14), none, .alloc none [(.str []), (.str []), (.int .i64 (0)), (.int .i64 (0))]⟩,
       ⟨none, none, .store 4 (.t 14) (.t 57)⟩])
     (.seq (.ops [⟨(some 59), none, .load none (.t 10)⟩,
       ⟨(some 60), none, .fieldAddr 3 (.t 14)⟩,
       ⟨(some 61), none, .load none (.t 60)⟩,
       ⟨(some 62), none, .lookup .int (.int .i64 (0)) true (.t 59) (.t 61)⟩,
       ⟨(some 58), none, .mv (.t 62)⟩,
       ⟨(some 63), none, .extract 0 (.t 58)⟩,
       ⟨(some 64), none, .extract 1 (.t 58)⟩,
       ⟨(some 15), none, .mv (.t 63)⟩,
       ⟨(some 16), none, .mv (.t 64)⟩])
     (.seq (.ops [⟨(some 65), none, .mv (.t 16)⟩,
       ⟨(some 66), none, .not (.t 65)⟩])
     (.cond (.t 66)
      (.seq (.ops [⟨(some 67), none, .build [(.int .i64 (0)), (.slice none 0 0)] []⟩,
        ⟨none, none, .store 2 (.t 4) (.t 67)⟩,
        ⟨(some 5), none, .mv (.c (.bool false))⟩])
      (.ret))
      (.skip))))))
    (.ops [⟨(some 68), none, .bin .add (.t 54) (.c (.int .i64 (1)))⟩,
      ⟨(some 54), none, .mv (.t 68)⟩])))))))
  (.seq (.seq (.ops [⟨(some 69), none, .fieldAddr 1 (.t 8)⟩,
    ⟨(some 70), none, .load none (.t 69)⟩,
    ⟨(some 71), none, .lenSl (.t 70)⟩,
    ⟨(some 72), none, .mv (.c (.int .i64 (0)))⟩])
  (.block 4 (.loop (.seq (.ops [⟨(some 73), none, .bin .lss (.t 72) (.t 71)⟩])
    (.seq (.cond (.t 73)
     (.skip)
     (.exit 4))
    (.seq (.block 5 (.seq (.ops [⟨(some 74), none, .idxSl 4 (.t 70) (.t 72)⟩,
       ⟨(some 75), none, .load (some 4) (.t 74)⟩,
       ⟨(some 18), none, .alloc none [(.str []), (.str []), (.int .i64 (0)), (.int .i64 (0))]⟩,
       ⟨none, none, .store 4 (.t 18) (.t 75)⟩])
     (.draw [⟨⟨(some 76), none, .mv (.t 0)⟩, 0, []⟩,
       ⟨⟨(some 77), none, .nilck (.t 76)⟩, 1, [0]⟩,
       ⟨⟨(some 78), none, .fieldAddr 3 (.t 77)⟩, 2, [0, 1]⟩,
       ⟨⟨(some 79), none, .load none (.t 78)⟩, 3, [0, 1, 2]⟩,
       ⟨⟨(some 80), none, .load none (.t 10)⟩, 4, []⟩,
       ⟨⟨(some 81), none, .fieldAddr 3 (.t 18)⟩, 5, []⟩,
       ⟨⟨(some 82), none, .load none (.t 81)⟩, 6, [5]⟩,
       ⟨⟨(some 83), none, .lookup .int (.int .i64 (0)) false (.t 80) (.t 82)⟩, 7, [4, 5, 6]⟩,
       ⟨⟨(some 84), none, .load (some 4) (.t 18)⟩, 8, []⟩,
       ⟨⟨none, none, .mapUpd .int (.t 79) (.t 83) (.t 84)⟩, 9, [0, 1, 2, 3, 4, 5, 6, 7, 8]⟩])))
    (.ops [⟨(some 85), none, .bin .add (.t 72) (.c (.int .i64 (1)))⟩,
      ⟨(some 72), none, .mv (.t 85)⟩])))))))
  (.seq (.ops [⟨(some 86), none, .load (some 2) (.t 8)⟩,
    ⟨none, none, .store 2 (.t 4) (.t 86)⟩,
    ⟨(some 5), none, .mv (.c (.bool true))⟩])
  (.ret)))))))))⟩
theorem a77_ok : funcC Tryz.prog Tryz.f77 = some a77 := by kernel_rfl
/-- permafrost/permafrostref01.Most -/
def a78 : AFunc := ⟨1, [.tmp 2],
  .seq (.ops [⟨(some 2), none, .mv (.c (.int .i64 (0)))⟩])
  (.seq (.seq (.ops [⟨(some 5), none, .mv (.t 0)⟩,
    ⟨(some 6), none, .bin .lss (.t 5) (.c (.int .i64 (1)))⟩,
    ⟨(some 7), none, .mv (.t 6)⟩,
    ⟨(some 8), (some (7, false)), .mv (.t 0)⟩,
    ⟨(some 9), (some (7, false)), .bin .gtr (.t 8) (.c (.int .i64 (7)))⟩,
    ⟨(some 10), none, .pick (.t 7) (.c (.bool true)) (.t 9)⟩])
  (.cond (.t 10)
   (.seq (.ops [⟨(some 2), none, .mv (.c (.int .i64 (-1)))⟩])
   (.ret))
   (.skip)))
  (.seq (.ops [⟨(some 3), none, .mv (.c (.int .i64 (1)))⟩])
  (.seq (.seq (.ops [⟨(some 4), none, .mv (.c (.int .i64 (0)))⟩])
  (.block 0 (.loop (.seq (.seq (.ops [⟨(some 11), none, .mv (.t 4)⟩,
      ⟨(some 12), none, .mv (.t 0)⟩,
      ⟨(some 13), none, .bin .lss (.t 11) (.t 12)⟩])
    (.cond (.t 13)
     (.skip)
     (.exit 0)))
    (.seq (.block 1 (.ops [⟨(some 16), none, .mv (.t 3)⟩,
       ⟨(some 17), none, .bin .mul (.t 16) (.c (.int .i64 (256)))⟩,
       ⟨(some 3), none, .mv (.t 17)⟩]))
    (.ops [⟨(some 14), none, .mv (.t 4)⟩,
      ⟨(some 15), none, .bin .add (.t 14) (.c (.int .i64 (1)))⟩,
      ⟨(some 4), none, .mv (.t 15)⟩]))))))
  (.seq (.ops [⟨(some 18), none, .mv (.t 3)⟩,
    ⟨(some 19), none, .bin .sub (.t 18) (.c (.int .i64 (1)))⟩,
    ⟨(some 2), none, .mv (.t 19)⟩])
  (.ret)))))⟩
theorem a78_ok : funcC Tryz.prog Tryz.f78 = some a78 := by kernel_rfl
/-- slices.Clone[[]permafrost/space.Run,permafrost/space.Run] -/
def a79 : AFunc := ⟨1, [.tmp 2],
  .seq (.ops [⟨(some 2), none, .mv (.c (.slice none 0 0))⟩])
  (.seq (.seq (.ops [⟨(some 3), none, .mv (.t 0)⟩,
    ⟨(some 4), none, .eq false (.flat .slice) (.t 3) (.c (.slice none 0 0))⟩])
  (.cond (.t 4)
   (.seq (.ops [⟨(some 2), none, .mv (.c (.slice none 0 0))⟩])
   (.ret))
   (.skip)))
  (.seq (.ops [⟨(some 5), none, .buildSl [] 0 []⟩,
    ⟨(some 6), none, .mv (.t 0)⟩,
    ⟨(some 7), none, .append 2 16 none (.t 5) (.t 6)⟩,
    ⟨(some 2), none, .mv (.t 7)⟩])
  (.ret)))⟩
theorem a79_ok : funcC Tryz.prog Tryz.f79 = some a79 := by kernel_rfl
/-- permafrost/sum.New -/
def a80 : AFunc := ⟨0, [.tmp 0],
  .seq (.ops [⟨(some 0), none, .mv (.c (.ptr none))⟩])
  (.seq (.ops [⟨(some 1), none, .call (.c (.func (.func 99) [] [])) []⟩,
    ⟨(some 2), none, .build [(.int .u32 (0)), (.int .u32 (0)), (.int .u32 (0)), (.int .u32 (0)), (.int .u32 (0)), (.int .u32 (0)), (.int .u32 (0)), (.int .u32 (0)), (.str []), (.int .i64 (0))] [(0, 8, (.t 1))]⟩,
    ⟨(some 3), none, .box (.t 2)⟩,
    ⟨(some 0), none, .mv (.t 3)⟩])
  (.ret))⟩
theorem a80_ok : funcC Tryz.prog Tryz.f80 = some a80 := by kernel_rfl
/-- (*permafrost/sum.Writer).Write -/
def a81 : AFunc := ⟨2, [],
  .seq (.seq (.ops [⟨(some 4), none, .mv (.t 0)⟩,
    ⟨(some 5), none, .eq false (.flat .ptr) (.t 4) (.c (.ptr none))⟩])
  (.cond (.t 5)
   (.ret)
   (.skip)))
  (.seq (.ops [⟨(some 6), none, .mv (.t 0)⟩,
    ⟨(some 7), none, .nilck (.t 6)⟩,
    ⟨(some 8), none, .fieldAddr 9 (.t 7)⟩,
    ⟨(some 9), none, .load none (.t 8)⟩,
    ⟨(some 10), none, .mv (.t 1)⟩,
    ⟨(some 11), none, .lenStr (.t 10)⟩,
    ⟨(some 12), none, .bin .add (.t 9) (.t 11)⟩,
    ⟨(some 13), none, .nilck (.t 6)⟩,
    ⟨(some 14), none, .fieldAddr 9 (.t 13)⟩,
    ⟨none, none, .store 1 (.t 14) (.t 12)⟩])
  (.seq (.ops [⟨(some 15), none, .mv (.t 0)⟩,
    ⟨(some 16), none, .nilck (.t 15)⟩,
    ⟨(some 17), none, .fieldAddr 8 (.t 16)⟩,
    ⟨(some 18), none, .load none (.t 17)⟩,
    ⟨(some 19), none, .mv (.t 1)⟩,
    ⟨(some 20), none, .bin .add (.t 18) (.t 19)⟩,
    ⟨(some 1), none, .mv (.t 20)⟩])
  (.seq (.block 0 (.loop (.seq (.seq (.ops [⟨(some 21), none, .mv (.t 1)⟩,
      ⟨(some 22), none, .lenStr (.t 21)⟩,
      ⟨(some 23), none, .bin .geq (.t 22) (.c (.int .i64 (64)))⟩])
    (.cond (.t 23)
     (.skip)
     (.exit 0)))
    (.block 1 (.draw [⟨⟨(some 24), none, .mv (.t 0)⟩, 0, []⟩,
       ⟨⟨(some 25), none, .mv (.t 0)⟩, 1, []⟩,
       ⟨⟨(some 26), none, .nilck (.t 25)⟩, 2, [1]⟩,
       ⟨⟨(some 27), none, .fieldAddr 0 (.t 26)⟩, 3, [1, 2]⟩,
       ⟨⟨(some 28), none, .load (some 8) (.t 27)⟩, 4, [1, 2, 3]⟩,
       ⟨⟨(some 29), none, .mv (.t 1)⟩, 5, []⟩,
       ⟨⟨(some 30), none, .sliceStr (.t 29) none (some (.c (.int .i64 (64))))⟩, 6, [5]⟩,
       ⟨⟨(some 32), none, .mv (.t 1)⟩, 8, []⟩,
       ⟨⟨(some 33), none, .sliceStr (.t 32) (some (.c (.int .i64 (64)))) none⟩, 9, [7]⟩,
       ⟨⟨(some 31), none, .call (.c (.func (.func 100) [] [])) [(.t 28), (.t 30)]⟩, 7, [1, 2, 3, 4, 5, 6]⟩,
       ⟨⟨(some 34), none, .nilck (.t 24)⟩, 10, [0, 1, 2, 3, 4, 5, 6, 9]⟩,
       ⟨⟨(some 35), none, .fieldAddr 0 (.t 34)⟩, 11, [0, 1, 2, 3, 4, 5, 6, 9, 10]⟩,
       ⟨⟨none, none, .store 8 (.t 35) (.t 31)⟩, 12, [0, 1, 2, 3, 4, 5, 6, 9, 10, 11]⟩,
       ⟨⟨(some 1), none, .mv (.t 33)⟩, 13, [0, 1, 2, 3, 4, 5, 6, 7, 8, 9, 10, 11, 12]⟩])))))
  (.ops [⟨(some 36), none, .mv (.t 0)⟩,
    ⟨(some 37), none, .mv (.t 1)⟩,
    ⟨(some 38), none, .nilck (.t 36)⟩,
    ⟨(some 39), none, .fieldAddr 8 (.t 38)⟩,
    ⟨none, none, .store 1 (.t 39) (.t 37)⟩]))))⟩
theorem a81_ok : funcC Tryz.prog Tryz.f81 = some a81 := by kernel_rfl
/-- (*permafrost/sum.Writer).Sum -/
def a82 : AFunc := ⟨1, [.tmp 2],
  .seq (.ops [⟨(some 2), none, .mv (.c (.str []))⟩])
  (.seq (.seq (.ops [⟨(some 9), none, .mv (.t 0)⟩,
    ⟨(some 10), none, .eq false (.flat .ptr) (.t 9) (.c (.ptr none))⟩])
  (.cond (.t 10)
   (.ops [⟨(some 11), none, .call (.c (.func (.func 80) [] [])) []⟩,
     ⟨(some 0), none, .mv (.t 11)⟩])
   (.skip)))
  (.seq (.ops [⟨(some 12), none, .mv (.t 0)⟩,
    ⟨(some 13), none, .nilck (.t 12)⟩,
    ⟨(some 14), none, .fieldAddr 8 (.t 13)⟩,
    ⟨(some 15), none, .load none (.t 14)⟩,
    ⟨(some 16), none, .lenStr (.t 15)⟩,
    ⟨(some 17), none, .bin .sub (.c (.int .i64 (119))) (.t 16)⟩,
    ⟨(some 18), none, .bin .rem (.t 17) (.c (.int .i64 (64)))⟩,
    ⟨(some 19), none, .call (.c (.func (.func 101) [] [])) [(.c (.str [0])), (.t 18)]⟩,
    ⟨(some 20), none, .bin .add (.c (.str [128])) (.t 19)⟩,
    ⟨(some 3), none, .mv (.t 20)⟩])
  (.seq (.seq (.ops [⟨(some 4), none, .mv (.c (.int .i64 (56)))⟩])
  (.block 0 (.loop (.seq (.seq (.ops [⟨(some 21), none, .mv (.t 4)⟩,
      ⟨(some 22), none, .bin .geq (.t 21) (.c (.int .i64 (0)))⟩])
    (.cond (.t 22)
     (.skip)
     (.exit 0)))
    (.seq (.block 1 (.ops [⟨(some 25), none, .mv (.t 3)⟩,
       ⟨(some 26), none, .mv (.t 0)⟩,
       ⟨(some 27), none, .nilck (.t 26)⟩,
       ⟨(some 28), none, .fieldAddr 9 (.t 27)⟩,
       ⟨(some 29), none, .load none (.t 28)⟩,
       ⟨(some 30), none, .bin .mul (.c (.int .i64 (8))) (.t 29)⟩,
       ⟨(some 31), none, .mv (.t 4)⟩,
       ⟨(some 32), none, .bin .shr (.t 30) (.t 31)⟩,
       ⟨(some 33), none, .toInt .u8 (.t 32)⟩,
       ⟨(some 34), none, .buildSl [(.int .u8 (0))] 1 [(0, 1, (.t 33))]⟩,
       ⟨(some 35), none, .toStr (.t 34)⟩,
       ⟨(some 36), none, .bin .add (.t 25) (.t 35)⟩,
       ⟨(some 3), none, .mv (.t 36)⟩]))
    (.ops [⟨(some 23), none, .mv (.t 4)⟩,
      ⟨(some 24), none, .bin .sub (.t 23) (.c (.int .i64 (8)))⟩,
      ⟨(some 4), none, .mv (.t 24)⟩]))))))
  (.seq (.ops [⟨(some 37), none, .mv (.t 0)⟩,
    ⟨(some 38), none, .nilck (.t 37)⟩,
    ⟨(some 39), none, .load (some 10) (.t 38)⟩,
    ⟨(some 5), none, .alloc none [(.int .u32 (0)), (.int .u32 (0)), (.int .u32 (0)), (.int .u32 (0)), (.int .u32 (0)), (.int .u32 (0)), (.int .u32 (0)), (.int .u32 (0)), (.str []), (.int .i64 (0))]⟩,
    ⟨none, none, .store 10 (.t 5) (.t 39)⟩])
  (.seq (.ops [⟨(some 40), none, .mv (.t 3)⟩,
    ⟨(some 41), none, .call (.c (.func (.func 81) [] [])) [(.t 5), (.t 40)]⟩])
  (.seq (.ops [⟨(some 6), none, .alloc (some 110) [(.ptr none), (.slice none 0 0)]⟩])
  (.seq (.seq (.ops [⟨(some 42), none, .fieldAddr 0 (.t 5)⟩,
    ⟨(some 43), none, .load (some 8) (.t 42)⟩,
    ⟨(some 44), none, .mv (.c (.int .i64 (0)))⟩])
  (.block 2 (.loop (.seq (.ops [⟨(some 45), none, .bin .lss (.t 44) (.c (.int .i64 (8)))⟩])
    (.seq (.cond (.t 45)
     (.skip)
     (.exit 2))
    (.seq (.block 3 (.seq (.ops [⟨(some 46), none, .atArr 8 1 none (.t 43) (.t 44)⟩,
       ⟨(some 8), none, .mv (.t 46)⟩])
     (.ops [⟨(some 47), none, .mv (.t 8)⟩,
       ⟨(some 48), none, .bin .shr (.t 47) (.c (.int .u64 (24)))⟩,
       ⟨(some 49), none, .toInt .u8 (.t 48)⟩,
       ⟨(some 50), none, .mv (.t 8)⟩,
       ⟨(some 51), none, .bin .shr (.t 50) (.c (.int .u64 (16)))⟩,
       ⟨(some 52), none, .toInt .u8 (.t 51)⟩,
       ⟨(some 53), none, .mv (.t 8)⟩,
       ⟨(some 54), none, .bin .shr (.t 53) (.c (.int .u64 (8)))⟩,
       ⟨(some 55), none, .toInt .u8 (.t 54)⟩,
       ⟨(some 56), none, .mv (.t 8)⟩,
       ⟨(some 57), none, .toInt .u8 (.t 56)⟩,
       ⟨(some 58), none, .buildSl [(.int .u8 (0)), (.int .u8 (0)), (.int .u8 (0)), (.int .u8 (0))] 4 [(0, 1, (.t 49)), (1, 1, (.t 52)), (2, 1, (.t 55)), (3, 1, (.t 57))]⟩,
       ⟨(some 59), none, .call (.c (.func (.func 102) [] [])) [(.t 6), (.t 58)]⟩])))
    (.ops [⟨(some 60), none, .bin .add (.t 44) (.c (.int .i64 (1)))⟩,
      ⟨(some 44), none, .mv (.t 60)⟩])))))))
  (.seq (.ops [⟨(some 61), none, .call (.c (.func (.func 61) [] [])) [(.t 6)]⟩,
    ⟨(some 2), none, .mv (.t 61)⟩])
  (.ret)))))))))⟩
theorem a82_ok : funcC Tryz.prog Tryz.f82 = some a82 := by kernel_rfl
/-- (*permafrost/dev.Devs).may -/
def a83 : AFunc := ⟨3, [.tmp 6],
  .seq (.ops [⟨(some 4), none, .box (.t 1)⟩,
    ⟨(some 6), none, .mv (.c (.int .i64 (0)))⟩])
  (.seq (.block 0 (.seq (.draw [⟨⟨(some 8), none, .mv (.t 0)⟩, 0, []⟩,
     ⟨⟨(some 9), none, .fieldAddr 0 (.t 4)⟩, 1, []⟩,
     ⟨⟨(some 10), none, .load none (.t 9)⟩, 2, [1]⟩,
     ⟨⟨(some 11), none, .call (.c (.func (.func 42) [] [])) [(.t 8), (.t 10)]⟩, 3, [0, 1, 2]⟩,
     ⟨⟨(some 12), none, .not (.t 11)⟩, 4, [0, 1, 2, 3]⟩,
     ⟨⟨(some 13), none, .mv (.t 12)⟩, 5, [0, 1, 2, 3, 4]⟩,
     ⟨⟨(some 14), (some (13, false)), .fieldAddr 1 (.t 4)⟩, 6, [0, 1, 2, 3, 4, 5]⟩,
     ⟨⟨(some 15), (some (13, false)), .load none (.t 14)⟩, 7, [0, 1, 2, 3, 4, 5, 6]⟩,
     ⟨⟨(some 16), (some (13, false)), .bin .lss (.t 15) (.c (.int .i64 (0)))⟩, 8, [0, 1, 2, 3, 4, 5, 6, 7]⟩,
     ⟨⟨(some 17), none, .pick (.t 13) (.c (.bool true)) (.t 16)⟩, 9, [0, 1, 2, 3, 4, 5, 6, 7, 8]⟩,
     ⟨⟨(some 18), none, .mv (.t 17)⟩, 10, [0, 1, 2, 3, 4, 5, 6, 7, 8, 9]⟩,
     ⟨⟨(some 19), (some (18, false)), .fieldAddr 1 (.t 4)⟩, 11, [0, 1, 2, 3, 4, 5, 6, 7, 8, 9, 10]⟩,
     ⟨⟨(some 20), (some (18, false)), .load none (.t 19)⟩, 12, [0, 1, 2, 3, 4, 5, 6, 7, 8, 9, 10, 11]⟩,
     ⟨⟨(some 21), (some (18, false)), .mv (.t 0)⟩, 13, [0, 1, 2, 3, 4, 5, 6, 7, 8, 9, 10]⟩,
     ⟨⟨(some 22), (some (18, false)), .fieldAddr 0 (.t 4)⟩, 14, [0, 1, 2, 3, 4, 5, 6, 7, 8, 9, 10]⟩,
     ⟨⟨(some 23), (some (18, false)), .load none (.t 22)⟩, 15, [0, 1, 2, 3, 4, 5, 6, 7, 8, 9, 10, 14]⟩,
     ⟨⟨(some 24), (some (18, false)), .nilck (.t 21)⟩, 16, [0, 1, 2, 3, 4, 5, 6, 7, 8, 9, 10, 13]⟩,
     ⟨⟨(some 25), (some (18, false)), .fieldAddr 0 (.t 24)⟩, 17, [0, 1, 2, 3, 4, 5, 6, 7, 8, 9, 10, 13, 16]⟩,
     ⟨⟨(some 26), (some (18, false)), .idxArr 2 1 (.t 25) (.t 23)⟩, 18, [0, 1, 2, 3, 4, 5, 6, 7, 8, 9, 10, 13, 14, 15, 16, 17]⟩,
     ⟨⟨(some 27), (some (18, false)), .load none (.t 26)⟩, 19, [0, 1, 2, 3, 4, 5, 6, 7, 8, 9, 10, 13, 14, 15, 16, 17, 18]⟩,
     ⟨⟨(some 28), (some (18, false)), .lenSl (.t 27)⟩, 20, [0, 1, 2, 3, 4, 5, 6, 7, 8, 9, 10, 13, 14, 15, 16, 17, 18, 19]⟩,
     ⟨⟨(some 29), (some (18, false)), .bin .geq (.t 20) (.t 28)⟩, 21, [0, 1, 2, 3, 4, 5, 6, 7, 8, 9, 10, 11, 12, 13, 14, 15, 16, 17, 18, 19, 20]⟩,
     ⟨⟨(some 30), none, .pick (.t 18) (.c (.bool true)) (.t 29)⟩, 22, [0, 1, 2, 3, 4, 5, 6, 7, 8, 9, 10, 11, 12, 13, 14, 15, 16, 17, 18, 19, 20, 21]⟩,
     ⟨⟨(some 31), none, .mv (.t 30)⟩, 23, [0, 1, 2, 3, 4, 5, 6, 7, 8, 9, 10, 11, 12, 13, 14, 15, 16, 17, 18, 19, 20, 21, 22]⟩,
     ⟨⟨(some 32), (some (31, false)), .mv (.t 2)⟩, 24, [0, 1, 2, 3, 4, 5, 6, 7, 8, 9, 10, 11, 12, 13, 14, 15, 16, 17, 18, 19, 20, 21, 22, 23]⟩,
     ⟨⟨(some 33), (some (31, false)), .lenStr (.t 32)⟩, 25, [0, 1, 2, 3, 4, 5, 6, 7, 8, 9, 10, 11, 12, 13, 14, 15, 16, 17, 18, 19, 20, 21, 22, 23, 24]⟩,
     ⟨⟨(some 34), (some (31, false)), .bin .gtr (.t 33) (.c (.int .i64 (1024)))⟩, 26, [0, 1, 2, 3, 4, 5, 6, 7, 8, 9, 10, 11, 12, 13, 14, 15, 16, 17, 18, 19, 20, 21, 22, 23, 24, 25]⟩,
     ⟨⟨(some 35), none, .pick (.t 31) (.c (.bool true)) (.t 34)⟩, 27, [0, 1, 2, 3, 4, 5, 6, 7, 8, 9, 10, 11, 12, 13, 14, 15, 16, 17, 18, 19, 20, 21, 22, 23, 24, 25, 26]⟩,
     ⟨⟨(some 7), none, .mv (.t 35)⟩, 28, [0, 1, 2, 3, 4, 5, 6, 7, 8, 9, 10, 11, 12, 13, 14, 15, 16, 17, 18, 19, 20, 21, 22, 23, 24, 25, 26, 27]⟩])
   (.cond (.t 7)
    (.seq (.ops [⟨(some 6), none, .mv (.c (.int .i64 (1)))⟩])
    (.ret))
    (.seq (.draw [⟨⟨(some 37), none, .mv (.t 0)⟩, 0, []⟩,
      ⟨⟨(some 38), none, .fieldAddr 0 (.t 4)⟩, 1, []⟩,
      ⟨⟨(some 39), none, .load none (.t 38)⟩, 2, [1]⟩,
      ⟨⟨(some 40), none, .nilck (.t 37)⟩, 3, [0]⟩,
      ⟨⟨(some 41), none, .fieldAddr 2 (.t 40)⟩, 4, [0, 3]⟩,
      ⟨⟨(some 42), none, .idxArr 2 1 (.t 41) (.t 39)⟩, 5, [0, 1, 2, 3, 4]⟩,
      ⟨⟨(some 43), none, .load none (.t 42)⟩, 6, [0, 1, 2, 3, 4, 5]⟩,
      ⟨⟨(some 36), none, .mv (.t 43)⟩, 7, [0, 1, 2, 3, 4, 5, 6]⟩])
    (.cond (.t 36)
     (.seq (.ops [⟨(some 6), none, .mv (.c (.int .i64 (5)))⟩])
     (.ret))
     (.skip))))))
  (.seq (.ops [⟨(some 6), none, .mv (.c (.int .i64 (0)))⟩])
  (.ret)))⟩
theorem a83_ok : funcC Tryz.prog Tryz.f83 = some a83 := by kernel_rfl
/-- (*strings.Builder).copyCheck -/
def a84 : AFunc := ⟨1, [],
  .seq (.ops [⟨(some 2), none, .mv (.t 0)⟩,
    ⟨(some 3), none, .nilck (.t 2)⟩,
    ⟨(some 4), none, .fieldAddr 0 (.t 3)⟩,
    ⟨(some 5), none, .load none (.t 4)⟩,
    ⟨(some 6), none, .eq false (.flat .ptr) (.t 5) (.c (.ptr none))⟩])
  (.cond (.t 6)
   (.ops [⟨(some 7), none, .mv (.t 0)⟩,
     ⟨(some 8), none, .mv (.t 0)⟩,
     ⟨(some 9), none, .unsP (.t 8)⟩,
     ⟨(some 10), none, .call (.c (.func (.func 103) [] [])) [(.t 9)]⟩,
     ⟨(some 11), none, .ofUns 110 2 (.t 10)⟩,
     ⟨(some 12), none, .nilck (.t 7)⟩,
     ⟨(some 13), none, .fieldAddr 0 (.t 12)⟩,
     ⟨none, none, .store 1 (.t 13) (.t 11)⟩])
   (.seq (.ops [⟨(some 14), none, .mv (.t 0)⟩,
     ⟨(some 15), none, .nilck (.t 14)⟩,
     ⟨(some 16), none, .fieldAddr 0 (.t 15)⟩,
     ⟨(some 17), none, .load none (.t 16)⟩,
     ⟨(some 18), none, .mv (.t 0)⟩,
     ⟨(some 19), none, .eq true (.flat .ptr) (.t 17) (.t 18)⟩])
   (.cond (.t 19)
    (.bad)
    (.skip))))⟩
theorem a84_ok : funcC Tryz.prog Tryz.f84 = some a84 := by kernel_rfl
/-- slices.Backward[[]permafrost/dev.write,permafrost/dev.write] -/
def a87 : AFunc := ⟨1, [.tmp 2],
  .seq (.ops [⟨(some 1), none, .box (.t 0)⟩,
    ⟨(some 2), none, .mv (.c .nilFunc)⟩])
  (.seq (.ops [⟨(some 3), none, .mkFn (.func 107) [] [(.t 1)]⟩,
    ⟨(some 2), none, .mv (.t 3)⟩])
  (.ret))⟩
theorem a87_ok : funcC Tryz.prog Tryz.f87 = some a87 := by kernel_rfl
/-- permafrost/blk.copies$1 -/
def a88 : AFunc := ⟨3, [],
  .seq (.ops [⟨(some 8), none, .fieldAddr 0 (.t 1)⟩,
    ⟨(some 9), none, .load none (.t 8)⟩,
    ⟨(some 10), none, .lenSl (.t 9)⟩,
    ⟨(some 11), none, .mv (.c (.int .i64 (0)))⟩])
  (.block 0 (.loop (.seq (.ops [⟨(some 12), none, .bin .lss (.t 11) (.t 10)⟩])
    (.seq (.cond (.t 12)
     (.skip)
     (.exit 0))
    (.seq (.block 1 (.seq (.ops [⟨(some 13), none, .idxSl 2 (.t 9) (.t 11)⟩,
       ⟨(some 14), none, .load (some 2) (.t 13)⟩,
       ⟨(some 5), none, .alloc none [(.int .i64 (0)), (.int .i64 (0))]⟩,
       ⟨none, none, .store 2 (.t 5) (.t 14)⟩])
     (.seq (.ops [⟨(some 16), none, .load none (.t 2)⟩,
       ⟨(some 17), none, .load (some 2) (.t 5)⟩,
       ⟨(some 18), none, .call (.c (.func (.func 66) [] [])) [(.t 16), (.t 17)]⟩,
       ⟨(some 15), none, .mv (.t 18)⟩,
       ⟨(some 19), none, .extract 0 (.t 15)⟩,
       ⟨(some 20), none, .extract 1 (.t 15)⟩,
       ⟨(some 6), none, .mv (.t 19)⟩,
       ⟨(some 7), none, .mv (.t 20)⟩])
     (.seq (.draw [⟨⟨(some 21), none, .mv (.t 0)⟩, 0, []⟩,
       ⟨⟨(some 22), none, .mv (.t 6)⟩, 1, []⟩,
       ⟨⟨(some 23), none, .mv (.t 7)⟩, 2, []⟩,
       ⟨⟨(some 24), none, .bin .eql (.t 23) (.c (.int .i64 (0)))⟩, 3, [2]⟩,
       ⟨⟨(some 25), none, .mv (.t 24)⟩, 4, [2, 3]⟩,
       ⟨⟨(some 26), (some (25, true)), .mv (.t 6)⟩, 5, [2, 3, 4]⟩,
       ⟨⟨(some 27), (some (25, true)), .lenStr (.t 26)⟩, 6, [2, 3, 4, 5]⟩,
       ⟨⟨(some 28), (some (25, true)), .fieldAddr 1 (.t 1)⟩, 7, [2, 3, 4]⟩,
       ⟨⟨(some 29), (some (25, true)), .load none (.t 28)⟩, 8, [2, 3, 4, 7]⟩,
       ⟨⟨(some 30), (some (25, true)), .bin .eql (.t 27) (.t 29)⟩, 9, [2, 3, 4, 5, 6, 7, 8]⟩,
       ⟨⟨(some 31), none, .pick (.t 25) (.t 30) (.c (.bool false))⟩, 10, [2, 3, 4, 5, 6, 7, 8, 9]⟩,
       ⟨⟨(some 32), none, .mv (.t 31)⟩, 11, [2, 3, 4, 5, 6, 7, 8, 9, 10]⟩,
       ⟨⟨(some 33), (some (32, true)), .mv (.t 6)⟩, 12, [2, 3, 4, 5, 6, 7, 8, 9, 10, 11]⟩,
       ⟨⟨(some 35), (some (32, true)), .fieldAddr 3 (.t 1)⟩, 14, [2, 3, 4, 5, 6, 7, 8, 9, 10, 11]⟩,
       ⟨⟨(some 36), (some (32, true)), .load none (.t 35)⟩, 15, [2, 3, 4, 5, 6, 7, 8, 9, 10, 11, 13]⟩,
       ⟨⟨(some 34), (some (32, true)), .call (.c (.func (.func 57) [] [])) [(.t 33)]⟩, 13, [2, 3, 4, 5, 6, 7, 8, 9, 10, 11, 12]⟩,
       ⟨⟨(some 37), (some (32, true)), .bin .eql (.t 34) (.t 36)⟩, 16, [2, 3, 4, 5, 6, 7, 8, 9, 10, 11, 12, 13, 14, 15]⟩,
       ⟨⟨(some 38), none, .pick (.t 32) (.t 37) (.c (.bool false))⟩, 17, [2, 3, 4, 5, 6, 7, 8, 9, 10, 11, 12, 13, 14, 15, 16]⟩,
       ⟨⟨(some 39), none, .call (.t 21) [(.t 22), (.t 38)]⟩, 18, [0, 1, 2, 3, 4, 5, 6, 7, 8, 9, 10, 11, 12, 13, 14, 15, 16, 17]⟩,
       ⟨⟨(some 40), none, .not (.t 39)⟩, 19, [0, 1, 2, 3, 4, 5, 6, 7, 8, 9, 10, 11, 12, 13, 14, 15, 16, 17, 18]⟩])
     (.cond (.t 40)
      (.ret)
      (.skip))))))
    (.ops [⟨(some 41), none, .bin .add (.t 11) (.c (.int .i64 (1)))⟩,
      ⟨(some 11), none, .mv (.t 41)⟩]))))))⟩
theorem a88_ok : funcC Tryz.prog Tryz.f88 = some a88 := by kernel_rfl
/-- (*permafrost/arc.Arc).Has -/
def a89 : AFunc := ⟨2, [.tmp 4],
  .seq (.ops [⟨(some 4), none, .mv (.c (.bool false))⟩])
  (.seq (.draw [⟨⟨(some 5), none, .mv (.t 0)⟩, 0, []⟩,
    ⟨⟨(some 6), none, .eq true (.flat .ptr) (.t 5) (.c (.ptr none))⟩, 1, [0]⟩,
    ⟨⟨(some 7), none, .mv (.t 6)⟩, 2, [0, 1]⟩,
    ⟨⟨(some 8), (some (7, true)), .mv (.t 1)⟩, 3, [0, 1, 2]⟩,
    ⟨⟨(some 9), (some (7, true)), .mv (.t 0)⟩, 4, [0, 1, 2]⟩,
    ⟨⟨(some 10), (some (7, true)), .nilck (.t 9)⟩, 5, [0, 1, 2, 4]⟩,
    ⟨⟨(some 11), (some (7, true)), .fieldAddr 0 (.t 10)⟩, 6, [0, 1, 2, 4, 5]⟩,
    ⟨⟨(some 12), (some (7, true)), .mv (.t 0)⟩, 7, [0, 1, 2]⟩,
    ⟨⟨(some 13), (some (7, true)), .nilck (.t 12)⟩, 8, [0, 1, 2, 7]⟩,
    ⟨⟨(some 14), (some (7, true)), .fieldAddr 1 (.t 13)⟩, 9, [0, 1, 2, 7, 8]⟩,
    ⟨⟨(some 15), (some (7, true)), .buildSl [(.ptr none), (.ptr none)] 2 [(0, 1, (.t 11)), (1, 1, (.t 14))]⟩, 10, [0, 1, 2, 4, 5, 6, 7, 8, 9]⟩,
    ⟨⟨(some 16), (some (7, true)), .call (.c (.func (.func 90) [] [])) [(.c (.func (.func 108) [] [])), (.t 8), (.t 15)]⟩, 11, [0, 1, 2, 3, 4, 5, 6, 7, 8, 9, 10]⟩,
    ⟨⟨(some 17), none, .pick (.t 7) (.t 16) (.c (.bool false))⟩, 12, [0, 1, 2, 3, 4, 5, 6, 7, 8, 9, 10, 11]⟩,
    ⟨⟨(some 4), none, .mv (.t 17)⟩, 13, [0, 1, 2, 3, 4, 5, 6, 7, 8, 9, 10, 11, 12]⟩])
  (.ret))⟩
theorem a89_ok : funcC Tryz.prog Tryz.f89 = some a89 := by kernel_rfl
/-- permafrost/arc.any -/
def a90 : AFunc := ⟨3, [.tmp 6],
  .seq (.ops [⟨(some 3), none, .box (.t 0)⟩,
    ⟨(some 4), none, .box (.t 1)⟩,
    ⟨(some 6), none, .mv (.c (.bool false))⟩])
  (.seq (.ops [⟨(some 7), none, .mv (.t 2)⟩,
    ⟨(some 8), none, .mkFn (.func 110) [] [(.t 3), (.t 4)]⟩,
    ⟨(some 9), none, .call (.c (.func (.func 109) [] [])) [(.t 7), (.t 8)]⟩,
    ⟨(some 6), none, .mv (.t 9)⟩])
  (.ret))⟩
theorem a90_ok : funcC Tryz.prog Tryz.f90 = some a90 := by kernel_rfl
/-- (*permafrost/arc.list).take -/
def a91 : AFunc := ⟨2, [.tmp 4],
  .seq (.ops [⟨(some 4), none, .mv (.c (.bool false))⟩])
  (.seq (.ops [⟨(some 6), none, .mv (.t 0)⟩,
    ⟨(some 7), none, .nilck (.t 6)⟩,
    ⟨(some 8), none, .fieldAddr 0 (.t 7)⟩,
    ⟨(some 9), none, .load none (.t 8)⟩,
    ⟨(some 10), none, .mv (.t 1)⟩,
    ⟨(some 11), none, .call (.c (.func (.func 111) [] [])) [(.t 9), (.t 10)]⟩,
    ⟨(some 5), none, .mv (.t 11)⟩])
  (.seq (.seq (.ops [⟨(some 12), none, .mv (.t 5)⟩,
    ⟨(some 13), none, .bin .geq (.t 12) (.c (.int .i64 (0)))⟩])
  (.cond (.t 13)
   (.ops [⟨(some 14), none, .mv (.t 0)⟩,
     ⟨(some 15), none, .mv (.t 0)⟩,
     ⟨(some 16), none, .nilck (.t 15)⟩,
     ⟨(some 17), none, .fieldAddr 0 (.t 16)⟩,
     ⟨(some 18), none, .load none (.t 17)⟩,
     ⟨(some 19), none, .mv (.t 5)⟩,
     ⟨(some 20), none, .mv (.t 5)⟩,
     ⟨(some 21), none, .bin .add (.t 20) (.c (.int .i64 (1)))⟩,
     ⟨(some 22), none, .call (.c (.func (.func 112) [] [])) [(.t 18), (.t 19), (.t 21)]⟩,
     ⟨(some 23), none, .nilck (.t 14)⟩,
     ⟨(some 24), none, .fieldAddr 0 (.t 23)⟩,
     ⟨none, none, .store 1 (.t 24) (.t 22)⟩])
   (.skip)))
  (.seq (.ops [⟨(some 25), none, .mv (.t 5)⟩,
    ⟨(some 26), none, .bin .geq (.t 25) (.c (.int .i64 (0)))⟩,
    ⟨(some 4), none, .mv (.t 26)⟩])
  (.ret))))⟩
theorem a91_ok : funcC Tryz.prog Tryz.f91 = some a91 := by kernel_rfl
/-- (*permafrost/arc.list).oldest -/
def a92 : AFunc := ⟨1, [.tmp 2],
  .seq (.ops [⟨(some 2), none, .mv (.c (.str []))⟩])
  (.seq (.seq (.ops [⟨(some 4), none, .mv (.t 0)⟩,
    ⟨(some 5), none, .nilck (.t 4)⟩,
    ⟨(some 6), none, .fieldAddr 0 (.t 5)⟩,
    ⟨(some 7), none, .load none (.t 6)⟩,
    ⟨(some 8), none, .lenSl (.t 7)⟩,
    ⟨(some 9), none, .bin .eql (.t 8) (.c (.int .i64 (0)))⟩])
  (.cond (.t 9)
   (.seq (.ops [⟨(some 2), none, .mv (.c (.str []))⟩])
   (.ret))
   (.skip)))
  (.seq (.ops [⟨(some 10), none, .mv (.t 0)⟩,
    ⟨(some 11), none, .nilck (.t 10)⟩,
    ⟨(some 12), none, .fieldAddr 0 (.t 11)⟩,
    ⟨(some 13), none, .load none (.t 12)⟩,
    ⟨(some 14), none, .idxSl 1 (.t 13) (.c (.int .i64 (0)))⟩,
    ⟨(some 15), none, .load none (.t 14)⟩,
    ⟨(some 3), none, .mv (.t 15)⟩])
  (.seq (.ops [⟨(some 16), none, .mv (.t 0)⟩,
    ⟨(some 17), none, .mv (.t 3)⟩,
    ⟨(some 18), none, .call (.c (.func (.func 91) [] [])) [(.t 16), (.t 17)]⟩])
  (.seq (.ops [⟨(some 19), none, .mv (.t 3)⟩,
    ⟨(some 2), none, .mv (.t 19)⟩])
  (.ret)))))⟩
theorem a92_ok : funcC Tryz.prog Tryz.f92 = some a92 := by kernel_rfl
/-- (*permafrost/second.Second).sectors$1 -/
def a93 : AFunc := ⟨3, [],
  .seq (.ops [⟨(some 6), none, .mv (.c (.int .i64 (0)))⟩])
  (.block 0 (.loop (.seq (.ops [⟨(some 7), none, .bin .lss (.t 6) (.c (.int .i64 (7)))⟩])
    (.seq (.cond (.t 7)
     (.skip)
     (.exit 0))
    (.seq (.block 1 (.seq (.ops [⟨(some 8), none, .mv (.t 6)⟩,
       ⟨(some 4), none, .mv (.t 8)⟩])
     (.seq (.ops [⟨(some 9), none, .load none (.t 1)⟩,
       ⟨(some 10), none, .bin .mul (.c (.int .i64 (7))) (.t 9)⟩,
       ⟨(some 11), none, .mv (.t 4)⟩,
       ⟨(some 12), none, .bin .add (.t 10) (.t 11)⟩,
       ⟨(some 5), none, .mv (.t 12)⟩])
     (.seq (.ops [⟨(some 13), none, .mv (.t 5)⟩,
       ⟨(some 14), none, .load none (.t 2)⟩,
       ⟨(some 15), none, .call (.c (.func (.func 76) [] [])) [(.t 14)]⟩,
       ⟨(some 16), none, .bin .geq (.t 13) (.t 15)⟩,
       ⟨(some 17), none, .mv (.t 16)⟩,
       ⟨(some 18), (some (17, false)), .mv (.t 0)⟩,
       ⟨(some 19), (some (17, false)), .mv (.t 5)⟩,
       ⟨(some 20), (some (17, false)), .load none (.t 2)⟩,
       ⟨(some 21), (some (17, false)), .load none (.t 1)⟩,
       ⟨(some 22), (some (17, false)), .call (.c (.func (.func 94) [] [])) [(.t 20), (.t 21)]⟩,
       ⟨(some 23), (some (17, false)), .field 1 none (.t 22)⟩,
       ⟨(some 24), (some (17, false)), .bin .add (.t 23) (.c (.int .i64 (1)))⟩,
       ⟨(some 25), (some (17, false)), .mv (.t 4)⟩,
       ⟨(some 26), (some (17, false)), .bin .add (.t 24) (.t 25)⟩,
       ⟨(some 27), (some (17, false)), .call (.t 18) [(.t 19), (.t 26)]⟩,
       ⟨(some 28), (some (17, false)), .not (.t 27)⟩,
       ⟨(some 29), none, .pick (.t 17) (.c (.bool true)) (.t 28)⟩])
     (.cond (.t 29)
      (.ret)
      (.skip))))))
    (.ops [⟨(some 30), none, .bin .add (.t 6) (.c (.int .i64 (1)))⟩,
      ⟨(some 6), none, .mv (.t 30)⟩]))))))⟩
theorem a93_ok : funcC Tryz.prog Tryz.f93 = some a93 := by kernel_rfl
/-- (*permafrost/second.Second).log -/
def a94 : AFunc := ⟨2, [.cell 4 (some 2)],
  .seq (.ops [⟨(some 4), none, .alloc none [(.int .i64 (0)), (.int .i64 (0))]⟩])
  (.seq (.ops [⟨(some 5), none, .mv (.t 0)⟩,
    ⟨(some 6), none, .nilck (.t 5)⟩,
    ⟨(some 7), none, .fieldAddr 1 (.t 6)⟩,
    ⟨(some 8), none, .load none (.t 7)⟩,
    ⟨(some 9), none, .mv (.t 1)⟩,
    ⟨(some 10), none, .bin .mul (.c (.int .i64 (8))) (.t 9)⟩,
    ⟨(some 11), none, .bin .add (.t 8) (.t 10)⟩,
    ⟨(some 12), none, .build [(.int .i64 (0)), (.int .i64 (0))] [(0, 1, (.c (.int .i64 (1)))), (1, 1, (.t 11))]⟩,
    ⟨none, none, .store 2 (.t 4) (.t 12)⟩])
  (.ret))⟩
theorem a94_ok : funcC Tryz.prog Tryz.f94 = some a94 := by kernel_rfl
end Abs
end Go.Proofs.YtmgbcaboljilnaaGreatDoor
