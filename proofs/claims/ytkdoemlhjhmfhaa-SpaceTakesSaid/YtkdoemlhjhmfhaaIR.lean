/- The functions of layer 7's statements, as the abstract machine's code: each is what the machine reads off the program. -/
import Derived.Test.YtkdoemlhjhmfhaaProg
import Derived.KernelRfl
import Derived.Test.YtkdoemlhjhmfhaaA17
namespace Go.Proofs.Ytkdoemlhjhmfhaa
namespace Abs
set_option linter.unusedVariables false
set_option maxRecDepth 100000
/-- permafrost/permafrostlaw07.SpaceTells -/
def a3 : AFunc := ⟨3, [.tmp 6],
  .seq (.ops [⟨(some 6), none, .mv (.c (.bool false))⟩])
  (.seq (.seq (.ops [⟨(some 8), none, .mv (.t 0)⟩,
    ⟨(some 9), none, .lenSl (.t 8)⟩,
    ⟨(some 10), none, .bin .gtr (.t 9) (.c (.int .i64 (100)))⟩,
    ⟨(some 11), none, .mv (.t 10)⟩,
    ⟨(some 12), (some (11, false)), .mv (.t 2)⟩,
    ⟨(some 13), (some (11, false)), .lenSl (.t 12)⟩,
    ⟨(some 14), (some (11, false)), .bin .gtr (.t 13) (.c (.int .i64 (300)))⟩,
    ⟨(some 15), none, .pick (.t 11) (.c (.bool true)) (.t 14)⟩])
  (.cond (.t 15)
   (.seq (.ops [⟨(some 16), none, .call (.c (.func (.func 8) [] [])) []⟩,
     ⟨(some 6), none, .mv (.t 16)⟩])
   (.ret))
   (.skip)))
  (.seq (.ops [⟨(some 17), none, .mv (.t 0)⟩,
    ⟨(some 18), none, .call (.c (.func (.func 9) [] [])) [(.t 17)]⟩,
    ⟨(some 7), none, .mv (.t 18)⟩])
  (.seq (.ops [⟨(some 19), none, .mv (.t 7)⟩,
    ⟨(some 20), none, .call (.c (.func (.func 10) [] [])) [(.t 19)]⟩,
    ⟨(some 21), none, .mv (.t 0)⟩,
    ⟨(some 22), none, .call (.c (.func (.func 11) [] [])) [(.t 21)]⟩,
    ⟨(some 23), none, .eq false (.flat .bool) (.t 20) (.t 22)⟩,
    ⟨(some 24), none, .mv (.t 23)⟩,
    ⟨(some 25), (some (24, true)), .mv (.t 7)⟩,
    ⟨(some 26), (some (24, true)), .call (.c (.func (.func 12) [] [])) [(.t 25)]⟩,
    ⟨(some 27), (some (24, true)), .mv (.t 0)⟩,
    ⟨(some 28), (some (24, true)), .call (.c (.func (.func 13) [] [])) [(.t 27)]⟩,
    ⟨(some 29), (some (24, true)), .bin .eql (.t 26) (.t 28)⟩,
    ⟨(some 30), none, .pick (.t 24) (.t 29) (.c (.bool false))⟩,
    ⟨(some 31), none, .mv (.t 30)⟩,
    ⟨(some 32), (some (31, true)), .mv (.t 7)⟩,
    ⟨(some 33), (some (31, true)), .mv (.t 1)⟩,
    ⟨(some 34), (some (31, true)), .call (.c (.func (.func 14) [] [])) [(.t 32), (.t 33)]⟩,
    ⟨(some 35), (some (31, true)), .mv (.t 0)⟩,
    ⟨(some 36), (some (31, true)), .mv (.t 1)⟩,
    ⟨(some 37), (some (31, true)), .call (.c (.func (.func 15) [] [])) [(.t 35), (.t 36)]⟩,
    ⟨(some 38), (some (31, true)), .eq false (.flat .bool) (.t 34) (.t 37)⟩,
    ⟨(some 39), none, .pick (.t 31) (.t 38) (.c (.bool false))⟩,
    ⟨(some 40), none, .mv (.t 39)⟩,
    ⟨(some 41), (some (40, true)), .mv (.t 2)⟩,
    ⟨(some 42), (some (40, true)), .call (.c (.func (.func 18) [] [])) [(.t 41)]⟩,
    ⟨(some 43), (some (40, true)), .call (.c (.func (.func 17) [] [])) [(.t 42)]⟩,
    ⟨(some 44), (some (40, true)), .mv (.t 2)⟩,
    ⟨(some 45), (some (40, true)), .call (.c (.func (.func 19) [] [])) [(.t 44)]⟩,
    ⟨(some 46), (some (40, true)), .call (.c (.func (.func 16) [] [])) [(.t 43), (.t 45)]⟩,
    ⟨(some 47), none, .pick (.t 40) (.t 46) (.c (.bool false))⟩,
    ⟨(some 48), none, .mv (.t 47)⟩,
    ⟨(some 49), (some (48, true)), .call (.c (.func (.func 8) [] [])) []⟩,
    ⟨(some 50), none, .pick (.t 48) (.t 49) (.c (.bool false))⟩,
    ⟨(some 6), none, .mv (.t 50)⟩])
  (.ret))))⟩
theorem a3_ok : funcC Try.prog Try.f3 = some a3 := by kernel_rfl
/-- permafrost/permafrostlaw07.SpaceTakes -/
def a4 : AFunc := ⟨3, [.tmp 6],
  .seq (.ops [⟨(some 5), none, .box (.t 2)⟩,
    ⟨(some 6), none, .mv (.c (.bool false))⟩])
  (.seq (.seq (.ops [⟨(some 17), none, .mv (.t 0)⟩,
    ⟨(some 18), none, .lenSl (.t 17)⟩,
    ⟨(some 19), none, .bin .gtr (.t 18) (.c (.int .i64 (100)))⟩])
  (.cond (.t 19)
   (.seq (.ops [⟨(some 20), none, .call (.c (.func (.func 8) [] [])) []⟩,
     ⟨(some 6), none, .mv (.t 20)⟩])
   (.ret))
   (.skip)))
  (.seq (.ops [⟨(some 22), none, .mv (.t 0)⟩,
    ⟨(some 23), none, .call (.c (.func (.func 9) [] [])) [(.t 22)]⟩,
    ⟨(some 24), none, .mv (.t 1)⟩,
    ⟨(some 25), none, .call (.c (.func (.func 20) [] [])) [(.t 23), (.t 24)]⟩,
    ⟨(some 21), none, .mv (.t 25)⟩,
    ⟨(some 26), none, .extract 0 (.t 21)⟩,
    ⟨(some 27), none, .extract 1 (.t 21)⟩,
    ⟨(some 28), none, .extract 2 (.t 21)⟩,
    ⟨(some 7), none, .mv (.t 26)⟩,
    ⟨(some 8), none, .mv (.t 27)⟩,
    ⟨(some 9), none, .mv (.t 28)⟩])
  (.seq (.ops [⟨(some 30), none, .mv (.t 0)⟩,
    ⟨(some 31), none, .mv (.t 1)⟩,
    ⟨(some 32), none, .call (.c (.func (.func 21) [] [])) [(.t 30), (.t 31)]⟩,
    ⟨(some 29), none, .mv (.t 32)⟩,
    ⟨(some 33), none, .extract 0 (.t 29)⟩,
    ⟨(some 34), none, .extract 1 (.t 29)⟩,
    ⟨(some 35), none, .extract 2 (.t 29)⟩,
    ⟨(some 10), none, .mv (.t 33)⟩,
    ⟨(some 11), none, .mv (.t 34)⟩,
    ⟨(some 12), none, .mv (.t 35)⟩])
  (.seq (.draw [⟨⟨(some 37), none, .mv (.t 0)⟩, 0, []⟩,
    ⟨⟨(some 39), none, .fieldAddr 0 (.t 5)⟩, 2, []⟩,
    ⟨⟨(some 40), none, .load none (.t 39)⟩, 3, [1]⟩,
    ⟨⟨(some 41), none, .fieldAddr 1 (.t 5)⟩, 4, []⟩,
    ⟨⟨(some 42), none, .load none (.t 41)⟩, 5, [3]⟩,
    ⟨⟨(some 43), none, .build [(.int .i64 (0)), (.int .i64 (0))] [(0, 1, (.t 40)), (1, 1, (.t 42))]⟩, 6, [1, 2, 3, 4]⟩,
    ⟨⟨(some 38), none, .call (.c (.func (.func 9) [] [])) [(.t 37)]⟩, 1, [0]⟩,
    ⟨⟨(some 44), none, .call (.c (.func (.func 22) [] [])) [(.t 38), (.t 43)]⟩, 7, [0, 1, 2, 3, 4, 5, 6]⟩,
    ⟨⟨(some 36), none, .mv (.t 44)⟩, 8, [0, 1, 2, 3, 4, 5, 6, 7]⟩,
    ⟨⟨(some 45), none, .extract 0 (.t 36)⟩, 9, [0, 1, 2, 3, 4, 5, 6, 7, 8]⟩,
    ⟨⟨(some 46), none, .extract 1 (.t 36)⟩, 10, [0, 1, 2, 3, 4, 5, 6, 7, 8]⟩,
    ⟨⟨(some 13), none, .mv (.t 45)⟩, 11, [0, 1, 2, 3, 4, 5, 6, 7, 8, 9]⟩,
    ⟨⟨(some 14), none, .mv (.t 46)⟩, 12, [0, 1, 2, 3, 4, 5, 6, 7, 8, 9, 10, 11]⟩])
  (.seq (.ops [⟨(some 48), none, .mv (.t 0)⟩,
    ⟨(some 49), none, .load (some 2) (.t 5)⟩,
    ⟨(some 50), none, .call (.c (.func (.func 23) [] [])) [(.t 48), (.t 49)]⟩,
    ⟨(some 47), none, .mv (.t 50)⟩,
    ⟨(some 51), none, .extract 0 (.t 47)⟩,
    ⟨(some 52), none, .extract 1 (.t 47)⟩,
    ⟨(some 15), none, .mv (.t 51)⟩,
    ⟨(some 16), none, .mv (.t 52)⟩])
  (.seq (.ops [⟨(some 53), none, .mv (.t 7)⟩,
    ⟨(some 54), none, .mv (.t 10)⟩,
    ⟨(some 55), none, .bin .eql (.t 53) (.t 54)⟩,
    ⟨(some 56), none, .mv (.t 55)⟩,
    ⟨(some 57), (some (56, true)), .mv (.t 8)⟩,
    ⟨(some 58), (some (56, true)), .call (.c (.func (.func 17) [] [])) [(.t 57)]⟩,
    ⟨(some 59), (some (56, true)), .mv (.t 11)⟩,
    ⟨(some 60), (some (56, true)), .call (.c (.func (.func 16) [] [])) [(.t 58), (.t 59)]⟩,
    ⟨(some 61), none, .pick (.t 56) (.t 60) (.c (.bool false))⟩,
    ⟨(some 62), none, .mv (.t 61)⟩,
    ⟨(some 63), (some (62, true)), .mv (.t 9)⟩,
    ⟨(some 64), (some (62, true)), .mv (.t 12)⟩,
    ⟨(some 65), (some (62, true)), .eq false (.flat .bool) (.t 63) (.t 64)⟩,
    ⟨(some 66), none, .pick (.t 62) (.t 65) (.c (.bool false))⟩,
    ⟨(some 67), none, .mv (.t 66)⟩,
    ⟨(some 68), (some (67, true)), .mv (.t 13)⟩,
    ⟨(some 69), (some (67, true)), .call (.c (.func (.func 17) [] [])) [(.t 68)]⟩,
    ⟨(some 70), (some (67, true)), .mv (.t 15)⟩,
    ⟨(some 71), (some (67, true)), .call (.c (.func (.func 16) [] [])) [(.t 69), (.t 70)]⟩,
    ⟨(some 72), none, .pick (.t 67) (.t 71) (.c (.bool false))⟩,
    ⟨(some 73), none, .mv (.t 72)⟩,
    ⟨(some 74), (some (73, true)), .mv (.t 14)⟩,
    ⟨(some 75), (some (73, true)), .mv (.t 16)⟩,
    ⟨(some 76), (some (73, true)), .eq false (.flat .bool) (.t 74) (.t 75)⟩,
    ⟨(some 77), none, .pick (.t 73) (.t 76) (.c (.bool false))⟩,
    ⟨(some 78), none, .mv (.t 77)⟩,
    ⟨(some 79), (some (78, true)), .call (.c (.func (.func 8) [] [])) []⟩,
    ⟨(some 80), none, .pick (.t 78) (.t 79) (.c (.bool false))⟩,
    ⟨(some 6), none, .mv (.t 80)⟩])
  (.ret)))))))⟩
theorem a4_ok : funcC Try.prog Try.f4 = some a4 := by kernel_rfl
/-- permafrost/permafrostlaw07.SpaceAll -/
def a5 : AFunc := ⟨2, [.tmp 4],
  .seq (.ops [⟨(some 4), none, .mv (.c (.bool false))⟩])
  (.seq (.seq (.ops [⟨(some 11), none, .mv (.t 0)⟩,
    ⟨(some 12), none, .lenSl (.t 11)⟩,
    ⟨(some 13), none, .bin .gtr (.t 12) (.c (.int .i64 (200)))⟩,
    ⟨(some 14), none, .mv (.t 13)⟩,
    ⟨(some 15), (some (14, false)), .mv (.t 0)⟩,
    ⟨(some 16), (some (14, false)), .lenSl (.t 15)⟩,
    ⟨(some 17), (some (14, false)), .bin .eql (.t 16) (.c (.int .i64 (0)))⟩,
    ⟨(some 18), none, .pick (.t 14) (.c (.bool true)) (.t 17)⟩,
    ⟨(some 19), none, .mv (.t 18)⟩,
    ⟨(some 20), (some (19, false)), .mv (.t 1)⟩,
    ⟨(some 21), (some (19, false)), .bin .lss (.t 20) (.c (.int .i64 (0)))⟩,
    ⟨(some 22), none, .pick (.t 19) (.c (.bool true)) (.t 21)⟩])
  (.cond (.t 22)
   (.seq (.ops [⟨(some 23), none, .call (.c (.func (.func 8) [] [])) []⟩,
     ⟨(some 4), none, .mv (.t 23)⟩])
   (.ret))
   (.skip)))
  (.seq (.ops [⟨(some 24), none, .mv (.t 0)⟩,
    ⟨(some 25), none, .call (.c (.func (.func 18) [] [])) [(.t 24)]⟩,
    ⟨(some 5), none, .mv (.t 25)⟩])
  (.seq (.ops [⟨(some 6), none, .mv (.c (.slice none 0 0))⟩])
  (.seq (.seq (.ops [⟨(some 7), none, .mv (.c (.int .i64 (0)))⟩])
  (.block 0 (.loop (.seq (.seq (.ops [⟨(some 26), none, .mv (.t 7)⟩,
      ⟨(some 27), none, .mv (.t 0)⟩,
      ⟨(some 28), none, .lenSl (.t 27)⟩,
      ⟨(some 29), none, .bin .lss (.t 26) (.t 28)⟩])
    (.cond (.t 29)
     (.skip)
     (.exit 0)))
    (.seq (.block 1 (.seq (.ops [⟨(some 32), none, .mv (.t 7)⟩,
       ⟨(some 33), none, .mv (.t 1)⟩,
       ⟨(some 34), none, .mv (.t 0)⟩,
       ⟨(some 35), none, .lenSl (.t 34)⟩,
       ⟨(some 36), none, .bin .rem (.t 33) (.t 35)⟩,
       ⟨(some 37), none, .bin .add (.t 32) (.t 36)⟩,
       ⟨(some 38), none, .mv (.t 0)⟩,
       ⟨(some 39), none, .lenSl (.t 38)⟩,
       ⟨(some 40), none, .bin .rem (.t 37) (.t 39)⟩,
       ⟨(some 8), none, .mv (.t 40)⟩])
     (.seq (.seq (.draw [⟨⟨(some 41), none, .mv (.t 5)⟩, 0, []⟩,
       ⟨⟨(some 42), none, .mv (.t 8)⟩, 1, []⟩,
       ⟨⟨(some 44), none, .mv (.t 0)⟩, 3, []⟩,
       ⟨⟨(some 45), none, .mv (.t 8)⟩, 4, []⟩,
       ⟨⟨(some 46), none, .idxSl 1 (.t 44) (.t 45)⟩, 5, [2, 3]⟩,
       ⟨⟨(some 47), none, .load none (.t 46)⟩, 6, [2, 3, 4]⟩,
       ⟨⟨(some 43), none, .call (.c (.func (.func 14) [] [])) [(.t 41), (.t 42)]⟩, 2, [0, 1]⟩,
       ⟨⟨(some 48), none, .eq false (.flat .bool) (.t 43) (.t 47)⟩, 7, [0, 1, 2, 3, 4, 5, 6]⟩])
     (.cond (.t 48)
      (.seq (.ops [⟨(some 4), none, .mv (.c (.bool false))⟩])
      (.ret))
      (.skip)))
     (.seq (.ops [⟨(some 49), none, .mv (.t 0)⟩,
       ⟨(some 50), none, .mv (.t 8)⟩,
       ⟨(some 51), none, .idxSl 1 (.t 49) (.t 50)⟩,
       ⟨(some 52), none, .load none (.t 51)⟩,
       ⟨(some 53), none, .not (.t 52)⟩])
     (.cond (.t 53)
      (.seq (.ops [⟨(some 55), none, .mv (.t 6)⟩,
        ⟨(some 56), none, .mv (.t 8)⟩,
        ⟨(some 57), none, .build [(.int .i64 (0)), (.int .i64 (0))] [(0, 1, (.t 56)), (1, 1, (.c (.int .i64 (1))))]⟩,
        ⟨(some 58), none, .call (.c (.func (.func 22) [] [])) [(.t 55), (.t 57)]⟩,
        ⟨(some 54), none, .mv (.t 58)⟩,
        ⟨(some 59), none, .extract 0 (.t 54)⟩,
        ⟨(some 60), none, .extract 1 (.t 54)⟩,
        ⟨(some 9), none, .mv (.t 59)⟩,
        ⟨(some 10), none, .mv (.t 60)⟩])
      (.seq (.seq (.ops [⟨(some 61), none, .mv (.t 10)⟩,
        ⟨(some 62), none, .not (.t 61)⟩])
      (.cond (.t 62)
       (.seq (.ops [⟨(some 4), none, .mv (.c (.bool false))⟩])
       (.ret))
       (.skip)))
      (.ops [⟨(some 63), none, .mv (.t 9)⟩,
        ⟨(some 6), none, .mv (.t 63)⟩])))
      (.skip))))))
    (.ops [⟨(some 30), none, .mv (.t 7)⟩,
      ⟨(some 31), none, .bin .add (.t 30) (.c (.int .i64 (1)))⟩,
      ⟨(some 7), none, .mv (.t 31)⟩]))))))
  (.seq (.ops [⟨(some 64), none, .mv (.t 6)⟩,
    ⟨(some 65), none, .call (.c (.func (.func 17) [] [])) [(.t 64)]⟩,
    ⟨(some 66), none, .mv (.t 5)⟩,
    ⟨(some 67), none, .call (.c (.func (.func 17) [] [])) [(.t 66)]⟩,
    ⟨(some 68), none, .call (.c (.func (.func 16) [] [])) [(.t 65), (.t 67)]⟩,
    ⟨(some 69), none, .mv (.t 68)⟩,
    ⟨(some 70), (some (69, true)), .mv (.t 5)⟩,
    ⟨(some 71), (some (69, true)), .call (.c (.func (.func 10) [] [])) [(.t 70)]⟩,
    ⟨(some 72), none, .pick (.t 69) (.t 71) (.c (.bool false))⟩,
    ⟨(some 73), none, .mv (.t 72)⟩,
    ⟨(some 74), (some (73, true)), .call (.c (.func (.func 8) [] [])) []⟩,
    ⟨(some 75), none, .pick (.t 73) (.t 74) (.c (.bool false))⟩,
    ⟨(some 4), none, .mv (.t 75)⟩])
  (.ret))))))⟩
theorem a5_ok : funcC Try.prog Try.f5 = some a5 := by kernel_rfl
/-- permafrost/permafrostlaw07.SpaceFirst -/
def a6 : AFunc := ⟨2, [.tmp 4],
  .seq (.ops [⟨(some 4), none, .mv (.c (.bool false))⟩])
  (.seq (.seq (.ops [⟨(some 10), none, .mv (.t 0)⟩,
    ⟨(some 11), none, .lenSl (.t 10)⟩,
    ⟨(some 12), none, .bin .gtr (.t 11) (.c (.int .i64 (100)))⟩])
  (.cond (.t 12)
   (.seq (.ops [⟨(some 13), none, .call (.c (.func (.func 8) [] [])) []⟩,
     ⟨(some 4), none, .mv (.t 13)⟩])
   (.ret))
   (.skip)))
  (.seq (.ops [⟨(some 15), none, .mv (.t 0)⟩,
    ⟨(some 16), none, .call (.c (.func (.func 9) [] [])) [(.t 15)]⟩,
    ⟨(some 17), none, .mv (.t 1)⟩,
    ⟨(some 18), none, .call (.c (.func (.func 20) [] [])) [(.t 16), (.t 17)]⟩,
    ⟨(some 14), none, .mv (.t 18)⟩,
    ⟨(some 19), none, .extract 0 (.t 14)⟩,
    ⟨(some 20), none, .extract 1 (.t 14)⟩,
    ⟨(some 21), none, .extract 2 (.t 14)⟩,
    ⟨(some 5), none, .mv (.t 19)⟩,
    ⟨(some 6), none, .mv (.t 20)⟩,
    ⟨(some 7), none, .mv (.t 21)⟩])
  (.seq (.seq (.ops [⟨(some 22), none, .mv (.t 7)⟩,
    ⟨(some 23), none, .not (.t 22)⟩])
  (.cond (.t 23)
   (.seq (.seq (.ops [⟨(some 8), none, .mv (.c (.int .i64 (0)))⟩])
   (.block 0 (.loop (.seq (.seq (.ops [⟨(some 24), none, .mv (.t 8)⟩,
       ⟨(some 25), none, .mv (.t 0)⟩,
       ⟨(some 26), none, .lenSl (.t 25)⟩,
       ⟨(some 27), none, .bin .lss (.t 24) (.t 26)⟩,
       ⟨(some 28), none, .mv (.t 27)⟩,
       ⟨(some 29), (some (28, true)), .mv (.t 0)⟩,
       ⟨(some 30), (some (28, true)), .call (.c (.func (.func 11) [] [])) [(.t 29)]⟩,
       ⟨(some 31), none, .pick (.t 28) (.t 30) (.c (.bool false))⟩,
       ⟨(some 32), none, .mv (.t 31)⟩,
       ⟨(some 33), (some (32, true)), .mv (.t 1)⟩,
       ⟨(some 34), (some (32, true)), .bin .geq (.t 33) (.c (.int .i64 (1)))⟩,
       ⟨(some 35), none, .pick (.t 32) (.t 34) (.c (.bool false))⟩,
       ⟨(some 36), none, .mv (.t 35)⟩,
       ⟨(some 37), (some (36, true)), .mv (.t 1)⟩,
       ⟨(some 38), (some (36, true)), .bin .leq (.t 37) (.c (.int .i64 (1073741824)))⟩,
       ⟨(some 39), none, .pick (.t 36) (.t 38) (.c (.bool false))⟩])
     (.cond (.t 39)
      (.skip)
      (.exit 0)))
     (.seq (.block 1 (.seq (.ops [⟨(some 42), none, .mv (.t 0)⟩,
        ⟨(some 43), none, .mv (.t 8)⟩,
        ⟨(some 44), none, .idxSl 2 (.t 42) (.t 43)⟩,
        ⟨(some 45), none, .fieldAddr 1 (.t 44)⟩,
        ⟨(some 46), none, .load none (.t 45)⟩,
        ⟨(some 47), none, .mv (.t 1)⟩,
        ⟨(some 48), none, .bin .geq (.t 46) (.t 47)⟩])
      (.cond (.t 48)
       (.seq (.ops [⟨(some 4), none, .mv (.c (.bool false))⟩])
       (.ret))
       (.skip))))
     (.ops [⟨(some 40), none, .mv (.t 8)⟩,
       ⟨(some 41), none, .bin .add (.t 40) (.c (.int .i64 (1)))⟩,
       ⟨(some 8), none, .mv (.t 41)⟩]))))))
   (.seq (.ops [⟨(some 49), none, .mv (.t 5)⟩,
     ⟨(some 50), none, .bin .eql (.t 49) (.c (.int .i64 (0)))⟩,
     ⟨(some 51), none, .mv (.t 50)⟩,
     ⟨(some 52), (some (51, true)), .mv (.t 6)⟩,
     ⟨(some 53), (some (51, true)), .lenSl (.t 52)⟩,
     ⟨(some 54), (some (51, true)), .bin .eql (.t 53) (.c (.int .i64 (0)))⟩,
     ⟨(some 55), none, .pick (.t 51) (.t 54) (.c (.bool false))⟩,
     ⟨(some 56), none, .mv (.t 55)⟩,
     ⟨(some 57), (some (56, true)), .call (.c (.func (.func 8) [] [])) []⟩,
     ⟨(some 58), none, .pick (.t 56) (.t 57) (.c (.bool false))⟩,
     ⟨(some 4), none, .mv (.t 58)⟩])
   (.ret)))
   (.skip)))
  (.seq (.seq (.ops [⟨(some 9), none, .mv (.c (.int .i64 (0)))⟩])
  (.block 2 (.loop (.seq (.seq (.ops [⟨(some 59), none, .mv (.t 9)⟩,
      ⟨(some 60), none, .mv (.t 0)⟩,
      ⟨(some 61), none, .lenSl (.t 60)⟩,
      ⟨(some 62), none, .bin .lss (.t 59) (.t 61)⟩])
    (.cond (.t 62)
     (.skip)
     (.exit 2)))
    (.seq (.block 3 (.seq (.seq (.ops [⟨(some 65), none, .mv (.t 0)⟩,
       ⟨(some 66), none, .mv (.t 9)⟩,
       ⟨(some 67), none, .idxSl 2 (.t 65) (.t 66)⟩,
       ⟨(some 68), none, .fieldAddr 0 (.t 67)⟩,
       ⟨(some 69), none, .load none (.t 68)⟩,
       ⟨(some 70), none, .mv (.t 5)⟩,
       ⟨(some 71), none, .bin .eql (.t 69) (.t 70)⟩])
     (.cond (.t 71)
      (.seq (.ops [⟨(some 72), none, .mv (.t 0)⟩,
        ⟨(some 73), none, .mv (.t 9)⟩,
        ⟨(some 74), none, .idxSl 2 (.t 72) (.t 73)⟩,
        ⟨(some 75), none, .fieldAddr 1 (.t 74)⟩,
        ⟨(some 76), none, .load none (.t 75)⟩,
        ⟨(some 77), none, .mv (.t 1)⟩,
        ⟨(some 78), none, .bin .geq (.t 76) (.t 77)⟩,
        ⟨(some 79), none, .mv (.t 78)⟩,
        ⟨(some 80), (some (79, true)), .call (.c (.func (.func 8) [] [])) []⟩,
        ⟨(some 81), none, .pick (.t 79) (.t 80) (.c (.bool false))⟩,
        ⟨(some 4), none, .mv (.t 81)⟩])
      (.ret))
      (.skip)))
     (.seq (.ops [⟨(some 82), none, .mv (.t 0)⟩,
       ⟨(some 83), none, .mv (.t 9)⟩,
       ⟨(some 84), none, .idxSl 2 (.t 82) (.t 83)⟩,
       ⟨(some 85), none, .fieldAddr 1 (.t 84)⟩,
       ⟨(some 86), none, .load none (.t 85)⟩,
       ⟨(some 87), none, .mv (.t 1)⟩,
       ⟨(some 88), none, .bin .geq (.t 86) (.t 87)⟩])
     (.cond (.t 88)
      (.seq (.ops [⟨(some 4), none, .mv (.c (.bool false))⟩])
      (.ret))
      (.skip)))))
    (.ops [⟨(some 63), none, .mv (.t 9)⟩,
      ⟨(some 64), none, .bin .add (.t 63) (.c (.int .i64 (1)))⟩,
      ⟨(some 9), none, .mv (.t 64)⟩]))))))
  (.seq (.ops [⟨(some 4), none, .mv (.c (.bool false))⟩])
  (.ret))))))⟩
theorem a6_ok : funcC Try.prog Try.f6 = some a6 := by kernel_rfl
/-- permafrost/permafrostlaw07.SpaceRefuse -/
def a7 : AFunc := ⟨2, [.tmp 4],
  .seq (.ops [⟨(some 4), none, .mv (.c (.bool false))⟩])
  (.seq (.seq (.ops [⟨(some 8), none, .mv (.t 0)⟩,
    ⟨(some 9), none, .lenSl (.t 8)⟩,
    ⟨(some 10), none, .bin .gtr (.t 9) (.c (.int .i64 (100)))⟩])
  (.cond (.t 10)
   (.seq (.ops [⟨(some 11), none, .call (.c (.func (.func 8) [] [])) []⟩,
     ⟨(some 4), none, .mv (.t 11)⟩])
   (.ret))
   (.skip)))
  (.seq (.ops [⟨(some 12), none, .mv (.t 0)⟩,
    ⟨(some 13), none, .call (.c (.func (.func 9) [] [])) [(.t 12)]⟩,
    ⟨(some 5), none, .mv (.t 13)⟩])
  (.seq (.ops [⟨(some 15), none, .mv (.t 5)⟩,
    ⟨(some 16), none, .mv (.t 1)⟩,
    ⟨(some 17), none, .build [(.int .i64 (0)), (.int .i64 (0))] [(0, 1, (.t 16)), (1, 1, (.c (.int .i64 (1))))]⟩,
    ⟨(some 18), none, .call (.c (.func (.func 22) [] [])) [(.t 15), (.t 17)]⟩,
    ⟨(some 14), none, .mv (.t 18)⟩,
    ⟨(some 19), none, .extract 0 (.t 14)⟩,
    ⟨(some 20), none, .extract 1 (.t 14)⟩,
    ⟨(some 6), none, .mv (.t 19)⟩,
    ⟨(some 7), none, .mv (.t 20)⟩])
  (.seq (.seq (.ops [⟨(some 21), none, .mv (.t 5)⟩,
    ⟨(some 22), none, .call (.c (.func (.func 10) [] [])) [(.t 21)]⟩,
    ⟨(some 23), none, .not (.t 22)⟩])
  (.cond (.t 23)
   (.seq (.ops [⟨(some 24), none, .mv (.t 7)⟩,
     ⟨(some 25), none, .not (.t 24)⟩,
     ⟨(some 26), none, .mv (.t 25)⟩,
     ⟨(some 27), (some (26, true)), .mv (.t 6)⟩,
     ⟨(some 28), (some (26, true)), .lenSl (.t 27)⟩,
     ⟨(some 29), (some (26, true)), .bin .eql (.t 28) (.c (.int .i64 (0)))⟩,
     ⟨(some 30), none, .pick (.t 26) (.t 29) (.c (.bool false))⟩,
     ⟨(some 31), none, .mv (.t 30)⟩,
     ⟨(some 32), (some (31, true)), .mv (.t 5)⟩,
     ⟨(some 33), (some (31, true)), .call (.c (.func (.func 12) [] [])) [(.t 32)]⟩,
     ⟨(some 34), (some (31, true)), .bin .eql (.t 33) (.c (.int .i64 (0)))⟩,
     ⟨(some 35), none, .pick (.t 31) (.t 34) (.c (.bool false))⟩,
     ⟨(some 36), none, .mv (.t 35)⟩,
     ⟨(some 37), (some (36, true)), .mv (.t 5)⟩,
     ⟨(some 38), (some (36, true)), .mv (.t 1)⟩,
     ⟨(some 39), (some (36, true)), .call (.c (.func (.func 14) [] [])) [(.t 37), (.t 38)]⟩,
     ⟨(some 40), (some (36, true)), .not (.t 39)⟩,
     ⟨(some 41), none, .pick (.t 36) (.t 40) (.c (.bool false))⟩,
     ⟨(some 42), none, .mv (.t 41)⟩,
     ⟨(some 43), (some (42, true)), .call (.c (.func (.func 8) [] [])) []⟩,
     ⟨(some 44), none, .pick (.t 42) (.t 43) (.c (.bool false))⟩,
     ⟨(some 4), none, .mv (.t 44)⟩])
   (.ret))
   (.skip)))
  (.seq (.ops [⟨(some 45), none, .mv (.t 5)⟩,
    ⟨(some 46), none, .mv (.t 1)⟩,
    ⟨(some 47), none, .call (.c (.func (.func 14) [] [])) [(.t 45), (.t 46)]⟩,
    ⟨(some 48), none, .not (.t 47)⟩,
    ⟨(some 49), none, .mv (.t 48)⟩,
    ⟨(some 50), (some (49, false)), .mv (.t 7)⟩,
    ⟨(some 51), (some (49, false)), .not (.t 50)⟩,
    ⟨(some 52), none, .pick (.t 49) (.c (.bool true)) (.t 51)⟩,
    ⟨(some 53), none, .mv (.t 52)⟩,
    ⟨(some 54), (some (53, true)), .mv (.t 7)⟩,
    ⟨(some 55), (some (53, true)), .mv (.t 54)⟩,
    ⟨(some 56), (some (55, false)), .mv (.t 6)⟩,
    ⟨(some 57), (some (55, false)), .lenSl (.t 56)⟩,
    ⟨(some 58), (some (55, false)), .bin .eql (.t 57) (.c (.int .i64 (0)))⟩,
    ⟨(some 59), (some (53, true)), .pick (.t 55) (.c (.bool true)) (.t 58)⟩,
    ⟨(some 60), none, .pick (.t 53) (.t 59) (.c (.bool false))⟩,
    ⟨(some 61), none, .mv (.t 60)⟩,
    ⟨(some 62), (some (61, true)), .call (.c (.func (.func 8) [] [])) []⟩,
    ⟨(some 63), none, .pick (.t 61) (.t 62) (.c (.bool false))⟩,
    ⟨(some 4), none, .mv (.t 63)⟩])
  (.ret))))))⟩
theorem a7_ok : funcC Try.prog Try.f7 = some a7 := by kernel_rfl
/-- permafrost/permafrostlaw07.live -/
def a8 : AFunc := ⟨0, [.tmp 0],
  .seq (.ops [⟨(some 0), none, .mv (.c (.bool false))⟩])
  (.seq (.ops [⟨(some 12), none, .build [(.int .i64 (0)), (.int .i64 (0))] [(0, 1, (.c (.int .i64 (0)))), (1, 1, (.c (.int .i64 (3))))]⟩,
    ⟨(some 13), none, .build [(.int .i64 (0)), (.int .i64 (0))] [(0, 1, (.c (.int .i64 (5)))), (1, 1, (.c (.int .i64 (4))))]⟩,
    ⟨(some 14), none, .buildSl [(.int .i64 (0)), (.int .i64 (0)), (.int .i64 (0)), (.int .i64 (0))] 2 [(0, 2, (.t 12)), (2, 2, (.t 13))]⟩,
    ⟨(some 15), none, .build [(.int .i64 (0)), (.int .i64 (0))] [(0, 1, (.c (.int .i64 (3)))), (1, 1, (.c (.int .i64 (2))))]⟩,
    ⟨(some 16), none, .call (.c (.func (.func 22) [] [])) [(.t 14), (.t 15)]⟩,
    ⟨(some 11), none, .mv (.t 16)⟩,
    ⟨(some 17), none, .extract 0 (.t 11)⟩,
    ⟨(some 18), none, .extract 1 (.t 11)⟩,
    ⟨(some 1), none, .mv (.t 17)⟩,
    ⟨(some 2), none, .mv (.t 18)⟩])
  (.seq (.ops [⟨(some 20), none, .build [(.int .i64 (0)), (.int .i64 (0))] [(0, 1, (.c (.int .i64 (1)))), (1, 1, (.c (.int .i64 (1))))]⟩,
    ⟨(some 21), none, .build [(.int .i64 (0)), (.int .i64 (0))] [(0, 1, (.c (.int .i64 (5)))), (1, 1, (.c (.int .i64 (4))))]⟩,
    ⟨(some 22), none, .buildSl [(.int .i64 (0)), (.int .i64 (0)), (.int .i64 (0)), (.int .i64 (0))] 2 [(0, 2, (.t 20)), (2, 2, (.t 21))]⟩,
    ⟨(some 23), none, .call (.c (.func (.func 20) [] [])) [(.t 22), (.c (.int .i64 (2)))]⟩,
    ⟨(some 19), none, .mv (.t 23)⟩,
    ⟨(some 24), none, .extract 0 (.t 19)⟩,
    ⟨(some 25), none, .extract 1 (.t 19)⟩,
    ⟨(some 26), none, .extract 2 (.t 19)⟩,
    ⟨(some 3), none, .mv (.t 24)⟩,
    ⟨(some 4), none, .mv (.t 25)⟩,
    ⟨(some 5), none, .mv (.t 26)⟩])
  (.seq (.ops [⟨(some 28), none, .mv (.t 1)⟩,
    ⟨(some 29), none, .call (.c (.func (.func 20) [] [])) [(.t 28), (.c (.int .i64 (10)))]⟩,
    ⟨(some 27), none, .mv (.t 29)⟩,
    ⟨(some 30), none, .extract 0 (.t 27)⟩,
    ⟨(some 31), none, .extract 1 (.t 27)⟩,
    ⟨(some 32), none, .extract 2 (.t 27)⟩,
    ⟨(some 6), none, .mv (.t 30)⟩,
    ⟨(some 7), none, .mv (.t 31)⟩,
    ⟨(some 8), none, .mv (.t 32)⟩])
  (.seq (.ops [⟨(some 34), none, .mv (.t 1)⟩,
    ⟨(some 35), none, .build [(.int .i64 (0)), (.int .i64 (0))] [(0, 1, (.c (.int .i64 (8)))), (1, 1, (.c (.int .i64 (1))))]⟩,
    ⟨(some 36), none, .call (.c (.func (.func 22) [] [])) [(.t 34), (.t 35)]⟩,
    ⟨(some 33), none, .mv (.t 36)⟩,
    ⟨(some 37), none, .extract 0 (.t 33)⟩,
    ⟨(some 38), none, .extract 1 (.t 33)⟩,
    ⟨(some 9), none, .mv (.t 37)⟩,
    ⟨(some 10), none, .mv (.t 38)⟩])
  (.seq (.ops [⟨(some 39), none, .mv (.t 1)⟩,
    ⟨(some 40), none, .lenSl (.t 39)⟩,
    ⟨(some 41), none, .bin .eql (.t 40) (.c (.int .i64 (1)))⟩,
    ⟨(some 42), none, .mv (.t 41)⟩,
    ⟨(some 43), (some (42, true)), .mv (.t 1)⟩,
    ⟨(some 44), (some (42, true)), .idxSl 2 (.t 43) (.c (.int .i64 (0)))⟩,
    ⟨(some 45), (some (42, true)), .load (some 2) (.t 44)⟩,
    ⟨(some 46), (some (42, true)), .build [(.int .i64 (0)), (.int .i64 (0))] [(1, 1, (.c (.int .i64 (9))))]⟩,
    ⟨(some 47), (some (42, true)), .eq false (.struct [(0, none, (.flat .int)), (1, none, (.flat .int))]) (.t 45) (.t 46)⟩,
    ⟨(some 48), none, .pick (.t 42) (.t 47) (.c (.bool false))⟩,
    ⟨(some 49), none, .mv (.t 48)⟩,
    ⟨(some 50), (some (49, true)), .mv (.t 2)⟩,
    ⟨(some 51), none, .pick (.t 49) (.t 50) (.c (.bool false))⟩,
    ⟨(some 52), none, .mv (.t 51)⟩,
    ⟨(some 53), (some (52, true)), .mv (.t 3)⟩,
    ⟨(some 54), (some (52, true)), .bin .eql (.t 53) (.c (.int .i64 (5)))⟩,
    ⟨(some 55), none, .pick (.t 52) (.t 54) (.c (.bool false))⟩,
    ⟨(some 56), none, .mv (.t 55)⟩,
    ⟨(some 57), (some (56, true)), .mv (.t 5)⟩,
    ⟨(some 58), none, .pick (.t 56) (.t 57) (.c (.bool false))⟩,
    ⟨(some 59), none, .mv (.t 58)⟩,
    ⟨(some 60), (some (59, true)), .mv (.t 4)⟩,
    ⟨(some 61), (some (59, true)), .call (.c (.func (.func 17) [] [])) [(.t 60)]⟩,
    ⟨(some 62), (some (59, true)), .build [(.int .i64 (0)), (.int .i64 (0))] [(0, 1, (.c (.int .i64 (1)))), (1, 1, (.c (.int .i64 (1))))]⟩,
    ⟨(some 63), (some (59, true)), .build [(.int .i64 (0)), (.int .i64 (0))] [(0, 1, (.c (.int .i64 (7)))), (1, 1, (.c (.int .i64 (2))))]⟩,
    ⟨(some 64), (some (59, true)), .buildSl [(.int .i64 (0)), (.int .i64 (0)), (.int .i64 (0)), (.int .i64 (0))] 2 [(0, 2, (.t 62)), (2, 2, (.t 63))]⟩,
    ⟨(some 65), (some (59, true)), .call (.c (.func (.func 16) [] [])) [(.t 61), (.t 64)]⟩,
    ⟨(some 66), none, .pick (.t 59) (.t 65) (.c (.bool false))⟩,
    ⟨(some 67), none, .mv (.t 66)⟩,
    ⟨(some 68), (some (67, true)), .mv (.t 8)⟩,
    ⟨(some 69), (some (67, true)), .not (.t 68)⟩,
    ⟨(some 70), none, .pick (.t 67) (.t 69) (.c (.bool false))⟩,
    ⟨(some 71), none, .mv (.t 70)⟩,
    ⟨(some 72), (some (71, true)), .mv (.t 10)⟩,
    ⟨(some 73), (some (71, true)), .not (.t 72)⟩,
    ⟨(some 74), none, .pick (.t 71) (.t 73) (.c (.bool false))⟩,
    ⟨(some 75), none, .mv (.t 74)⟩,
    ⟨(some 76), (some (75, true)), .mv (.t 1)⟩,
    ⟨(some 77), (some (75, true)), .call (.c (.func (.func 12) [] [])) [(.t 76)]⟩,
    ⟨(some 78), (some (75, true)), .bin .eql (.t 77) (.c (.int .i64 (9)))⟩,
    ⟨(some 79), none, .pick (.t 75) (.t 78) (.c (.bool false))⟩,
    ⟨(some 80), none, .mv (.t 79)⟩,
    ⟨(some 81), (some (80, true)), .mv (.t 1)⟩,
    ⟨(some 82), (some (80, true)), .call (.c (.func (.func 14) [] [])) [(.t 81), (.c (.int .i64 (8)))]⟩,
    ⟨(some 83), none, .pick (.t 80) (.t 82) (.c (.bool false))⟩,
    ⟨(some 84), none, .mv (.t 83)⟩,
    ⟨(some 85), (some (84, true)), .mv (.t 1)⟩,
    ⟨(some 86), (some (84, true)), .call (.c (.func (.func 14) [] [])) [(.t 85), (.c (.int .i64 (9)))]⟩,
    ⟨(some 87), (some (84, true)), .not (.t 86)⟩,
    ⟨(some 88), none, .pick (.t 84) (.t 87) (.c (.bool false))⟩,
    ⟨(some 89), none, .mv (.t 88)⟩,
    ⟨(some 90), (some (89, true)), .build [(.int .i64 (0)), (.int .i64 (0))] [(0, 1, (.c (.int .i64 (0)))), (1, 1, (.c (.int .i64 (1))))]⟩,
    ⟨(some 91), (some (89, true)), .build [(.int .i64 (0)), (.int .i64 (0))] [(0, 1, (.c (.int .i64 (1)))), (1, 1, (.c (.int .i64 (1))))]⟩,
    ⟨(some 92), (some (89, true)), .buildSl [(.int .i64 (0)), (.int .i64 (0)), (.int .i64 (0)), (.int .i64 (0))] 2 [(0, 2, (.t 90)), (2, 2, (.t 91))]⟩,
    ⟨(some 93), (some (89, true)), .call (.c (.func (.func 10) [] [])) [(.t 92)]⟩,
    ⟨(some 94), (some (89, true)), .not (.t 93)⟩,
    ⟨(some 95), none, .pick (.t 89) (.t 94) (.c (.bool false))⟩,
    ⟨(some 96), none, .mv (.t 95)⟩,
    ⟨(some 97), (some (96, true)), .buildSl [(.bool false), (.bool false), (.bool false), (.bool false)] 4 [(0, 1, (.c (.bool false))), (1, 1, (.c (.bool true))), (2, 1, (.c (.bool false))), (3, 1, (.c (.bool false)))]⟩,
    ⟨(some 98), (some (96, true)), .call (.c (.func (.func 18) [] [])) [(.t 97)]⟩,
    ⟨(some 99), (some (96, true)), .call (.c (.func (.func 17) [] [])) [(.t 98)]⟩,
    ⟨(some 100), (some (96, true)), .build [(.int .i64 (0)), (.int .i64 (0))] [(0, 1, (.c (.int .i64 (0)))), (1, 1, (.c (.int .i64 (1))))]⟩,
    ⟨(some 101), (some (96, true)), .build [(.int .i64 (0)), (.int .i64 (0))] [(0, 1, (.c (.int .i64 (2)))), (1, 1, (.c (.int .i64 (2))))]⟩,
    ⟨(some 102), (some (96, true)), .buildSl [(.int .i64 (0)), (.int .i64 (0)), (.int .i64 (0)), (.int .i64 (0))] 2 [(0, 2, (.t 100)), (2, 2, (.t 101))]⟩,
    ⟨(some 103), (some (96, true)), .call (.c (.func (.func 16) [] [])) [(.t 99), (.t 102)]⟩,
    ⟨(some 104), none, .pick (.t 96) (.t 103) (.c (.bool false))⟩,
    ⟨(some 0), none, .mv (.t 104)⟩])
  (.ret))))))⟩
theorem a8_ok : funcC Try.prog Try.f8 = some a8 := by kernel_rfl
/-- permafrost/permafrostlaw07.own -/
def a9 : AFunc := ⟨1, [.tmp 2],
  .seq (.ops [⟨(some 2), none, .mv (.c (.slice none 0 0))⟩])
  (.seq (.ops [⟨(some 3), none, .mv (.c (.slice none 0 0))⟩])
  (.seq (.seq (.ops [⟨(some 4), none, .mv (.c (.int .i64 (0)))⟩])
  (.block 0 (.loop (.seq (.seq (.ops [⟨(some 5), none, .mv (.t 4)⟩,
      ⟨(some 6), none, .mv (.t 0)⟩,
      ⟨(some 7), none, .lenSl (.t 6)⟩,
      ⟨(some 8), none, .bin .lss (.t 5) (.t 7)⟩])
    (.cond (.t 8)
     (.skip)
     (.exit 0)))
    (.seq (.block 1 (.draw [⟨⟨(some 11), none, .mv (.t 3)⟩, 0, []⟩,
       ⟨⟨(some 12), none, .mv (.t 0)⟩, 1, []⟩,
       ⟨⟨(some 13), none, .mv (.t 4)⟩, 2, []⟩,
       ⟨⟨(some 14), none, .idxSl 2 (.t 12) (.t 13)⟩, 3, [1, 2]⟩,
       ⟨⟨(some 15), none, .fieldAddr 0 (.t 14)⟩, 4, [1, 2, 3]⟩,
       ⟨⟨(some 16), none, .load none (.t 15)⟩, 5, [1, 2, 3, 4]⟩,
       ⟨⟨(some 17), none, .mv (.t 0)⟩, 6, []⟩,
       ⟨⟨(some 18), none, .mv (.t 4)⟩, 7, []⟩,
       ⟨⟨(some 19), none, .idxSl 2 (.t 17) (.t 18)⟩, 8, [6, 7]⟩,
       ⟨⟨(some 20), none, .fieldAddr 1 (.t 19)⟩, 9, [6, 7, 8]⟩,
       ⟨⟨(some 21), none, .load none (.t 20)⟩, 10, [6, 7, 8, 9]⟩,
       ⟨⟨(some 22), none, .build [(.int .i64 (0)), (.int .i64 (0))] [(0, 1, (.t 16)), (1, 1, (.t 21))]⟩, 11, [1, 2, 3, 4, 5, 6, 7, 8, 9, 10]⟩,
       ⟨⟨(some 23), none, .buildSl [(.int .i64 (0)), (.int .i64 (0))] 1 [(0, 2, (.t 22))]⟩, 12, [1, 2, 3, 4, 5, 6, 7, 8, 9, 10, 11]⟩,
       ⟨⟨(some 24), none, .append 2 16 (.t 11) (.t 23)⟩, 13, [0, 1, 2, 3, 4, 5, 6, 7, 8, 9, 10, 11, 12]⟩,
       ⟨⟨(some 3), none, .mv (.t 24)⟩, 14, [0, 1, 2, 3, 4, 5, 6, 7, 8, 9, 10, 11, 12, 13]⟩]))
    (.ops [⟨(some 9), none, .mv (.t 4)⟩,
      ⟨(some 10), none, .bin .add (.t 9) (.c (.int .i64 (1)))⟩,
      ⟨(some 4), none, .mv (.t 10)⟩]))))))
  (.seq (.ops [⟨(some 25), none, .mv (.t 3)⟩,
    ⟨(some 2), none, .mv (.t 25)⟩])
  (.ret))))⟩
theorem a9_ok : funcC Try.prog Try.f9 = some a9 := by kernel_rfl
/-- permafrost/space.May -/
def a10 : AFunc := ⟨1, [.tmp 2],
  .seq (.ops [⟨(some 2), none, .mv (.c (.bool false))⟩])
  (.seq (.ops [⟨(some 3), none, .mv (.c (.int .i64 (-1)))⟩])
  (.seq (.seq (.ops [⟨(some 6), none, .mv (.t 0)⟩,
    ⟨(some 7), none, .lenSl (.t 6)⟩,
    ⟨(some 8), none, .mv (.c (.int .i64 (0)))⟩])
  (.block 0 (.loop (.seq (.ops [⟨(some 9), none, .bin .lss (.t 8) (.t 7)⟩])
    (.seq (.cond (.t 9)
     (.skip)
     (.exit 0))
    (.seq (.block 1 (.seq (.ops [⟨(some 10), none, .idxSl 2 (.t 6) (.t 8)⟩,
       ⟨(some 11), none, .load (some 2) (.t 10)⟩,
       ⟨(some 5), none, .alloc [(.int .i64 (0)), (.int .i64 (0))]⟩,
       ⟨none, none, .store 2 (.t 5) (.t 11)⟩])
     (.seq (.seq (.ops [⟨(some 12), none, .fieldAddr 0 (.t 5)⟩,
       ⟨(some 13), none, .load none (.t 12)⟩,
       ⟨(some 14), none, .mv (.t 3)⟩,
       ⟨(some 15), none, .bin .leq (.t 13) (.t 14)⟩,
       ⟨(some 16), none, .mv (.t 15)⟩,
       ⟨(some 17), (some (16, false)), .fieldAddr 1 (.t 5)⟩,
       ⟨(some 18), (some (16, false)), .load none (.t 17)⟩,
       ⟨(some 19), (some (16, false)), .bin .lss (.t 18) (.c (.int .i64 (1)))⟩,
       ⟨(some 20), none, .pick (.t 16) (.c (.bool true)) (.t 19)⟩,
       ⟨(some 21), none, .mv (.t 20)⟩,
       ⟨(some 22), (some (21, false)), .fieldAddr 1 (.t 5)⟩,
       ⟨(some 23), (some (21, false)), .load none (.t 22)⟩,
       ⟨(some 24), (some (21, false)), .bin .gtr (.t 23) (.c (.int .i64 (1073741824)))⟩,
       ⟨(some 25), none, .pick (.t 21) (.c (.bool true)) (.t 24)⟩,
       ⟨(some 26), none, .mv (.t 25)⟩,
       ⟨(some 27), (some (26, false)), .fieldAddr 0 (.t 5)⟩,
       ⟨(some 28), (some (26, false)), .load none (.t 27)⟩,
       ⟨(some 29), (some (26, false)), .fieldAddr 1 (.t 5)⟩,
       ⟨(some 30), (some (26, false)), .load none (.t 29)⟩,
       ⟨(some 31), (some (26, false)), .bin .sub (.c (.int .i64 (1073741824))) (.t 30)⟩,
       ⟨(some 32), (some (26, false)), .bin .gtr (.t 28) (.t 31)⟩,
       ⟨(some 33), none, .pick (.t 26) (.c (.bool true)) (.t 32)⟩])
     (.cond (.t 33)
      (.seq (.ops [⟨(some 2), none, .mv (.c (.bool false))⟩])
      (.ret))
      (.skip)))
     (.ops [⟨(some 34), none, .load (some 2) (.t 5)⟩,
       ⟨(some 35), none, .call (.c (.func (.func 24) [] [])) [(.t 34)]⟩,
       ⟨(some 3), none, .mv (.t 35)⟩]))))
    (.ops [⟨(some 36), none, .bin .add (.t 8) (.c (.int .i64 (1)))⟩,
      ⟨(some 8), none, .mv (.t 36)⟩])))))))
  (.seq (.ops [⟨(some 2), none, .mv (.c (.bool true))⟩])
  (.ret))))⟩
theorem a10_ok : funcC Try.prog Try.f10 = some a10 := by kernel_rfl
/-- permafrost/permafrostref07.May -/
def a11 : AFunc := ⟨1, [.tmp 2],
  .seq (.ops [⟨(some 2), none, .mv (.c (.bool false))⟩])
  (.seq (.seq (.ops [⟨(some 3), none, .mv (.c (.int .i64 (0)))⟩])
  (.block 0 (.loop (.seq (.seq (.ops [⟨(some 4), none, .mv (.t 3)⟩,
      ⟨(some 5), none, .mv (.t 0)⟩,
      ⟨(some 6), none, .lenSl (.t 5)⟩,
      ⟨(some 7), none, .bin .lss (.t 4) (.t 6)⟩])
    (.cond (.t 7)
     (.skip)
     (.exit 0)))
    (.seq (.block 1 (.seq (.draw [⟨⟨(some 10), none, .mv (.t 0)⟩, 0, []⟩,
       ⟨⟨(some 11), none, .mv (.t 3)⟩, 1, []⟩,
       ⟨⟨(some 12), none, .idxSl 2 (.t 10) (.t 11)⟩, 2, [0, 1]⟩,
       ⟨⟨(some 13), none, .fieldAddr 0 (.t 12)⟩, 3, [0, 1, 2]⟩,
       ⟨⟨(some 14), none, .load none (.t 13)⟩, 4, [0, 1, 2, 3]⟩,
       ⟨⟨(some 15), none, .bin .lss (.t 14) (.c (.int .i64 (0)))⟩, 5, [0, 1, 2, 3, 4]⟩,
       ⟨⟨(some 16), none, .mv (.t 15)⟩, 6, [0, 1, 2, 3, 4, 5]⟩,
       ⟨⟨(some 17), (some (16, false)), .mv (.t 0)⟩, 7, [0, 1, 2, 3, 4, 5, 6]⟩,
       ⟨⟨(some 18), (some (16, false)), .mv (.t 3)⟩, 8, [0, 1, 2, 3, 4, 5, 6]⟩,
       ⟨⟨(some 19), (some (16, false)), .idxSl 2 (.t 17) (.t 18)⟩, 9, [0, 1, 2, 3, 4, 5, 6, 7, 8]⟩,
       ⟨⟨(some 20), (some (16, false)), .fieldAddr 1 (.t 19)⟩, 10, [0, 1, 2, 3, 4, 5, 6, 7, 8, 9]⟩,
       ⟨⟨(some 21), (some (16, false)), .load none (.t 20)⟩, 11, [0, 1, 2, 3, 4, 5, 6, 7, 8, 9, 10]⟩,
       ⟨⟨(some 22), (some (16, false)), .bin .lss (.t 21) (.c (.int .i64 (1)))⟩, 12, [0, 1, 2, 3, 4, 5, 6, 7, 8, 9, 10, 11]⟩,
       ⟨⟨(some 23), none, .pick (.t 16) (.c (.bool true)) (.t 22)⟩, 13, [0, 1, 2, 3, 4, 5, 6, 7, 8, 9, 10, 11, 12]⟩,
       ⟨⟨(some 24), none, .mv (.t 23)⟩, 14, [0, 1, 2, 3, 4, 5, 6, 7, 8, 9, 10, 11, 12, 13]⟩,
       ⟨⟨(some 25), (some (24, false)), .mv (.t 0)⟩, 15, [0, 1, 2, 3, 4, 5, 6, 7, 8, 9, 10, 11, 12, 13, 14]⟩,
       ⟨⟨(some 26), (some (24, false)), .mv (.t 3)⟩, 16, [0, 1, 2, 3, 4, 5, 6, 7, 8, 9, 10, 11, 12, 13, 14]⟩,
       ⟨⟨(some 27), (some (24, false)), .idxSl 2 (.t 25) (.t 26)⟩, 17, [0, 1, 2, 3, 4, 5, 6, 7, 8, 9, 10, 11, 12, 13, 14, 15, 16]⟩,
       ⟨⟨(some 28), (some (24, false)), .fieldAddr 1 (.t 27)⟩, 18, [0, 1, 2, 3, 4, 5, 6, 7, 8, 9, 10, 11, 12, 13, 14, 15, 16, 17]⟩,
       ⟨⟨(some 29), (some (24, false)), .load none (.t 28)⟩, 19, [0, 1, 2, 3, 4, 5, 6, 7, 8, 9, 10, 11, 12, 13, 14, 15, 16, 17, 18]⟩,
       ⟨⟨(some 30), (some (24, false)), .bin .gtr (.t 29) (.c (.int .i64 (1073741824)))⟩, 20, [0, 1, 2, 3, 4, 5, 6, 7, 8, 9, 10, 11, 12, 13, 14, 15, 16, 17, 18, 19]⟩,
       ⟨⟨(some 31), none, .pick (.t 24) (.c (.bool true)) (.t 30)⟩, 21, [0, 1, 2, 3, 4, 5, 6, 7, 8, 9, 10, 11, 12, 13, 14, 15, 16, 17, 18, 19, 20]⟩,
       ⟨⟨(some 32), none, .mv (.t 31)⟩, 22, [0, 1, 2, 3, 4, 5, 6, 7, 8, 9, 10, 11, 12, 13, 14, 15, 16, 17, 18, 19, 20, 21]⟩,
       ⟨⟨(some 33), (some (32, false)), .mv (.t 0)⟩, 23, [0, 1, 2, 3, 4, 5, 6, 7, 8, 9, 10, 11, 12, 13, 14, 15, 16, 17, 18, 19, 20, 21, 22]⟩,
       ⟨⟨(some 34), (some (32, false)), .mv (.t 3)⟩, 24, [0, 1, 2, 3, 4, 5, 6, 7, 8, 9, 10, 11, 12, 13, 14, 15, 16, 17, 18, 19, 20, 21, 22]⟩,
       ⟨⟨(some 35), (some (32, false)), .idxSl 2 (.t 33) (.t 34)⟩, 25, [0, 1, 2, 3, 4, 5, 6, 7, 8, 9, 10, 11, 12, 13, 14, 15, 16, 17, 18, 19, 20, 21, 22, 23, 24]⟩,
       ⟨⟨(some 36), (some (32, false)), .fieldAddr 0 (.t 35)⟩, 26, [0, 1, 2, 3, 4, 5, 6, 7, 8, 9, 10, 11, 12, 13, 14, 15, 16, 17, 18, 19, 20, 21, 22, 23, 24, 25]⟩,
       ⟨⟨(some 37), (some (32, false)), .load none (.t 36)⟩, 27, [0, 1, 2, 3, 4, 5, 6, 7, 8, 9, 10, 11, 12, 13, 14, 15, 16, 17, 18, 19, 20, 21, 22, 23, 24, 25, 26]⟩,
       ⟨⟨(some 38), (some (32, false)), .mv (.t 0)⟩, 28, [0, 1, 2, 3, 4, 5, 6, 7, 8, 9, 10, 11, 12, 13, 14, 15, 16, 17, 18, 19, 20, 21, 22]⟩,
       ⟨⟨(some 39), (some (32, false)), .mv (.t 3)⟩, 29, [0, 1, 2, 3, 4, 5, 6, 7, 8, 9, 10, 11, 12, 13, 14, 15, 16, 17, 18, 19, 20, 21, 22]⟩,
       ⟨⟨(some 40), (some (32, false)), .idxSl 2 (.t 38) (.t 39)⟩, 30, [0, 1, 2, 3, 4, 5, 6, 7, 8, 9, 10, 11, 12, 13, 14, 15, 16, 17, 18, 19, 20, 21, 22, 28, 29]⟩,
       ⟨⟨(some 41), (some (32, false)), .fieldAddr 1 (.t 40)⟩, 31, [0, 1, 2, 3, 4, 5, 6, 7, 8, 9, 10, 11, 12, 13, 14, 15, 16, 17, 18, 19, 20, 21, 22, 28, 29, 30]⟩,
       ⟨⟨(some 42), (some (32, false)), .load none (.t 41)⟩, 32, [0, 1, 2, 3, 4, 5, 6, 7, 8, 9, 10, 11, 12, 13, 14, 15, 16, 17, 18, 19, 20, 21, 22, 28, 29, 30, 31]⟩,
       ⟨⟨(some 43), (some (32, false)), .bin .sub (.c (.int .i64 (1073741824))) (.t 42)⟩, 33, [0, 1, 2, 3, 4, 5, 6, 7, 8, 9, 10, 11, 12, 13, 14, 15, 16, 17, 18, 19, 20, 21, 22, 28, 29, 30, 31, 32]⟩,
       ⟨⟨(some 44), (some (32, false)), .bin .gtr (.t 37) (.t 43)⟩, 34, [0, 1, 2, 3, 4, 5, 6, 7, 8, 9, 10, 11, 12, 13, 14, 15, 16, 17, 18, 19, 20, 21, 22, 23, 24, 25, 26, 27, 28, 29, 30, 31, 32, 33]⟩,
       ⟨⟨(some 45), none, .pick (.t 32) (.c (.bool true)) (.t 44)⟩, 35, [0, 1, 2, 3, 4, 5, 6, 7, 8, 9, 10, 11, 12, 13, 14, 15, 16, 17, 18, 19, 20, 21, 22, 23, 24, 25, 26, 27, 28, 29, 30, 31, 32, 33, 34]⟩,
       ⟨⟨(some 46), none, .mv (.t 45)⟩, 36, [0, 1, 2, 3, 4, 5, 6, 7, 8, 9, 10, 11, 12, 13, 14, 15, 16, 17, 18, 19, 20, 21, 22, 23, 24, 25, 26, 27, 28, 29, 30, 31, 32, 33, 34, 35]⟩,
       ⟨⟨(some 47), (some (46, false)), .mv (.t 3)⟩, 37, [0, 1, 2, 3, 4, 5, 6, 7, 8, 9, 10, 11, 12, 13, 14, 15, 16, 17, 18, 19, 20, 21, 22, 23, 24, 25, 26, 27, 28, 29, 30, 31, 32, 33, 34, 35, 36]⟩,
       ⟨⟨(some 48), (some (46, false)), .bin .gtr (.t 47) (.c (.int .i64 (0)))⟩, 38, [0, 1, 2, 3, 4, 5, 6, 7, 8, 9, 10, 11, 12, 13, 14, 15, 16, 17, 18, 19, 20, 21, 22, 23, 24, 25, 26, 27, 28, 29, 30, 31, 32, 33, 34, 35, 36, 37]⟩,
       ⟨⟨(some 49), (some (46, false)), .mv (.t 48)⟩, 39, [0, 1, 2, 3, 4, 5, 6, 7, 8, 9, 10, 11, 12, 13, 14, 15, 16, 17, 18, 19, 20, 21, 22, 23, 24, 25, 26, 27, 28, 29, 30, 31, 32, 33, 34, 35, 36, 37, 38]⟩,
       ⟨⟨(some 50), (some (49, true)), .mv (.t 0)⟩, 40, [0, 1, 2, 3, 4, 5, 6, 7, 8, 9, 10, 11, 12, 13, 14, 15, 16, 17, 18, 19, 20, 21, 22, 23, 24, 25, 26, 27, 28, 29, 30, 31, 32, 33, 34, 35, 36, 37, 38, 39]⟩,
       ⟨⟨(some 51), (some (49, true)), .mv (.t 3)⟩, 41, [0, 1, 2, 3, 4, 5, 6, 7, 8, 9, 10, 11, 12, 13, 14, 15, 16, 17, 18, 19, 20, 21, 22, 23, 24, 25, 26, 27, 28, 29, 30, 31, 32, 33, 34, 35, 36, 37, 38, 39]⟩,
       ⟨⟨(some 52), (some (49, true)), .idxSl 2 (.t 50) (.t 51)⟩, 42, [0, 1, 2, 3, 4, 5, 6, 7, 8, 9, 10, 11, 12, 13, 14, 15, 16, 17, 18, 19, 20, 21, 22, 23, 24, 25, 26, 27, 28, 29, 30, 31, 32, 33, 34, 35, 36, 37, 38, 39, 40, 41]⟩,
       ⟨⟨(some 53), (some (49, true)), .fieldAddr 0 (.t 52)⟩, 43, [0, 1, 2, 3, 4, 5, 6, 7, 8, 9, 10, 11, 12, 13, 14, 15, 16, 17, 18, 19, 20, 21, 22, 23, 24, 25, 26, 27, 28, 29, 30, 31, 32, 33, 34, 35, 36, 37, 38, 39, 40, 41, 42]⟩,
       ⟨⟨(some 54), (some (49, true)), .load none (.t 53)⟩, 44, [0, 1, 2, 3, 4, 5, 6, 7, 8, 9, 10, 11, 12, 13, 14, 15, 16, 17, 18, 19, 20, 21, 22, 23, 24, 25, 26, 27, 28, 29, 30, 31, 32, 33, 34, 35, 36, 37, 38, 39, 40, 41, 42, 43]⟩,
       ⟨⟨(some 55), (some (49, true)), .mv (.t 0)⟩, 45, [0, 1, 2, 3, 4, 5, 6, 7, 8, 9, 10, 11, 12, 13, 14, 15, 16, 17, 18, 19, 20, 21, 22, 23, 24, 25, 26, 27, 28, 29, 30, 31, 32, 33, 34, 35, 36, 37, 38, 39]⟩,
       ⟨⟨(some 56), (some (49, true)), .mv (.t 3)⟩, 46, [0, 1, 2, 3, 4, 5, 6, 7, 8, 9, 10, 11, 12, 13, 14, 15, 16, 17, 18, 19, 20, 21, 22, 23, 24, 25, 26, 27, 28, 29, 30, 31, 32, 33, 34, 35, 36, 37, 38, 39]⟩,
       ⟨⟨(some 57), (some (49, true)), .bin .sub (.t 56) (.c (.int .i64 (1)))⟩, 47, [0, 1, 2, 3, 4, 5, 6, 7, 8, 9, 10, 11, 12, 13, 14, 15, 16, 17, 18, 19, 20, 21, 22, 23, 24, 25, 26, 27, 28, 29, 30, 31, 32, 33, 34, 35, 36, 37, 38, 39, 46]⟩,
       ⟨⟨(some 58), (some (49, true)), .idxSl 2 (.t 55) (.t 57)⟩, 48, [0, 1, 2, 3, 4, 5, 6, 7, 8, 9, 10, 11, 12, 13, 14, 15, 16, 17, 18, 19, 20, 21, 22, 23, 24, 25, 26, 27, 28, 29, 30, 31, 32, 33, 34, 35, 36, 37, 38, 39, 45, 46, 47]⟩,
       ⟨⟨(some 59), (some (49, true)), .fieldAddr 0 (.t 58)⟩, 49, [0, 1, 2, 3, 4, 5, 6, 7, 8, 9, 10, 11, 12, 13, 14, 15, 16, 17, 18, 19, 20, 21, 22, 23, 24, 25, 26, 27, 28, 29, 30, 31, 32, 33, 34, 35, 36, 37, 38, 39, 45, 46, 47, 48]⟩,
       ⟨⟨(some 60), (some (49, true)), .load none (.t 59)⟩, 50, [0, 1, 2, 3, 4, 5, 6, 7, 8, 9, 10, 11, 12, 13, 14, 15, 16, 17, 18, 19, 20, 21, 22, 23, 24, 25, 26, 27, 28, 29, 30, 31, 32, 33, 34, 35, 36, 37, 38, 39, 45, 46, 47, 48, 49]⟩,
       ⟨⟨(some 61), (some (49, true)), .mv (.t 0)⟩, 51, [0, 1, 2, 3, 4, 5, 6, 7, 8, 9, 10, 11, 12, 13, 14, 15, 16, 17, 18, 19, 20, 21, 22, 23, 24, 25, 26, 27, 28, 29, 30, 31, 32, 33, 34, 35, 36, 37, 38, 39]⟩,
       ⟨⟨(some 62), (some (49, true)), .mv (.t 3)⟩, 52, [0, 1, 2, 3, 4, 5, 6, 7, 8, 9, 10, 11, 12, 13, 14, 15, 16, 17, 18, 19, 20, 21, 22, 23, 24, 25, 26, 27, 28, 29, 30, 31, 32, 33, 34, 35, 36, 37, 38, 39]⟩,
       ⟨⟨(some 63), (some (49, true)), .bin .sub (.t 62) (.c (.int .i64 (1)))⟩, 53, [0, 1, 2, 3, 4, 5, 6, 7, 8, 9, 10, 11, 12, 13, 14, 15, 16, 17, 18, 19, 20, 21, 22, 23, 24, 25, 26, 27, 28, 29, 30, 31, 32, 33, 34, 35, 36, 37, 38, 39, 52]⟩,
       ⟨⟨(some 64), (some (49, true)), .idxSl 2 (.t 61) (.t 63)⟩, 54, [0, 1, 2, 3, 4, 5, 6, 7, 8, 9, 10, 11, 12, 13, 14, 15, 16, 17, 18, 19, 20, 21, 22, 23, 24, 25, 26, 27, 28, 29, 30, 31, 32, 33, 34, 35, 36, 37, 38, 39, 51, 52, 53]⟩,
       ⟨⟨(some 65), (some (49, true)), .fieldAddr 1 (.t 64)⟩, 55, [0, 1, 2, 3, 4, 5, 6, 7, 8, 9, 10, 11, 12, 13, 14, 15, 16, 17, 18, 19, 20, 21, 22, 23, 24, 25, 26, 27, 28, 29, 30, 31, 32, 33, 34, 35, 36, 37, 38, 39, 51, 52, 53, 54]⟩,
       ⟨⟨(some 66), (some (49, true)), .load none (.t 65)⟩, 56, [0, 1, 2, 3, 4, 5, 6, 7, 8, 9, 10, 11, 12, 13, 14, 15, 16, 17, 18, 19, 20, 21, 22, 23, 24, 25, 26, 27, 28, 29, 30, 31, 32, 33, 34, 35, 36, 37, 38, 39, 51, 52, 53, 54, 55]⟩,
       ⟨⟨(some 67), (some (49, true)), .bin .add (.t 60) (.t 66)⟩, 57, [0, 1, 2, 3, 4, 5, 6, 7, 8, 9, 10, 11, 12, 13, 14, 15, 16, 17, 18, 19, 20, 21, 22, 23, 24, 25, 26, 27, 28, 29, 30, 31, 32, 33, 34, 35, 36, 37, 38, 39, 45, 46, 47, 48, 49, 50, 51, 52, 53, 54, 55, 56]⟩,
       ⟨⟨(some 68), (some (49, true)), .bin .leq (.t 54) (.t 67)⟩, 58, [0, 1, 2, 3, 4, 5, 6, 7, 8, 9, 10, 11, 12, 13, 14, 15, 16, 17, 18, 19, 20, 21, 22, 23, 24, 25, 26, 27, 28, 29, 30, 31, 32, 33, 34, 35, 36, 37, 38, 39, 40, 41, 42, 43, 44, 45, 46, 47, 48, 49, 50, 51, 52, 53, 54, 55, 56, 57]⟩,
       ⟨⟨(some 69), (some (46, false)), .pick (.t 49) (.t 68) (.c (.bool false))⟩, 59, [0, 1, 2, 3, 4, 5, 6, 7, 8, 9, 10, 11, 12, 13, 14, 15, 16, 17, 18, 19, 20, 21, 22, 23, 24, 25, 26, 27, 28, 29, 30, 31, 32, 33, 34, 35, 36, 37, 38, 39, 40, 41, 42, 43, 44, 45, 46, 47, 48, 49, 50, 51, 52, 53, 54, 55, 56, 57, 58]⟩,
       ⟨⟨(some 70), none, .pick (.t 46) (.c (.bool true)) (.t 69)⟩, 60, [0, 1, 2, 3, 4, 5, 6, 7, 8, 9, 10, 11, 12, 13, 14, 15, 16, 17, 18, 19, 20, 21, 22, 23, 24, 25, 26, 27, 28, 29, 30, 31, 32, 33, 34, 35, 36, 37, 38, 39, 40, 41, 42, 43, 44, 45, 46, 47, 48, 49, 50, 51, 52, 53, 54, 55, 56, 57, 58, 59]⟩])
     (.cond (.t 70)
      (.seq (.ops [⟨(some 2), none, .mv (.c (.bool false))⟩])
      (.ret))
      (.skip))))
    (.ops [⟨(some 8), none, .mv (.t 3)⟩,
      ⟨(some 9), none, .bin .add (.t 8) (.c (.int .i64 (1)))⟩,
      ⟨(some 3), none, .mv (.t 9)⟩]))))))
  (.seq (.ops [⟨(some 2), none, .mv (.c (.bool true))⟩])
  (.ret)))⟩
theorem a11_ok : funcC Try.prog Try.f11 = some a11 := by kernel_rfl
/-- permafrost/space.Total -/
def a12 : AFunc := ⟨1, [.tmp 2],
  .seq (.ops [⟨(some 2), none, .mv (.c (.int .i64 (0)))⟩])
  (.seq (.ops [⟨(some 3), none, .mv (.c (.int .i64 (0)))⟩])
  (.seq (.seq (.ops [⟨(some 6), none, .mv (.t 0)⟩,
    ⟨(some 7), none, .call (.c (.func (.func 10) [] [])) [(.t 6)]⟩])
  (.cond (.t 7)
   (.seq (.ops [⟨(some 8), none, .mv (.t 0)⟩,
     ⟨(some 9), none, .lenSl (.t 8)⟩,
     ⟨(some 10), none, .mv (.c (.int .i64 (0)))⟩])
   (.block 0 (.loop (.seq (.ops [⟨(some 11), none, .bin .lss (.t 10) (.t 9)⟩])
     (.seq (.cond (.t 11)
      (.skip)
      (.exit 0))
     (.seq (.block 1 (.seq (.ops [⟨(some 12), none, .idxSl 2 (.t 8) (.t 10)⟩,
        ⟨(some 13), none, .load (some 2) (.t 12)⟩,
        ⟨(some 5), none, .alloc [(.int .i64 (0)), (.int .i64 (0))]⟩,
        ⟨none, none, .store 2 (.t 5) (.t 13)⟩])
      (.ops [⟨(some 14), none, .mv (.t 3)⟩,
        ⟨(some 15), none, .fieldAddr 1 (.t 5)⟩,
        ⟨(some 16), none, .load none (.t 15)⟩,
        ⟨(some 17), none, .bin .add (.t 14) (.t 16)⟩,
        ⟨(some 3), none, .mv (.t 17)⟩])))
     (.ops [⟨(some 18), none, .bin .add (.t 10) (.c (.int .i64 (1)))⟩,
       ⟨(some 10), none, .mv (.t 18)⟩])))))))
   (.skip)))
  (.seq (.ops [⟨(some 19), none, .mv (.t 3)⟩,
    ⟨(some 2), none, .mv (.t 19)⟩])
  (.ret))))⟩
theorem a12_ok : funcC Try.prog Try.f12 = some a12 := by kernel_rfl
/-- permafrost/permafrostref07.Total -/
def a13 : AFunc := ⟨1, [.tmp 2],
  .seq (.ops [⟨(some 2), none, .mv (.c (.int .i64 (0)))⟩])
  (.seq (.ops [⟨(some 3), none, .mv (.c (.int .i64 (0)))⟩])
  (.seq (.seq (.ops [⟨(some 4), none, .mv (.c (.int .i64 (0)))⟩])
  (.block 0 (.loop (.seq (.seq (.ops [⟨(some 5), none, .mv (.t 4)⟩,
      ⟨(some 6), none, .mv (.t 0)⟩,
      ⟨(some 7), none, .lenSl (.t 6)⟩,
      ⟨(some 8), none, .bin .lss (.t 5) (.t 7)⟩,
      ⟨(some 9), none, .mv (.t 8)⟩,
      ⟨(some 10), (some (9, true)), .mv (.t 0)⟩,
      ⟨(some 11), (some (9, true)), .call (.c (.func (.func 11) [] [])) [(.t 10)]⟩,
      ⟨(some 12), none, .pick (.t 9) (.t 11) (.c (.bool false))⟩])
    (.cond (.t 12)
     (.skip)
     (.exit 0)))
    (.seq (.block 1 (.ops [⟨(some 15), none, .mv (.t 3)⟩,
       ⟨(some 16), none, .mv (.t 0)⟩,
       ⟨(some 17), none, .mv (.t 4)⟩,
       ⟨(some 18), none, .idxSl 2 (.t 16) (.t 17)⟩,
       ⟨(some 19), none, .fieldAddr 1 (.t 18)⟩,
       ⟨(some 20), none, .load none (.t 19)⟩,
       ⟨(some 21), none, .bin .add (.t 15) (.t 20)⟩,
       ⟨(some 3), none, .mv (.t 21)⟩]))
    (.ops [⟨(some 13), none, .mv (.t 4)⟩,
      ⟨(some 14), none, .bin .add (.t 13) (.c (.int .i64 (1)))⟩,
      ⟨(some 4), none, .mv (.t 14)⟩]))))))
  (.seq (.ops [⟨(some 22), none, .mv (.t 3)⟩,
    ⟨(some 2), none, .mv (.t 22)⟩])
  (.ret))))⟩
theorem a13_ok : funcC Try.prog Try.f13 = some a13 := by kernel_rfl
/-- permafrost/space.Has -/
def a14 : AFunc := ⟨2, [.tmp 4],
  .seq (.ops [⟨(some 3), none, .box (.t 1)⟩,
    ⟨(some 4), none, .mv (.c (.bool false))⟩])
  (.seq (.ops [⟨(some 5), none, .mv (.t 0)⟩,
    ⟨(some 6), none, .call (.c (.func (.func 10) [] [])) [(.t 5)]⟩,
    ⟨(some 7), none, .mv (.t 6)⟩,
    ⟨(some 8), (some (7, true)), .mv (.t 0)⟩,
    ⟨(some 9), (some (7, true)), .mkFn (.func 26) [] [(.t 3)]⟩,
    ⟨(some 10), (some (7, true)), .call (.c (.func (.func 25) [] [])) [(.t 8), (.t 9)]⟩,
    ⟨(some 11), none, .pick (.t 7) (.t 10) (.c (.bool false))⟩,
    ⟨(some 4), none, .mv (.t 11)⟩])
  (.ret))⟩
theorem a14_ok : funcC Try.prog Try.f14 = some a14 := by kernel_rfl
/-- permafrost/permafrostref07.Has -/
def a15 : AFunc := ⟨2, [.tmp 4],
  .seq (.ops [⟨(some 4), none, .mv (.c (.bool false))⟩])
  (.seq (.seq (.ops [⟨(some 5), none, .mv (.c (.int .i64 (0)))⟩])
  (.block 0 (.loop (.seq (.seq (.ops [⟨(some 6), none, .mv (.t 5)⟩,
      ⟨(some 7), none, .mv (.t 0)⟩,
      ⟨(some 8), none, .lenSl (.t 7)⟩,
      ⟨(some 9), none, .bin .lss (.t 6) (.t 8)⟩,
      ⟨(some 10), none, .mv (.t 9)⟩,
      ⟨(some 11), (some (10, true)), .mv (.t 0)⟩,
      ⟨(some 12), (some (10, true)), .call (.c (.func (.func 11) [] [])) [(.t 11)]⟩,
      ⟨(some 13), none, .pick (.t 10) (.t 12) (.c (.bool false))⟩])
    (.cond (.t 13)
     (.skip)
     (.exit 0)))
    (.seq (.block 1 (.seq (.draw [⟨⟨(some 16), none, .mv (.t 1)⟩, 0, []⟩,
       ⟨⟨(some 17), none, .mv (.t 0)⟩, 1, []⟩,
       ⟨⟨(some 18), none, .mv (.t 5)⟩, 2, []⟩,
       ⟨⟨(some 19), none, .idxSl 2 (.t 17) (.t 18)⟩, 3, [1, 2]⟩,
       ⟨⟨(some 20), none, .fieldAddr 0 (.t 19)⟩, 4, [1, 2, 3]⟩,
       ⟨⟨(some 21), none, .load none (.t 20)⟩, 5, [1, 2, 3, 4]⟩,
       ⟨⟨(some 22), none, .bin .geq (.t 16) (.t 21)⟩, 6, [0, 1, 2, 3, 4, 5]⟩,
       ⟨⟨(some 23), none, .mv (.t 22)⟩, 7, [0, 1, 2, 3, 4, 5, 6]⟩,
       ⟨⟨(some 24), (some (23, true)), .mv (.t 1)⟩, 8, [0, 1, 2, 3, 4, 5, 6, 7]⟩,
       ⟨⟨(some 25), (some (23, true)), .mv (.t 0)⟩, 9, [0, 1, 2, 3, 4, 5, 6, 7]⟩,
       ⟨⟨(some 26), (some (23, true)), .mv (.t 5)⟩, 10, [0, 1, 2, 3, 4, 5, 6, 7]⟩,
       ⟨⟨(some 27), (some (23, true)), .idxSl 2 (.t 25) (.t 26)⟩, 11, [0, 1, 2, 3, 4, 5, 6, 7, 9, 10]⟩,
       ⟨⟨(some 28), (some (23, true)), .fieldAddr 0 (.t 27)⟩, 12, [0, 1, 2, 3, 4, 5, 6, 7, 9, 10, 11]⟩,
       ⟨⟨(some 29), (some (23, true)), .load none (.t 28)⟩, 13, [0, 1, 2, 3, 4, 5, 6, 7, 9, 10, 11, 12]⟩,
       ⟨⟨(some 30), (some (23, true)), .mv (.t 0)⟩, 14, [0, 1, 2, 3, 4, 5, 6, 7]⟩,
       ⟨⟨(some 31), (some (23, true)), .mv (.t 5)⟩, 15, [0, 1, 2, 3, 4, 5, 6, 7]⟩,
       ⟨⟨(some 32), (some (23, true)), .idxSl 2 (.t 30) (.t 31)⟩, 16, [0, 1, 2, 3, 4, 5, 6, 7, 14, 15]⟩,
       ⟨⟨(some 33), (some (23, true)), .fieldAddr 1 (.t 32)⟩, 17, [0, 1, 2, 3, 4, 5, 6, 7, 14, 15, 16]⟩,
       ⟨⟨(some 34), (some (23, true)), .load none (.t 33)⟩, 18, [0, 1, 2, 3, 4, 5, 6, 7, 14, 15, 16, 17]⟩,
       ⟨⟨(some 35), (some (23, true)), .bin .add (.t 29) (.t 34)⟩, 19, [0, 1, 2, 3, 4, 5, 6, 7, 9, 10, 11, 12, 13, 14, 15, 16, 17, 18]⟩,
       ⟨⟨(some 36), (some (23, true)), .bin .lss (.t 24) (.t 35)⟩, 20, [0, 1, 2, 3, 4, 5, 6, 7, 8, 9, 10, 11, 12, 13, 14, 15, 16, 17, 18, 19]⟩,
       ⟨⟨(some 37), none, .pick (.t 23) (.t 36) (.c (.bool false))⟩, 21, [0, 1, 2, 3, 4, 5, 6, 7, 8, 9, 10, 11, 12, 13, 14, 15, 16, 17, 18, 19, 20]⟩])
     (.cond (.t 37)
      (.seq (.ops [⟨(some 4), none, .mv (.c (.bool true))⟩])
      (.ret))
      (.skip))))
    (.ops [⟨(some 14), none, .mv (.t 5)⟩,
      ⟨(some 15), none, .bin .add (.t 14) (.c (.int .i64 (1)))⟩,
      ⟨(some 5), none, .mv (.t 15)⟩]))))))
  (.seq (.ops [⟨(some 4), none, .mv (.c (.bool false))⟩])
  (.ret)))⟩
theorem a15_ok : funcC Try.prog Try.f15 = some a15 := by kernel_rfl
/-- permafrost/permafrostref07.Same -/
def a16 : AFunc := ⟨2, [.tmp 4],
  .seq (.ops [⟨(some 4), none, .mv (.c (.bool false))⟩])
  (.seq (.seq (.ops [⟨(some 6), none, .mv (.t 0)⟩,
    ⟨(some 7), none, .lenSl (.t 6)⟩,
    ⟨(some 8), none, .mv (.t 1)⟩,
    ⟨(some 9), none, .lenSl (.t 8)⟩,
    ⟨(some 10), none, .bin .neq (.t 7) (.t 9)⟩])
  (.cond (.t 10)
   (.seq (.ops [⟨(some 4), none, .mv (.c (.bool false))⟩])
   (.ret))
   (.skip)))
  (.seq (.seq (.ops [⟨(some 5), none, .mv (.c (.int .i64 (0)))⟩])
  (.block 0 (.loop (.seq (.seq (.ops [⟨(some 11), none, .mv (.t 5)⟩,
      ⟨(some 12), none, .mv (.t 0)⟩,
      ⟨(some 13), none, .lenSl (.t 12)⟩,
      ⟨(some 14), none, .bin .lss (.t 11) (.t 13)⟩])
    (.cond (.t 14)
     (.skip)
     (.exit 0)))
    (.seq (.block 1 (.seq (.draw [⟨⟨(some 17), none, .mv (.t 0)⟩, 0, []⟩,
       ⟨⟨(some 18), none, .mv (.t 5)⟩, 1, []⟩,
       ⟨⟨(some 19), none, .idxSl 2 (.t 17) (.t 18)⟩, 2, [0, 1]⟩,
       ⟨⟨(some 20), none, .load (some 2) (.t 19)⟩, 3, [0, 1, 2]⟩,
       ⟨⟨(some 21), none, .mv (.t 1)⟩, 4, []⟩,
       ⟨⟨(some 22), none, .mv (.t 5)⟩, 5, []⟩,
       ⟨⟨(some 23), none, .idxSl 2 (.t 21) (.t 22)⟩, 6, [4, 5]⟩,
       ⟨⟨(some 24), none, .load (some 2) (.t 23)⟩, 7, [4, 5, 6]⟩,
       ⟨⟨(some 25), none, .eq true (.struct [(0, none, (.flat .int)), (1, none, (.flat .int))]) (.t 20) (.t 24)⟩, 8, [0, 1, 2, 3, 4, 5, 6, 7]⟩])
     (.cond (.t 25)
      (.seq (.ops [⟨(some 4), none, .mv (.c (.bool false))⟩])
      (.ret))
      (.skip))))
    (.ops [⟨(some 15), none, .mv (.t 5)⟩,
      ⟨(some 16), none, .bin .add (.t 15) (.c (.int .i64 (1)))⟩,
      ⟨(some 5), none, .mv (.t 16)⟩]))))))
  (.seq (.ops [⟨(some 4), none, .mv (.c (.bool true))⟩])
  (.ret))))⟩
theorem a16_ok : funcC Try.prog Try.f16 = some a16 := by kernel_rfl
/-- permafrost/permafrostlaw07.told -/
def a17 : AFunc := ⟨1, [.tmp 2],
  .seq (.ops [⟨(some 2), none, .mv (.c (.slice none 0 0))⟩])
  (.seq (.ops [⟨(some 3), none, .mv (.c (.slice none 0 0))⟩])
  (.seq (.seq (.ops [⟨(some 4), none, .mv (.c (.int .i64 (0)))⟩])
  (.block 0 (.loop (.seq (.seq (.ops [⟨(some 5), none, .mv (.t 4)⟩,
      ⟨(some 6), none, .mv (.t 0)⟩,
      ⟨(some 7), none, .lenSl (.t 6)⟩,
      ⟨(some 8), none, .bin .lss (.t 5) (.t 7)⟩])
    (.cond (.t 8)
     (.skip)
     (.exit 0)))
    (.seq (.block 1 (.draw [⟨⟨(some 11), none, .mv (.t 3)⟩, 0, []⟩,
       ⟨⟨(some 12), none, .mv (.t 0)⟩, 1, []⟩,
       ⟨⟨(some 13), none, .mv (.t 4)⟩, 2, []⟩,
       ⟨⟨(some 14), none, .idxSl 2 (.t 12) (.t 13)⟩, 3, [1, 2]⟩,
       ⟨⟨(some 15), none, .fieldAddr 0 (.t 14)⟩, 4, [1, 2, 3]⟩,
       ⟨⟨(some 16), none, .load none (.t 15)⟩, 5, [1, 2, 3, 4]⟩,
       ⟨⟨(some 17), none, .mv (.t 0)⟩, 6, []⟩,
       ⟨⟨(some 18), none, .mv (.t 4)⟩, 7, []⟩,
       ⟨⟨(some 19), none, .idxSl 2 (.t 17) (.t 18)⟩, 8, [6, 7]⟩,
       ⟨⟨(some 20), none, .fieldAddr 1 (.t 19)⟩, 9, [6, 7, 8]⟩,
       ⟨⟨(some 21), none, .load none (.t 20)⟩, 10, [6, 7, 8, 9]⟩,
       ⟨⟨(some 22), none, .build [(.int .i64 (0)), (.int .i64 (0))] [(0, 1, (.t 16)), (1, 1, (.t 21))]⟩, 11, [1, 2, 3, 4, 5, 6, 7, 8, 9, 10]⟩,
       ⟨⟨(some 23), none, .buildSl [(.int .i64 (0)), (.int .i64 (0))] 1 [(0, 2, (.t 22))]⟩, 12, [1, 2, 3, 4, 5, 6, 7, 8, 9, 10, 11]⟩,
       ⟨⟨(some 24), none, .append 2 16 (.t 11) (.t 23)⟩, 13, [0, 1, 2, 3, 4, 5, 6, 7, 8, 9, 10, 11, 12]⟩,
       ⟨⟨(some 3), none, .mv (.t 24)⟩, 14, [0, 1, 2, 3, 4, 5, 6, 7, 8, 9, 10, 11, 12, 13]⟩]))
    (.ops [⟨(some 9), none, .mv (.t 4)⟩,
      ⟨(some 10), none, .bin .add (.t 9) (.c (.int .i64 (1)))⟩,
      ⟨(some 4), none, .mv (.t 10)⟩]))))))
  (.seq (.ops [⟨(some 25), none, .mv (.t 3)⟩,
    ⟨(some 2), none, .mv (.t 25)⟩])
  (.ret))))⟩
theorem a17_ok : funcC Try.prog Try.f17 = some a17 := by kernel_rfl
/-- permafrost/space.Of -/
def a18 : AFunc := ⟨1, [.tmp 2],
  .seq (.ops [⟨(some 2), none, .mv (.c (.slice none 0 0))⟩])
  (.seq (.ops [⟨(some 3), none, .mv (.c (.slice none 0 0))⟩])
  (.seq (.seq (.ops [⟨(some 7), none, .mv (.t 0)⟩,
    ⟨(some 8), none, .lenSl (.t 7)⟩,
    ⟨(some 9), none, .mv (.c (.int .i64 (0)))⟩])
  (.block 0 (.loop (.seq (.ops [⟨(some 10), none, .bin .lss (.t 9) (.t 8)⟩])
    (.seq (.cond (.t 10)
     (.skip)
     (.exit 0))
    (.seq (.block 1 (.seq (.ops [⟨(some 11), none, .mv (.t 9)⟩,
       ⟨(some 12), none, .idxSl 1 (.t 7) (.t 9)⟩,
       ⟨(some 13), none, .load none (.t 12)⟩,
       ⟨(some 4), none, .mv (.t 11)⟩,
       ⟨(some 5), none, .mv (.t 13)⟩])
     (.seq (.ops [⟨(some 14), none, .mv (.t 3)⟩,
       ⟨(some 15), none, .lenSl (.t 14)⟩,
       ⟨(some 6), none, .mv (.t 15)⟩])
     (.block 2 (.seq (.ops [⟨(some 22), none, .mv (.t 5)⟩,
        ⟨(some 21), none, .mv (.t 22)⟩])
      (.cond (.t 21)
       (.skip)
       (.seq (.ops [⟨(some 24), none, .mv (.t 6)⟩,
         ⟨(some 25), none, .bin .gtr (.t 24) (.c (.int .i64 (0)))⟩,
         ⟨(some 26), none, .mv (.t 25)⟩,
         ⟨(some 27), (some (26, true)), .mv (.t 3)⟩,
         ⟨(some 28), (some (26, true)), .mv (.t 6)⟩,
         ⟨(some 29), (some (26, true)), .bin .sub (.t 28) (.c (.int .i64 (1)))⟩,
         ⟨(some 30), (some (26, true)), .idxSl 2 (.t 27) (.t 29)⟩,
         ⟨(some 31), (some (26, true)), .load (some 2) (.t 30)⟩,
         ⟨(some 32), (some (26, true)), .call (.c (.func (.func 24) [] [])) [(.t 31)]⟩,
         ⟨(some 33), (some (26, true)), .mv (.t 4)⟩,
         ⟨(some 34), (some (26, true)), .bin .eql (.t 32) (.t 33)⟩,
         ⟨(some 35), none, .pick (.t 26) (.t 34) (.c (.bool false))⟩,
         ⟨(some 23), none, .mv (.t 35)⟩])
       (.cond (.t 23)
        (.ops [⟨(some 36), none, .mv (.t 3)⟩,
          ⟨(some 37), none, .mv (.t 6)⟩,
          ⟨(some 38), none, .bin .sub (.t 37) (.c (.int .i64 (1)))⟩,
          ⟨(some 39), none, .idxSl 2 (.t 36) (.t 38)⟩,
          ⟨(some 40), none, .fieldAddr 1 (.t 39)⟩,
          ⟨(some 41), none, .load none (.t 40)⟩,
          ⟨(some 42), none, .bin .add (.t 41) (.c (.int .i64 (1)))⟩,
          ⟨(some 43), none, .idxSl 2 (.t 36) (.t 38)⟩,
          ⟨(some 44), none, .fieldAddr 1 (.t 43)⟩,
          ⟨none, none, .store 1 (.t 44) (.t 42)⟩])
        (.ops [⟨(some 16), none, .mv (.t 3)⟩,
          ⟨(some 17), none, .mv (.t 4)⟩,
          ⟨(some 18), none, .build [(.int .i64 (0)), (.int .i64 (0))] [(0, 1, (.t 17)), (1, 1, (.c (.int .i64 (1))))]⟩,
          ⟨(some 19), none, .buildSl [(.int .i64 (0)), (.int .i64 (0))] 1 [(0, 2, (.t 18))]⟩,
          ⟨(some 20), none, .append 2 16 (.t 16) (.t 19)⟩,
          ⟨(some 3), none, .mv (.t 20)⟩])))))))))
    (.ops [⟨(some 45), none, .bin .add (.t 9) (.c (.int .i64 (1)))⟩,
      ⟨(some 9), none, .mv (.t 45)⟩])))))))
  (.seq (.ops [⟨(some 46), none, .mv (.t 3)⟩,
    ⟨(some 2), none, .mv (.t 46)⟩])
  (.ret))))⟩
theorem a18_ok : funcC Try.prog Try.f18 = some a18 := by kernel_rfl
/-- permafrost/permafrostref07.Of -/
def a19 : AFunc := ⟨1, [.tmp 2],
  .seq (.ops [⟨(some 2), none, .mv (.c (.slice none 0 0))⟩])
  (.seq (.ops [⟨(some 3), none, .mv (.c (.slice none 0 0))⟩])
  (.seq (.seq (.ops [⟨(some 4), none, .mv (.c (.int .i64 (0)))⟩])
  (.block 0 (.loop (.seq (.seq (.ops [⟨(some 5), none, .mv (.t 4)⟩,
      ⟨(some 6), none, .mv (.t 0)⟩,
      ⟨(some 7), none, .lenSl (.t 6)⟩,
      ⟨(some 8), none, .bin .lss (.t 5) (.t 7)⟩])
    (.cond (.t 8)
     (.skip)
     (.exit 0)))
    (.seq (.block 1 (.seq (.seq (.ops [⟨(some 11), none, .mv (.t 0)⟩,
       ⟨(some 12), none, .mv (.t 4)⟩,
       ⟨(some 13), none, .idxSl 1 (.t 11) (.t 12)⟩,
       ⟨(some 14), none, .load none (.t 13)⟩])
     (.cond (.t 14)
      (.exit 1)
      (.skip)))
     (.seq (.ops [⟨(some 15), none, .mv (.t 4)⟩,
       ⟨(some 16), none, .bin .gtr (.t 15) (.c (.int .i64 (0)))⟩,
       ⟨(some 17), none, .mv (.t 16)⟩,
       ⟨(some 18), (some (17, true)), .mv (.t 0)⟩,
       ⟨(some 19), (some (17, true)), .mv (.t 4)⟩,
       ⟨(some 20), (some (17, true)), .bin .sub (.t 19) (.c (.int .i64 (1)))⟩,
       ⟨(some 21), (some (17, true)), .idxSl 1 (.t 18) (.t 20)⟩,
       ⟨(some 22), (some (17, true)), .load none (.t 21)⟩,
       ⟨(some 23), (some (17, true)), .not (.t 22)⟩,
       ⟨(some 24), none, .pick (.t 17) (.t 23) (.c (.bool false))⟩])
     (.cond (.t 24)
      (.ops [⟨(some 25), none, .mv (.t 3)⟩,
        ⟨(some 26), none, .mv (.t 3)⟩,
        ⟨(some 27), none, .lenSl (.t 26)⟩,
        ⟨(some 28), none, .bin .sub (.t 27) (.c (.int .i64 (1)))⟩,
        ⟨(some 29), none, .idxSl 2 (.t 25) (.t 28)⟩,
        ⟨(some 30), none, .fieldAddr 1 (.t 29)⟩,
        ⟨(some 31), none, .load none (.t 30)⟩,
        ⟨(some 32), none, .bin .add (.t 31) (.c (.int .i64 (1)))⟩,
        ⟨(some 33), none, .idxSl 2 (.t 25) (.t 28)⟩,
        ⟨(some 34), none, .fieldAddr 1 (.t 33)⟩,
        ⟨none, none, .store 1 (.t 34) (.t 32)⟩])
      (.ops [⟨(some 35), none, .mv (.t 3)⟩,
        ⟨(some 36), none, .mv (.t 4)⟩,
        ⟨(some 37), none, .build [(.int .i64 (0)), (.int .i64 (0))] [(0, 1, (.t 36)), (1, 1, (.c (.int .i64 (1))))]⟩,
        ⟨(some 38), none, .buildSl [(.int .i64 (0)), (.int .i64 (0))] 1 [(0, 2, (.t 37))]⟩,
        ⟨(some 39), none, .append 2 16 (.t 35) (.t 38)⟩,
        ⟨(some 3), none, .mv (.t 39)⟩])))))
    (.ops [⟨(some 9), none, .mv (.t 4)⟩,
      ⟨(some 10), none, .bin .add (.t 9) (.c (.int .i64 (1)))⟩,
      ⟨(some 4), none, .mv (.t 10)⟩]))))))
  (.seq (.ops [⟨(some 40), none, .mv (.t 3)⟩,
    ⟨(some 2), none, .mv (.t 40)⟩])
  (.ret))))⟩
theorem a19_ok : funcC Try.prog Try.f19 = some a19 := by kernel_rfl
/-- permafrost/space.Take -/
def a20 : AFunc := ⟨2, [.tmp 4, .tmp 5, .tmp 6],
  .seq (.ops [⟨(some 3), none, .box (.t 1)⟩,
    ⟨(some 4), none, .mv (.c (.int .i64 (0)))⟩,
    ⟨(some 5), none, .mv (.c (.slice none 0 0))⟩,
    ⟨(some 6), none, .mv (.c (.bool false))⟩])
  (.seq (.seq (.ops [⟨(some 9), none, .mv (.t 0)⟩,
    ⟨(some 10), none, .call (.c (.func (.func 10) [] [])) [(.t 9)]⟩,
    ⟨(some 11), none, .not (.t 10)⟩,
    ⟨(some 12), none, .mv (.t 11)⟩,
    ⟨(some 13), (some (12, false)), .load none (.t 3)⟩,
    ⟨(some 14), (some (12, false)), .bin .lss (.t 13) (.c (.int .i64 (1)))⟩,
    ⟨(some 15), none, .pick (.t 12) (.c (.bool true)) (.t 14)⟩,
    ⟨(some 16), none, .mv (.t 15)⟩,
    ⟨(some 17), (some (16, false)), .load none (.t 3)⟩,
    ⟨(some 18), (some (16, false)), .bin .gtr (.t 17) (.c (.int .i64 (1073741824)))⟩,
    ⟨(some 19), none, .pick (.t 16) (.c (.bool true)) (.t 18)⟩])
  (.cond (.t 19)
   (.seq (.ops [⟨(some 4), none, .mv (.c (.int .i64 (0)))⟩,
     ⟨(some 5), none, .mv (.c (.slice none 0 0))⟩,
     ⟨(some 6), none, .mv (.c (.bool false))⟩])
   (.ret))
   (.skip)))
  (.seq (.ops [⟨(some 20), none, .mv (.t 0)⟩,
    ⟨(some 21), none, .mkFn (.func 28) [] [(.t 3)]⟩,
    ⟨(some 22), none, .call (.c (.func (.func 27) [] [])) [(.t 20), (.t 21)]⟩,
    ⟨(some 7), none, .mv (.t 22)⟩])
  (.seq (.seq (.ops [⟨(some 23), none, .mv (.t 7)⟩,
    ⟨(some 24), none, .bin .lss (.t 23) (.c (.int .i64 (0)))⟩])
  (.cond (.t 24)
   (.seq (.ops [⟨(some 4), none, .mv (.c (.int .i64 (0)))⟩,
     ⟨(some 5), none, .mv (.c (.slice none 0 0))⟩,
     ⟨(some 6), none, .mv (.c (.bool false))⟩])
   (.ret))
   (.skip)))
  (.seq (.ops [⟨(some 25), none, .mv (.t 0)⟩,
    ⟨(some 26), none, .mv (.t 7)⟩,
    ⟨(some 27), none, .idxSl 2 (.t 25) (.t 26)⟩,
    ⟨(some 28), none, .load (some 2) (.t 27)⟩,
    ⟨(some 8), none, .alloc [(.int .i64 (0)), (.int .i64 (0))]⟩,
    ⟨none, none, .store 2 (.t 8) (.t 28)⟩])
  (.seq (.seq (.ops [⟨(some 29), none, .fieldAddr 1 (.t 8)⟩,
    ⟨(some 30), none, .load none (.t 29)⟩,
    ⟨(some 31), none, .load none (.t 3)⟩,
    ⟨(some 32), none, .bin .eql (.t 30) (.t 31)⟩])
  (.cond (.t 32)
   (.seq (.draw [⟨⟨(some 33), none, .fieldAddr 0 (.t 8)⟩, 0, []⟩,
     ⟨⟨(some 34), none, .load none (.t 33)⟩, 1, [0]⟩,
     ⟨⟨(some 35), none, .mv (.t 0)⟩, 2, []⟩,
     ⟨⟨(some 36), none, .mv (.t 7)⟩, 3, []⟩,
     ⟨⟨(some 37), none, .mv (.t 7)⟩, 4, []⟩,
     ⟨⟨(some 38), none, .bin .add (.t 37) (.c (.int .i64 (1)))⟩, 5, [4]⟩,
     ⟨⟨(some 39), none, .call (.c (.func (.func 29) [] [])) [(.t 35), (.t 36), (.t 38), (.c (.slice none 0 0))]⟩, 6, [2, 3, 4, 5]⟩,
     ⟨⟨(some 4), none, .mv (.t 34)⟩, 7, [0, 1, 2, 3, 4, 5, 6]⟩,
     ⟨⟨(some 5), none, .mv (.t 39)⟩, 8, [0, 1, 2, 3, 4, 5, 6, 7]⟩,
     ⟨⟨(some 6), none, .mv (.c (.bool true))⟩, 9, [0, 1, 2, 3, 4, 5, 6, 7, 8]⟩])
   (.ret))
   (.skip)))
  (.seq (.draw [⟨⟨(some 40), none, .fieldAddr 0 (.t 8)⟩, 0, []⟩,
    ⟨⟨(some 41), none, .load none (.t 40)⟩, 1, [0]⟩,
    ⟨⟨(some 42), none, .mv (.t 0)⟩, 2, []⟩,
    ⟨⟨(some 43), none, .mv (.t 7)⟩, 3, []⟩,
    ⟨⟨(some 44), none, .mv (.t 7)⟩, 4, []⟩,
    ⟨⟨(some 45), none, .bin .add (.t 44) (.c (.int .i64 (1)))⟩, 5, [4]⟩,
    ⟨⟨(some 46), none, .fieldAddr 0 (.t 8)⟩, 6, []⟩,
    ⟨⟨(some 47), none, .load none (.t 46)⟩, 7, [6]⟩,
    ⟨⟨(some 48), none, .load none (.t 3)⟩, 8, []⟩,
    ⟨⟨(some 49), none, .bin .add (.t 47) (.t 48)⟩, 9, [6, 7, 8]⟩,
    ⟨⟨(some 50), none, .fieldAddr 1 (.t 8)⟩, 10, []⟩,
    ⟨⟨(some 51), none, .load none (.t 50)⟩, 11, [10]⟩,
    ⟨⟨(some 52), none, .load none (.t 3)⟩, 12, []⟩,
    ⟨⟨(some 53), none, .bin .sub (.t 51) (.t 52)⟩, 13, [10, 11, 12]⟩,
    ⟨⟨(some 54), none, .build [(.int .i64 (0)), (.int .i64 (0))] [(0, 1, (.t 49)), (1, 1, (.t 53))]⟩, 14, [6, 7, 8, 9, 10, 11, 12, 13]⟩,
    ⟨⟨(some 55), none, .buildSl [(.int .i64 (0)), (.int .i64 (0))] 1 [(0, 2, (.t 54))]⟩, 15, [6, 7, 8, 9, 10, 11, 12, 13, 14]⟩,
    ⟨⟨(some 56), none, .call (.c (.func (.func 29) [] [])) [(.t 42), (.t 43), (.t 45), (.t 55)]⟩, 16, [2, 3, 4, 5, 6, 7, 8, 9, 10, 11, 12, 13, 14, 15]⟩,
    ⟨⟨(some 4), none, .mv (.t 41)⟩, 17, [0, 1, 2, 3, 4, 5, 6, 7, 8, 9, 10, 11, 12, 13, 14, 15, 16]⟩,
    ⟨⟨(some 5), none, .mv (.t 56)⟩, 18, [0, 1, 2, 3, 4, 5, 6, 7, 8, 9, 10, 11, 12, 13, 14, 15, 16, 17]⟩,
    ⟨⟨(some 6), none, .mv (.c (.bool true))⟩, 19, [0, 1, 2, 3, 4, 5, 6, 7, 8, 9, 10, 11, 12, 13, 14, 15, 16, 17, 18]⟩])
  (.ret)))))))⟩
theorem a20_ok : funcC Try.prog Try.f20 = some a20 := by kernel_rfl
/-- permafrost/permafrostref07.Take -/
def a21 : AFunc := ⟨2, [.tmp 4, .tmp 5, .tmp 6],
  .seq (.ops [⟨(some 4), none, .mv (.c (.int .i64 (0)))⟩,
    ⟨(some 5), none, .mv (.c (.slice none 0 0))⟩,
    ⟨(some 6), none, .mv (.c (.bool false))⟩])
  (.seq (.seq (.ops [⟨(some 9), none, .mv (.t 0)⟩,
    ⟨(some 10), none, .call (.c (.func (.func 11) [] [])) [(.t 9)]⟩,
    ⟨(some 11), none, .not (.t 10)⟩,
    ⟨(some 12), none, .mv (.t 11)⟩,
    ⟨(some 13), (some (12, false)), .mv (.t 1)⟩,
    ⟨(some 14), (some (12, false)), .bin .lss (.t 13) (.c (.int .i64 (1)))⟩,
    ⟨(some 15), none, .pick (.t 12) (.c (.bool true)) (.t 14)⟩,
    ⟨(some 16), none, .mv (.t 15)⟩,
    ⟨(some 17), (some (16, false)), .mv (.t 1)⟩,
    ⟨(some 18), (some (16, false)), .bin .gtr (.t 17) (.c (.int .i64 (1073741824)))⟩,
    ⟨(some 19), none, .pick (.t 16) (.c (.bool true)) (.t 18)⟩])
  (.cond (.t 19)
   (.seq (.ops [⟨(some 4), none, .mv (.c (.int .i64 (0)))⟩,
     ⟨(some 5), none, .mv (.c (.slice none 0 0))⟩,
     ⟨(some 6), none, .mv (.c (.bool false))⟩])
   (.ret))
   (.skip)))
  (.seq (.seq (.ops [⟨(some 7), none, .mv (.c (.int .i64 (0)))⟩])
  (.block 0 (.loop (.seq (.seq (.ops [⟨(some 20), none, .mv (.t 7)⟩,
      ⟨(some 21), none, .mv (.t 0)⟩,
      ⟨(some 22), none, .lenSl (.t 21)⟩,
      ⟨(some 23), none, .bin .lss (.t 20) (.t 22)⟩])
    (.cond (.t 23)
     (.skip)
     (.exit 0)))
    (.seq (.block 1 (.seq (.ops [⟨(some 26), none, .mv (.t 0)⟩,
       ⟨(some 27), none, .mv (.t 7)⟩,
       ⟨(some 28), none, .idxSl 2 (.t 26) (.t 27)⟩,
       ⟨(some 29), none, .fieldAddr 1 (.t 28)⟩,
       ⟨(some 30), none, .load none (.t 29)⟩,
       ⟨(some 31), none, .mv (.t 1)⟩,
       ⟨(some 32), none, .bin .geq (.t 30) (.t 31)⟩])
     (.cond (.t 32)
      (.seq (.ops [⟨(some 8), none, .mv (.c (.slice none 0 0))⟩])
      (.seq (.ops [⟨(some 33), none, .mv (.t 8)⟩,
        ⟨(some 34), none, .mv (.t 0)⟩,
        ⟨(some 35), none, .mv (.t 7)⟩,
        ⟨(some 36), none, .sliceSl 2 (.t 34) none (some (.t 35)) none⟩,
        ⟨(some 37), none, .append 2 16 (.t 33) (.t 36)⟩,
        ⟨(some 8), none, .mv (.t 37)⟩])
      (.seq (.seq (.ops [⟨(some 38), none, .mv (.t 0)⟩,
        ⟨(some 39), none, .mv (.t 7)⟩,
        ⟨(some 40), none, .idxSl 2 (.t 38) (.t 39)⟩,
        ⟨(some 41), none, .fieldAddr 1 (.t 40)⟩,
        ⟨(some 42), none, .load none (.t 41)⟩,
        ⟨(some 43), none, .mv (.t 1)⟩,
        ⟨(some 44), none, .bin .gtr (.t 42) (.t 43)⟩])
      (.cond (.t 44)
       (.draw [⟨⟨(some 45), none, .mv (.t 8)⟩, 0, []⟩,
         ⟨⟨(some 46), none, .mv (.t 0)⟩, 1, []⟩,
         ⟨⟨(some 47), none, .mv (.t 7)⟩, 2, []⟩,
         ⟨⟨(some 48), none, .idxSl 2 (.t 46) (.t 47)⟩, 3, [1, 2]⟩,
         ⟨⟨(some 49), none, .fieldAddr 0 (.t 48)⟩, 4, [1, 2, 3]⟩,
         ⟨⟨(some 50), none, .load none (.t 49)⟩, 5, [1, 2, 3, 4]⟩,
         ⟨⟨(some 51), none, .mv (.t 1)⟩, 6, []⟩,
         ⟨⟨(some 52), none, .bin .add (.t 50) (.t 51)⟩, 7, [1, 2, 3, 4, 5, 6]⟩,
         ⟨⟨(some 53), none, .mv (.t 0)⟩, 8, []⟩,
         ⟨⟨(some 54), none, .mv (.t 7)⟩, 9, []⟩,
         ⟨⟨(some 55), none, .idxSl 2 (.t 53) (.t 54)⟩, 10, [8, 9]⟩,
         ⟨⟨(some 56), none, .fieldAddr 1 (.t 55)⟩, 11, [8, 9, 10]⟩,
         ⟨⟨(some 57), none, .load none (.t 56)⟩, 12, [8, 9, 10, 11]⟩,
         ⟨⟨(some 58), none, .mv (.t 1)⟩, 13, []⟩,
         ⟨⟨(some 59), none, .bin .sub (.t 57) (.t 58)⟩, 14, [8, 9, 10, 11, 12, 13]⟩,
         ⟨⟨(some 60), none, .build [(.int .i64 (0)), (.int .i64 (0))] [(0, 1, (.t 52)), (1, 1, (.t 59))]⟩, 15, [1, 2, 3, 4, 5, 6, 7, 8, 9, 10, 11, 12, 13, 14]⟩,
         ⟨⟨(some 61), none, .buildSl [(.int .i64 (0)), (.int .i64 (0))] 1 [(0, 2, (.t 60))]⟩, 16, [1, 2, 3, 4, 5, 6, 7, 8, 9, 10, 11, 12, 13, 14, 15]⟩,
         ⟨⟨(some 62), none, .append 2 16 (.t 45) (.t 61)⟩, 17, [0, 1, 2, 3, 4, 5, 6, 7, 8, 9, 10, 11, 12, 13, 14, 15, 16]⟩,
         ⟨⟨(some 8), none, .mv (.t 62)⟩, 18, [0, 1, 2, 3, 4, 5, 6, 7, 8, 9, 10, 11, 12, 13, 14, 15, 16, 17]⟩])
       (.skip)))
      (.seq (.ops [⟨(some 63), none, .mv (.t 8)⟩,
        ⟨(some 64), none, .mv (.t 0)⟩,
        ⟨(some 65), none, .mv (.t 7)⟩,
        ⟨(some 66), none, .bin .add (.t 65) (.c (.int .i64 (1)))⟩,
        ⟨(some 67), none, .sliceSl 2 (.t 64) (some (.t 66)) none none⟩,
        ⟨(some 68), none, .append 2 16 (.t 63) (.t 67)⟩,
        ⟨(some 8), none, .mv (.t 68)⟩])
      (.seq (.ops [⟨(some 69), none, .mv (.t 0)⟩,
        ⟨(some 70), none, .mv (.t 7)⟩,
        ⟨(some 71), none, .idxSl 2 (.t 69) (.t 70)⟩,
        ⟨(some 72), none, .fieldAddr 0 (.t 71)⟩,
        ⟨(some 73), none, .load none (.t 72)⟩,
        ⟨(some 74), none, .mv (.t 8)⟩,
        ⟨(some 4), none, .mv (.t 73)⟩,
        ⟨(some 5), none, .mv (.t 74)⟩,
        ⟨(some 6), none, .mv (.c (.bool true))⟩])
      (.ret))))))
      (.skip))))
    (.ops [⟨(some 24), none, .mv (.t 7)⟩,
      ⟨(some 25), none, .bin .add (.t 24) (.c (.int .i64 (1)))⟩,
      ⟨(some 7), none, .mv (.t 25)⟩]))))))
  (.seq (.ops [⟨(some 4), none, .mv (.c (.int .i64 (0)))⟩,
    ⟨(some 5), none, .mv (.c (.slice none 0 0))⟩,
    ⟨(some 6), none, .mv (.c (.bool false))⟩])
  (.ret))))⟩
theorem a21_ok : funcC Try.prog Try.f21 = some a21 := by kernel_rfl
/-- permafrost/space.Give -/
def a22 : AFunc := ⟨2, [.tmp 4, .tmp 5],
  .seq (.ops [⟨(some 3), none, .box (.t 1)⟩,
    ⟨(some 4), none, .mv (.c (.slice none 0 0))⟩,
    ⟨(some 5), none, .mv (.c (.bool false))⟩])
  (.seq (.seq (.ops [⟨(some 10), none, .mv (.t 0)⟩,
    ⟨(some 11), none, .call (.c (.func (.func 10) [] [])) [(.t 10)]⟩,
    ⟨(some 12), none, .not (.t 11)⟩,
    ⟨(some 13), none, .mv (.t 12)⟩,
    ⟨(some 14), (some (13, false)), .load (some 2) (.t 3)⟩,
    ⟨(some 15), (some (13, false)), .buildSl [(.int .i64 (0)), (.int .i64 (0))] 1 [(0, 2, (.t 14))]⟩,
    ⟨(some 16), (some (13, false)), .call (.c (.func (.func 10) [] [])) [(.t 15)]⟩,
    ⟨(some 17), (some (13, false)), .not (.t 16)⟩,
    ⟨(some 18), none, .pick (.t 13) (.c (.bool true)) (.t 17)⟩])
  (.cond (.t 18)
   (.seq (.ops [⟨(some 4), none, .mv (.c (.slice none 0 0))⟩,
     ⟨(some 5), none, .mv (.c (.bool false))⟩])
   (.ret))
   (.skip)))
  (.seq (.ops [⟨(some 20), none, .mv (.t 0)⟩,
    ⟨(some 21), none, .load (some 2) (.t 3)⟩,
    ⟨(some 22), none, .call (.c (.func (.func 30) [] [])) [(.t 20), (.t 21), (.c (.func (.func 31) [] []))]⟩,
    ⟨(some 19), none, .mv (.t 22)⟩,
    ⟨(some 23), none, .extract 0 (.t 19)⟩,
    ⟨(some 24), none, .extract 1 (.t 19)⟩,
    ⟨(some 6), none, .mv (.t 23)⟩,
    ⟨(some 7), none, .mv (.t 24)⟩])
  (.seq (.ops [⟨(some 25), none, .mv (.t 6)⟩,
    ⟨(some 26), none, .mv (.t 6)⟩,
    ⟨(some 8), none, .mv (.t 25)⟩,
    ⟨(some 9), none, .mv (.t 26)⟩])
  (.seq (.seq (.draw [⟨⟨(some 27), none, .mv (.t 6)⟩, 0, []⟩,
    ⟨⟨(some 28), none, .bin .gtr (.t 27) (.c (.int .i64 (0)))⟩, 1, [0]⟩,
    ⟨⟨(some 29), none, .mv (.t 28)⟩, 2, [0, 1]⟩,
    ⟨⟨(some 30), (some (29, true)), .mv (.t 0)⟩, 3, [0, 1, 2]⟩,
    ⟨⟨(some 31), (some (29, true)), .mv (.t 6)⟩, 4, [0, 1, 2]⟩,
    ⟨⟨(some 32), (some (29, true)), .bin .sub (.t 31) (.c (.int .i64 (1)))⟩, 5, [0, 1, 2, 4]⟩,
    ⟨⟨(some 33), (some (29, true)), .idxSl 2 (.t 30) (.t 32)⟩, 6, [0, 1, 2, 3, 4, 5]⟩,
    ⟨⟨(some 34), (some (29, true)), .load (some 2) (.t 33)⟩, 7, [0, 1, 2, 3, 4, 5, 6]⟩,
    ⟨⟨(some 36), (some (29, true)), .fieldAddr 0 (.t 3)⟩, 9, [0, 1, 2]⟩,
    ⟨⟨(some 37), (some (29, true)), .load none (.t 36)⟩, 10, [0, 1, 2, 8]⟩,
    ⟨⟨(some 35), (some (29, true)), .call (.c (.func (.func 24) [] [])) [(.t 34)]⟩, 8, [0, 1, 2, 3, 4, 5, 6, 7]⟩,
    ⟨⟨(some 38), (some (29, true)), .bin .geq (.t 35) (.t 37)⟩, 11, [0, 1, 2, 3, 4, 5, 6, 7, 8, 9, 10]⟩,
    ⟨⟨(some 39), none, .pick (.t 29) (.t 38) (.c (.bool false))⟩, 12, [0, 1, 2, 3, 4, 5, 6, 7, 8, 9, 10, 11]⟩])
  (.cond (.t 39)
   (.seq (.seq (.draw [⟨⟨(some 40), none, .mv (.t 0)⟩, 0, []⟩,
     ⟨⟨(some 41), none, .mv (.t 6)⟩, 1, []⟩,
     ⟨⟨(some 42), none, .bin .sub (.t 41) (.c (.int .i64 (1)))⟩, 2, [1]⟩,
     ⟨⟨(some 43), none, .idxSl 2 (.t 40) (.t 42)⟩, 3, [0, 1, 2]⟩,
     ⟨⟨(some 44), none, .load (some 2) (.t 43)⟩, 4, [0, 1, 2, 3]⟩,
     ⟨⟨(some 46), none, .fieldAddr 0 (.t 3)⟩, 6, []⟩,
     ⟨⟨(some 47), none, .load none (.t 46)⟩, 7, [5]⟩,
     ⟨⟨(some 45), none, .call (.c (.func (.func 24) [] [])) [(.t 44)]⟩, 5, [0, 1, 2, 3, 4]⟩,
     ⟨⟨(some 48), none, .bin .gtr (.t 45) (.t 47)⟩, 8, [0, 1, 2, 3, 4, 5, 6, 7]⟩])
   (.cond (.t 48)
    (.seq (.ops [⟨(some 4), none, .mv (.c (.slice none 0 0))⟩,
      ⟨(some 5), none, .mv (.c (.bool false))⟩])
    (.ret))
    (.skip)))
   (.draw [⟨⟨(some 49), none, .mv (.t 6)⟩, 0, []⟩,
     ⟨⟨(some 50), none, .bin .sub (.t 49) (.c (.int .i64 (1)))⟩, 1, [0]⟩,
     ⟨⟨(some 51), none, .mv (.t 0)⟩, 2, []⟩,
     ⟨⟨(some 52), none, .mv (.t 6)⟩, 3, []⟩,
     ⟨⟨(some 53), none, .bin .sub (.t 52) (.c (.int .i64 (1)))⟩, 4, [3]⟩,
     ⟨⟨(some 54), none, .idxSl 2 (.t 51) (.t 53)⟩, 5, [2, 3, 4]⟩,
     ⟨⟨(some 55), none, .fieldAddr 0 (.t 54)⟩, 6, [2, 3, 4, 5]⟩,
     ⟨⟨(some 56), none, .load none (.t 55)⟩, 7, [2, 3, 4, 5, 6]⟩,
     ⟨⟨(some 57), none, .mv (.t 0)⟩, 8, []⟩,
     ⟨⟨(some 58), none, .mv (.t 6)⟩, 9, []⟩,
     ⟨⟨(some 59), none, .bin .sub (.t 58) (.c (.int .i64 (1)))⟩, 10, [9]⟩,
     ⟨⟨(some 60), none, .idxSl 2 (.t 57) (.t 59)⟩, 11, [8, 9, 10]⟩,
     ⟨⟨(some 61), none, .fieldAddr 1 (.t 60)⟩, 12, [8, 9, 10, 11]⟩,
     ⟨⟨(some 62), none, .load none (.t 61)⟩, 13, [8, 9, 10, 11, 12]⟩,
     ⟨⟨(some 63), none, .fieldAddr 1 (.t 3)⟩, 14, []⟩,
     ⟨⟨(some 64), none, .load none (.t 63)⟩, 15, [14]⟩,
     ⟨⟨(some 65), none, .bin .add (.t 62) (.t 64)⟩, 16, [8, 9, 10, 11, 12, 13, 14, 15]⟩,
     ⟨⟨(some 66), none, .build [(.int .i64 (0)), (.int .i64 (0))] [(0, 1, (.t 56)), (1, 1, (.t 65))]⟩, 17, [2, 3, 4, 5, 6, 7, 8, 9, 10, 11, 12, 13, 14, 15, 16]⟩,
     ⟨⟨(some 8), none, .mv (.t 50)⟩, 18, [0, 1]⟩,
     ⟨⟨none, none, .store 2 (.t 3) (.t 66)⟩, 19, [0, 1, 2, 3, 4, 5, 6, 7, 8, 9, 10, 11, 12, 13, 14, 15, 16, 17, 18]⟩]))
   (.skip)))
  (.seq (.seq (.draw [⟨⟨(some 67), none, .mv (.t 6)⟩, 0, []⟩,
    ⟨⟨(some 68), none, .mv (.t 0)⟩, 1, []⟩,
    ⟨⟨(some 69), none, .lenSl (.t 68)⟩, 2, [1]⟩,
    ⟨⟨(some 70), none, .bin .lss (.t 67) (.t 69)⟩, 3, [0, 1, 2]⟩,
    ⟨⟨(some 71), none, .mv (.t 70)⟩, 4, [0, 1, 2, 3]⟩,
    ⟨⟨(some 72), (some (71, true)), .mv (.t 0)⟩, 5, [0, 1, 2, 3, 4]⟩,
    ⟨⟨(some 73), (some (71, true)), .mv (.t 6)⟩, 6, [0, 1, 2, 3, 4]⟩,
    ⟨⟨(some 74), (some (71, true)), .idxSl 2 (.t 72) (.t 73)⟩, 7, [0, 1, 2, 3, 4, 5, 6]⟩,
    ⟨⟨(some 75), (some (71, true)), .fieldAddr 0 (.t 74)⟩, 8, [0, 1, 2, 3, 4, 5, 6, 7]⟩,
    ⟨⟨(some 76), (some (71, true)), .load none (.t 75)⟩, 9, [0, 1, 2, 3, 4, 5, 6, 7, 8]⟩,
    ⟨⟨(some 77), (some (71, true)), .load (some 2) (.t 3)⟩, 10, [0, 1, 2, 3, 4]⟩,
    ⟨⟨(some 78), (some (71, true)), .call (.c (.func (.func 24) [] [])) [(.t 77)]⟩, 11, [0, 1, 2, 3, 4, 10]⟩,
    ⟨⟨(some 79), (some (71, true)), .bin .leq (.t 76) (.t 78)⟩, 12, [0, 1, 2, 3, 4, 5, 6, 7, 8, 9, 10, 11]⟩,
    ⟨⟨(some 80), none, .pick (.t 71) (.t 79) (.c (.bool false))⟩, 13, [0, 1, 2, 3, 4, 5, 6, 7, 8, 9, 10, 11, 12]⟩])
  (.cond (.t 80)
   (.seq (.seq (.draw [⟨⟨(some 81), none, .mv (.t 0)⟩, 0, []⟩,
     ⟨⟨(some 82), none, .mv (.t 6)⟩, 1, []⟩,
     ⟨⟨(some 83), none, .idxSl 2 (.t 81) (.t 82)⟩, 2, [0, 1]⟩,
     ⟨⟨(some 84), none, .fieldAddr 0 (.t 83)⟩, 3, [0, 1, 2]⟩,
     ⟨⟨(some 85), none, .load none (.t 84)⟩, 4, [0, 1, 2, 3]⟩,
     ⟨⟨(some 86), none, .load (some 2) (.t 3)⟩, 5, []⟩,
     ⟨⟨(some 87), none, .call (.c (.func (.func 24) [] [])) [(.t 86)]⟩, 6, [5]⟩,
     ⟨⟨(some 88), none, .bin .lss (.t 85) (.t 87)⟩, 7, [0, 1, 2, 3, 4, 5, 6]⟩])
   (.cond (.t 88)
    (.seq (.ops [⟨(some 4), none, .mv (.c (.slice none 0 0))⟩,
      ⟨(some 5), none, .mv (.c (.bool false))⟩])
    (.ret))
    (.skip)))
   (.draw [⟨⟨(some 89), none, .mv (.t 6)⟩, 0, []⟩,
     ⟨⟨(some 90), none, .bin .add (.t 89) (.c (.int .i64 (1)))⟩, 1, [0]⟩,
     ⟨⟨(some 91), none, .fieldAddr 0 (.t 3)⟩, 2, []⟩,
     ⟨⟨(some 92), none, .load none (.t 91)⟩, 3, [2]⟩,
     ⟨⟨(some 93), none, .fieldAddr 1 (.t 3)⟩, 4, []⟩,
     ⟨⟨(some 94), none, .load none (.t 93)⟩, 5, [4]⟩,
     ⟨⟨(some 95), none, .mv (.t 0)⟩, 6, []⟩,
     ⟨⟨(some 96), none, .mv (.t 6)⟩, 7, []⟩,
     ⟨⟨(some 97), none, .idxSl 2 (.t 95) (.t 96)⟩, 8, [6, 7]⟩,
     ⟨⟨(some 98), none, .fieldAddr 1 (.t 97)⟩, 9, [6, 7, 8]⟩,
     ⟨⟨(some 99), none, .load none (.t 98)⟩, 10, [6, 7, 8, 9]⟩,
     ⟨⟨(some 100), none, .bin .add (.t 94) (.t 99)⟩, 11, [4, 5, 6, 7, 8, 9, 10]⟩,
     ⟨⟨(some 101), none, .build [(.int .i64 (0)), (.int .i64 (0))] [(0, 1, (.t 92)), (1, 1, (.t 100))]⟩, 12, [2, 3, 4, 5, 6, 7, 8, 9, 10, 11]⟩,
     ⟨⟨(some 9), none, .mv (.t 90)⟩, 13, [0, 1]⟩,
     ⟨⟨none, none, .store 2 (.t 3) (.t 101)⟩, 14, [0, 1, 2, 3, 4, 5, 6, 7, 8, 9, 10, 11, 12, 13]⟩]))
   (.skip)))
  (.seq (.seq (.ops [⟨(some 102), none, .mv (.t 0)⟩,
    ⟨(some 103), none, .mv (.t 8)⟩,
    ⟨(some 104), none, .mv (.t 9)⟩,
    ⟨(some 105), none, .load (some 2) (.t 3)⟩,
    ⟨(some 106), none, .buildSl [(.int .i64 (0)), (.int .i64 (0))] 1 [(0, 2, (.t 105))]⟩,
    ⟨(some 107), none, .call (.c (.func (.func 29) [] [])) [(.t 102), (.t 103), (.t 104), (.t 106)]⟩,
    ⟨(some 0), none, .mv (.t 107)⟩])
  (.seq (.ops [⟨(some 108), none, .mv (.t 0)⟩,
    ⟨(some 109), none, .call (.c (.func (.func 10) [] [])) [(.t 108)]⟩,
    ⟨(some 110), none, .not (.t 109)⟩])
  (.cond (.t 110)
   (.seq (.ops [⟨(some 4), none, .mv (.c (.slice none 0 0))⟩,
     ⟨(some 5), none, .mv (.c (.bool false))⟩])
   (.ret))
   (.skip))))
  (.seq (.ops [⟨(some 111), none, .mv (.t 0)⟩,
    ⟨(some 4), none, .mv (.t 111)⟩,
    ⟨(some 5), none, .mv (.c (.bool true))⟩])
  (.ret))))))))⟩
theorem a22_ok : funcC Try.prog Try.f22 = some a22 := by kernel_rfl
/-- permafrost/permafrostref07.Give -/
def a23 : AFunc := ⟨2, [.tmp 4, .tmp 5],
  .seq (.ops [⟨(some 3), none, .box (.t 1)⟩,
    ⟨(some 4), none, .mv (.c (.slice none 0 0))⟩,
    ⟨(some 5), none, .mv (.c (.bool false))⟩])
  (.seq (.seq (.ops [⟨(some 10), none, .mv (.t 0)⟩,
    ⟨(some 11), none, .call (.c (.func (.func 11) [] [])) [(.t 10)]⟩,
    ⟨(some 12), none, .not (.t 11)⟩,
    ⟨(some 13), none, .mv (.t 12)⟩,
    ⟨(some 14), (some (13, false)), .load (some 2) (.t 3)⟩,
    ⟨(some 15), (some (13, false)), .buildSl [(.int .i64 (0)), (.int .i64 (0))] 1 [(0, 2, (.t 14))]⟩,
    ⟨(some 16), (some (13, false)), .call (.c (.func (.func 11) [] [])) [(.t 15)]⟩,
    ⟨(some 17), (some (13, false)), .not (.t 16)⟩,
    ⟨(some 18), none, .pick (.t 13) (.c (.bool true)) (.t 17)⟩])
  (.cond (.t 18)
   (.seq (.ops [⟨(some 4), none, .mv (.c (.slice none 0 0))⟩,
     ⟨(some 5), none, .mv (.c (.bool false))⟩])
   (.ret))
   (.skip)))
  (.seq (.ops [⟨(some 6), none, .mv (.c (.slice none 0 0))⟩])
  (.seq (.ops [⟨(some 7), none, .mv (.c (.slice none 0 0))⟩])
  (.seq (.seq (.ops [⟨(some 8), none, .mv (.c (.int .i64 (0)))⟩])
  (.block 0 (.loop (.seq (.seq (.ops [⟨(some 19), none, .mv (.t 8)⟩,
      ⟨(some 20), none, .mv (.t 0)⟩,
      ⟨(some 21), none, .lenSl (.t 20)⟩,
      ⟨(some 22), none, .bin .lss (.t 19) (.t 21)⟩])
    (.cond (.t 22)
     (.skip)
     (.exit 0)))
    (.seq (.block 1 (.seq (.draw [⟨⟨(some 25), none, .mv (.t 0)⟩, 0, []⟩,
       ⟨⟨(some 26), none, .mv (.t 8)⟩, 1, []⟩,
       ⟨⟨(some 27), none, .idxSl 2 (.t 25) (.t 26)⟩, 2, [0, 1]⟩,
       ⟨⟨(some 28), none, .fieldAddr 0 (.t 27)⟩, 3, [0, 1, 2]⟩,
       ⟨⟨(some 29), none, .load none (.t 28)⟩, 4, [0, 1, 2, 3]⟩,
       ⟨⟨(some 30), none, .mv (.t 0)⟩, 5, []⟩,
       ⟨⟨(some 31), none, .mv (.t 8)⟩, 6, []⟩,
       ⟨⟨(some 32), none, .idxSl 2 (.t 30) (.t 31)⟩, 7, [5, 6]⟩,
       ⟨⟨(some 33), none, .fieldAddr 1 (.t 32)⟩, 8, [5, 6, 7]⟩,
       ⟨⟨(some 34), none, .load none (.t 33)⟩, 9, [5, 6, 7, 8]⟩,
       ⟨⟨(some 35), none, .bin .add (.t 29) (.t 34)⟩, 10, [0, 1, 2, 3, 4, 5, 6, 7, 8, 9]⟩,
       ⟨⟨(some 9), none, .mv (.t 35)⟩, 11, [0, 1, 2, 3, 4, 5, 6, 7, 8, 9, 10]⟩])
     (.seq (.ops [⟨(some 36), none, .mv (.t 9)⟩,
       ⟨(some 37), none, .fieldAddr 0 (.t 3)⟩,
       ⟨(some 38), none, .load none (.t 37)⟩,
       ⟨(some 39), none, .bin .lss (.t 36) (.t 38)⟩])
     (.cond (.t 39)
      (.ops [⟨(some 40), none, .mv (.t 6)⟩,
        ⟨(some 41), none, .mv (.t 0)⟩,
        ⟨(some 42), none, .mv (.t 8)⟩,
        ⟨(some 43), none, .idxSl 2 (.t 41) (.t 42)⟩,
        ⟨(some 44), none, .load (some 2) (.t 43)⟩,
        ⟨(some 45), none, .buildSl [(.int .i64 (0)), (.int .i64 (0))] 1 [(0, 2, (.t 44))]⟩,
        ⟨(some 46), none, .append 2 16 (.t 40) (.t 45)⟩,
        ⟨(some 6), none, .mv (.t 46)⟩])
      (.seq (.ops [⟨(some 47), none, .mv (.t 9)⟩,
        ⟨(some 48), none, .fieldAddr 0 (.t 3)⟩,
        ⟨(some 49), none, .load none (.t 48)⟩,
        ⟨(some 50), none, .bin .eql (.t 47) (.t 49)⟩])
      (.cond (.t 50)
       (.draw [⟨⟨(some 51), none, .mv (.t 0)⟩, 0, []⟩,
         ⟨⟨(some 52), none, .mv (.t 8)⟩, 1, []⟩,
         ⟨⟨(some 53), none, .idxSl 2 (.t 51) (.t 52)⟩, 2, [0, 1]⟩,
         ⟨⟨(some 54), none, .fieldAddr 0 (.t 53)⟩, 3, [0, 1, 2]⟩,
         ⟨⟨(some 55), none, .load none (.t 54)⟩, 4, [0, 1, 2, 3]⟩,
         ⟨⟨(some 56), none, .mv (.t 0)⟩, 5, []⟩,
         ⟨⟨(some 57), none, .mv (.t 8)⟩, 6, []⟩,
         ⟨⟨(some 58), none, .idxSl 2 (.t 56) (.t 57)⟩, 7, [5, 6]⟩,
         ⟨⟨(some 59), none, .fieldAddr 1 (.t 58)⟩, 8, [5, 6, 7]⟩,
         ⟨⟨(some 60), none, .load none (.t 59)⟩, 9, [5, 6, 7, 8]⟩,
         ⟨⟨(some 61), none, .fieldAddr 1 (.t 3)⟩, 10, []⟩,
         ⟨⟨(some 62), none, .load none (.t 61)⟩, 11, [10]⟩,
         ⟨⟨(some 63), none, .bin .add (.t 60) (.t 62)⟩, 12, [5, 6, 7, 8, 9, 10, 11]⟩,
         ⟨⟨(some 64), none, .build [(.int .i64 (0)), (.int .i64 (0))] [(0, 1, (.t 55)), (1, 1, (.t 63))]⟩, 13, [0, 1, 2, 3, 4, 5, 6, 7, 8, 9, 10, 11, 12]⟩,
         ⟨⟨none, none, .store 2 (.t 3) (.t 64)⟩, 14, [0, 1, 2, 3, 4, 5, 6, 7, 8, 9, 10, 11, 12, 13]⟩])
       (.seq (.draw [⟨⟨(some 65), none, .mv (.t 0)⟩, 0, []⟩,
         ⟨⟨(some 66), none, .mv (.t 8)⟩, 1, []⟩,
         ⟨⟨(some 67), none, .idxSl 2 (.t 65) (.t 66)⟩, 2, [0, 1]⟩,
         ⟨⟨(some 68), none, .fieldAddr 0 (.t 67)⟩, 3, [0, 1, 2]⟩,
         ⟨⟨(some 69), none, .load none (.t 68)⟩, 4, [0, 1, 2, 3]⟩,
         ⟨⟨(some 70), none, .fieldAddr 0 (.t 3)⟩, 5, []⟩,
         ⟨⟨(some 71), none, .load none (.t 70)⟩, 6, [5]⟩,
         ⟨⟨(some 72), none, .fieldAddr 1 (.t 3)⟩, 7, []⟩,
         ⟨⟨(some 73), none, .load none (.t 72)⟩, 8, [7]⟩,
         ⟨⟨(some 74), none, .bin .add (.t 71) (.t 73)⟩, 9, [5, 6, 7, 8]⟩,
         ⟨⟨(some 75), none, .bin .eql (.t 69) (.t 74)⟩, 10, [0, 1, 2, 3, 4, 5, 6, 7, 8, 9]⟩])
       (.cond (.t 75)
        (.draw [⟨⟨(some 76), none, .fieldAddr 1 (.t 3)⟩, 0, []⟩,
          ⟨⟨(some 77), none, .load none (.t 76)⟩, 1, [0]⟩,
          ⟨⟨(some 78), none, .mv (.t 0)⟩, 2, []⟩,
          ⟨⟨(some 79), none, .mv (.t 8)⟩, 3, []⟩,
          ⟨⟨(some 80), none, .idxSl 2 (.t 78) (.t 79)⟩, 4, [2, 3]⟩,
          ⟨⟨(some 81), none, .fieldAddr 1 (.t 80)⟩, 5, [2, 3, 4]⟩,
          ⟨⟨(some 82), none, .load none (.t 81)⟩, 6, [2, 3, 4, 5]⟩,
          ⟨⟨(some 83), none, .bin .add (.t 77) (.t 82)⟩, 7, [0, 1, 2, 3, 4, 5, 6]⟩,
          ⟨⟨(some 84), none, .fieldAddr 1 (.t 3)⟩, 8, [0, 1, 2, 3, 4, 5, 6, 7]⟩,
          ⟨⟨none, none, .store 1 (.t 84) (.t 83)⟩, 9, [0, 1, 2, 3, 4, 5, 6, 7, 8]⟩])
        (.seq (.draw [⟨⟨(some 85), none, .mv (.t 0)⟩, 0, []⟩,
          ⟨⟨(some 86), none, .mv (.t 8)⟩, 1, []⟩,
          ⟨⟨(some 87), none, .idxSl 2 (.t 85) (.t 86)⟩, 2, [0, 1]⟩,
          ⟨⟨(some 88), none, .fieldAddr 0 (.t 87)⟩, 3, [0, 1, 2]⟩,
          ⟨⟨(some 89), none, .load none (.t 88)⟩, 4, [0, 1, 2, 3]⟩,
          ⟨⟨(some 90), none, .fieldAddr 0 (.t 3)⟩, 5, []⟩,
          ⟨⟨(some 91), none, .load none (.t 90)⟩, 6, [5]⟩,
          ⟨⟨(some 92), none, .fieldAddr 1 (.t 3)⟩, 7, []⟩,
          ⟨⟨(some 93), none, .load none (.t 92)⟩, 8, [7]⟩,
          ⟨⟨(some 94), none, .bin .add (.t 91) (.t 93)⟩, 9, [5, 6, 7, 8]⟩,
          ⟨⟨(some 95), none, .bin .gtr (.t 89) (.t 94)⟩, 10, [0, 1, 2, 3, 4, 5, 6, 7, 8, 9]⟩])
        (.cond (.t 95)
         (.ops [⟨(some 96), none, .mv (.t 7)⟩,
           ⟨(some 97), none, .mv (.t 0)⟩,
           ⟨(some 98), none, .mv (.t 8)⟩,
           ⟨(some 99), none, .idxSl 2 (.t 97) (.t 98)⟩,
           ⟨(some 100), none, .load (some 2) (.t 99)⟩,
           ⟨(some 101), none, .buildSl [(.int .i64 (0)), (.int .i64 (0))] 1 [(0, 2, (.t 100))]⟩,
           ⟨(some 102), none, .append 2 16 (.t 96) (.t 101)⟩,
           ⟨(some 7), none, .mv (.t 102)⟩])
         (.seq (.ops [⟨(some 4), none, .mv (.c (.slice none 0 0))⟩,
           ⟨(some 5), none, .mv (.c (.bool false))⟩])
         (.ret))))))))))))
    (.ops [⟨(some 23), none, .mv (.t 8)⟩,
      ⟨(some 24), none, .bin .add (.t 23) (.c (.int .i64 (1)))⟩,
      ⟨(some 8), none, .mv (.t 24)⟩]))))))
  (.seq (.ops [⟨(some 103), none, .mv (.t 6)⟩,
    ⟨(some 104), none, .load (some 2) (.t 3)⟩,
    ⟨(some 105), none, .buildSl [(.int .i64 (0)), (.int .i64 (0))] 1 [(0, 2, (.t 104))]⟩,
    ⟨(some 106), none, .append 2 16 (.t 103) (.t 105)⟩,
    ⟨(some 6), none, .mv (.t 106)⟩])
  (.seq (.ops [⟨(some 107), none, .mv (.t 6)⟩,
    ⟨(some 108), none, .mv (.t 7)⟩,
    ⟨(some 109), none, .append 2 16 (.t 107) (.t 108)⟩,
    ⟨(some 6), none, .mv (.t 109)⟩])
  (.seq (.seq (.ops [⟨(some 110), none, .mv (.t 6)⟩,
    ⟨(some 111), none, .call (.c (.func (.func 11) [] [])) [(.t 110)]⟩,
    ⟨(some 112), none, .not (.t 111)⟩])
  (.cond (.t 112)
   (.seq (.ops [⟨(some 4), none, .mv (.c (.slice none 0 0))⟩,
     ⟨(some 5), none, .mv (.c (.bool false))⟩])
   (.ret))
   (.skip)))
  (.seq (.ops [⟨(some 113), none, .mv (.t 6)⟩,
    ⟨(some 4), none, .mv (.t 113)⟩,
    ⟨(some 5), none, .mv (.c (.bool true))⟩])
  (.ret)))))))))⟩
theorem a23_ok : funcC Try.prog Try.f23 = some a23 := by kernel_rfl
/-- (permafrost/space.Run).end -/
def a24 : AFunc := ⟨1, [.tmp 2],
  .seq (.ops [⟨(some 1), none, .box (.t 0)⟩,
    ⟨(some 2), none, .mv (.c (.int .i64 (0)))⟩])
  (.seq (.ops [⟨(some 3), none, .fieldAddr 0 (.t 1)⟩,
    ⟨(some 4), none, .load none (.t 3)⟩,
    ⟨(some 5), none, .fieldAddr 1 (.t 1)⟩,
    ⟨(some 6), none, .load none (.t 5)⟩,
    ⟨(some 7), none, .bin .add (.t 4) (.t 6)⟩,
    ⟨(some 2), none, .mv (.t 7)⟩])
  (.ret))⟩
theorem a24_ok : funcC Try.prog Try.f24 = some a24 := by kernel_rfl
/-- slices.ContainsFunc[[]permafrost/space.Run,permafrost/space.Run] -/
def a25 : AFunc := ⟨2, [.tmp 4],
  .seq (.ops [⟨(some 4), none, .mv (.c (.bool false))⟩])
  (.seq (.ops [⟨(some 5), none, .mv (.t 0)⟩,
    ⟨(some 6), none, .mv (.t 1)⟩,
    ⟨(some 7), none, .call (.c (.func (.func 27) [] [])) [(.t 5), (.t 6)]⟩,
    ⟨(some 8), none, .bin .geq (.t 7) (.c (.int .i64 (0)))⟩,
    ⟨(some 4), none, .mv (.t 8)⟩])
  (.ret))⟩
theorem a25_ok : funcC Try.prog Try.f25 = some a25 := by kernel_rfl
/-- permafrost/space.Has$1 -/
def a26 : AFunc := ⟨2, [.tmp 3],
  .seq (.ops [⟨(some 2), none, .box (.t 0)⟩,
    ⟨(some 3), none, .mv (.c (.bool false))⟩])
  (.seq (.draw [⟨⟨(some 4), none, .load none (.t 1)⟩, 0, []⟩,
    ⟨⟨(some 5), none, .fieldAddr 0 (.t 2)⟩, 1, []⟩,
    ⟨⟨(some 6), none, .load none (.t 5)⟩, 2, [1]⟩,
    ⟨⟨(some 7), none, .bin .geq (.t 4) (.t 6)⟩, 3, [0, 1, 2]⟩,
    ⟨⟨(some 8), none, .mv (.t 7)⟩, 4, [0, 1, 2, 3]⟩,
    ⟨⟨(some 9), (some (8, true)), .load none (.t 1)⟩, 5, [0, 1, 2, 3, 4]⟩,
    ⟨⟨(some 10), (some (8, true)), .load (some 2) (.t 2)⟩, 6, [0, 1, 2, 3, 4]⟩,
    ⟨⟨(some 11), (some (8, true)), .call (.c (.func (.func 24) [] [])) [(.t 10)]⟩, 7, [0, 1, 2, 3, 4, 6]⟩,
    ⟨⟨(some 12), (some (8, true)), .bin .lss (.t 9) (.t 11)⟩, 8, [0, 1, 2, 3, 4, 5, 6, 7]⟩,
    ⟨⟨(some 13), none, .pick (.t 8) (.t 12) (.c (.bool false))⟩, 9, [0, 1, 2, 3, 4, 5, 6, 7, 8]⟩,
    ⟨⟨(some 3), none, .mv (.t 13)⟩, 10, [0, 1, 2, 3, 4, 5, 6, 7, 8, 9]⟩])
  (.ret))⟩
theorem a26_ok : funcC Try.prog Try.f26 = some a26 := by kernel_rfl
/-- slices.IndexFunc[[]permafrost/space.Run,permafrost/space.Run] -/
def a27 : AFunc := ⟨2, [.tmp 4],
  .seq (.ops [⟨(some 4), none, .mv (.c (.int .i64 (0)))⟩])
  (.seq (.seq (.ops [⟨(some 6), none, .mv (.t 0)⟩,
    ⟨(some 7), none, .lenSl (.t 6)⟩,
    ⟨(some 8), none, .mv (.c (.int .i64 (0)))⟩])
  (.block 0 (.loop (.seq (.ops [⟨(some 9), none, .bin .lss (.t 8) (.t 7)⟩])
    (.seq (.cond (.t 9)
     (.skip)
     (.exit 0))
    (.seq (.block 1 (.seq (.ops [⟨(some 10), none, .mv (.t 8)⟩,
       ⟨(some 5), none, .mv (.t 10)⟩])
     (.seq (.ops [⟨(some 11), none, .mv (.t 1)⟩,
       ⟨(some 12), none, .mv (.t 0)⟩,
       ⟨(some 13), none, .mv (.t 5)⟩,
       ⟨(some 14), none, .idxSl 2 (.t 12) (.t 13)⟩,
       ⟨(some 15), none, .load (some 2) (.t 14)⟩,
       ⟨(some 16), none, .call (.t 11) [(.t 15)]⟩])
     (.cond (.t 16)
      (.seq (.ops [⟨(some 17), none, .mv (.t 5)⟩,
        ⟨(some 4), none, .mv (.t 17)⟩])
      (.ret))
      (.skip)))))
    (.ops [⟨(some 18), none, .bin .add (.t 8) (.c (.int .i64 (1)))⟩,
      ⟨(some 8), none, .mv (.t 18)⟩])))))))
  (.seq (.ops [⟨(some 4), none, .mv (.c (.int .i64 (-1)))⟩])
  (.ret)))⟩
theorem a27_ok : funcC Try.prog Try.f27 = some a27 := by kernel_rfl
/-- permafrost/space.Take$1 -/
def a28 : AFunc := ⟨2, [.tmp 3],
  .seq (.ops [⟨(some 2), none, .box (.t 0)⟩,
    ⟨(some 3), none, .mv (.c (.bool false))⟩])
  (.seq (.ops [⟨(some 4), none, .fieldAddr 1 (.t 2)⟩,
    ⟨(some 5), none, .load none (.t 4)⟩,
    ⟨(some 6), none, .load none (.t 1)⟩,
    ⟨(some 7), none, .bin .geq (.t 5) (.t 6)⟩,
    ⟨(some 3), none, .mv (.t 7)⟩])
  (.ret))⟩
theorem a28_ok : funcC Try.prog Try.f28 = some a28 := by kernel_rfl
/-- permafrost/space.swapped -/
def a29 : AFunc := ⟨4, [.tmp 8],
  .seq (.ops [⟨(some 8), none, .mv (.c (.slice none 0 0))⟩])
  (.seq (.draw [⟨⟨(some 9), none, .mv (.t 0)⟩, 0, []⟩,
    ⟨⟨(some 10), none, .mv (.t 1)⟩, 1, []⟩,
    ⟨⟨(some 11), none, .mv (.t 1)⟩, 2, []⟩,
    ⟨⟨(some 12), none, .sliceSl 2 (.t 9) none (some (.t 10)) (some (.t 11))⟩, 3, [0, 1, 2]⟩,
    ⟨⟨(some 13), none, .mv (.t 3)⟩, 4, []⟩,
    ⟨⟨(some 15), none, .mv (.t 0)⟩, 6, []⟩,
    ⟨⟨(some 16), none, .mv (.t 2)⟩, 7, []⟩,
    ⟨⟨(some 17), none, .sliceSl 2 (.t 15) (some (.t 16)) none none⟩, 8, [5, 6]⟩,
    ⟨⟨(some 14), none, .append 2 16 (.t 12) (.t 13)⟩, 5, [0, 1, 2, 3, 4]⟩,
    ⟨⟨(some 18), none, .append 2 16 (.t 14) (.t 17)⟩, 9, [0, 1, 2, 3, 4, 5, 6, 7, 8]⟩,
    ⟨⟨(some 19), none, .call (.c (.func (.func 32) [] [])) [(.t 18)]⟩, 10, [0, 1, 2, 3, 4, 5, 6, 7, 8, 9]⟩,
    ⟨⟨(some 8), none, .mv (.t 19)⟩, 11, [0, 1, 2, 3, 4, 5, 6, 7, 8, 9, 10]⟩])
  (.ret))⟩
theorem a29_ok : funcC Try.prog Try.f29 = some a29 := by kernel_rfl
/-- slices.BinarySearchFunc[[]permafrost/space.Run,permafrost/space.Run,permafrost/space.Run] -/
def a30 : AFunc := ⟨3, [.tmp 6, .tmp 7],
  .seq (.ops [⟨(some 4), none, .box (.t 1)⟩,
    ⟨(some 6), none, .mv (.c (.int .i64 (0)))⟩,
    ⟨(some 7), none, .mv (.c (.bool false))⟩])
  (.seq (.ops [⟨(some 12), none, .mv (.t 0)⟩,
    ⟨(some 13), none, .lenSl (.t 12)⟩,
    ⟨(some 8), none, .mv (.t 13)⟩])
  (.seq (.ops [⟨(some 14), none, .mv (.t 8)⟩,
    ⟨(some 9), none, .mv (.c (.int .i64 (0)))⟩,
    ⟨(some 10), none, .mv (.t 14)⟩])
  (.seq (.block 0 (.loop (.seq (.seq (.ops [⟨(some 15), none, .mv (.t 9)⟩,
      ⟨(some 16), none, .mv (.t 10)⟩,
      ⟨(some 17), none, .bin .lss (.t 15) (.t 16)⟩])
    (.cond (.t 17)
     (.skip)
     (.exit 0)))
    (.block 1 (.seq (.ops [⟨(some 18), none, .mv (.t 9)⟩,
       ⟨(some 19), none, .mv (.t 10)⟩,
       ⟨(some 20), none, .bin .add (.t 18) (.t 19)⟩,
       ⟨(some 21), none, .toInt .u64 (.t 20)⟩,
       ⟨(some 22), none, .bin .shr (.t 21) (.c (.int .u64 (1)))⟩,
       ⟨(some 23), none, .toInt .i64 (.t 22)⟩,
       ⟨(some 11), none, .mv (.t 23)⟩])
     (.seq (.draw [⟨⟨(some 24), none, .mv (.t 2)⟩, 0, []⟩,
       ⟨⟨(some 25), none, .mv (.t 0)⟩, 1, []⟩,
       ⟨⟨(some 26), none, .mv (.t 11)⟩, 2, []⟩,
       ⟨⟨(some 27), none, .idxSl 2 (.t 25) (.t 26)⟩, 3, [1, 2]⟩,
       ⟨⟨(some 28), none, .load (some 2) (.t 27)⟩, 4, [1, 2, 3]⟩,
       ⟨⟨(some 29), none, .load (some 2) (.t 4)⟩, 5, []⟩,
       ⟨⟨(some 30), none, .call (.t 24) [(.t 28), (.t 29)]⟩, 6, [0, 1, 2, 3, 4, 5]⟩,
       ⟨⟨(some 31), none, .bin .lss (.t 30) (.c (.int .i64 (0)))⟩, 7, [0, 1, 2, 3, 4, 5, 6]⟩])
     (.cond (.t 31)
      (.ops [⟨(some 32), none, .mv (.t 11)⟩,
        ⟨(some 33), none, .bin .add (.t 32) (.c (.int .i64 (1)))⟩,
        ⟨(some 9), none, .mv (.t 33)⟩])
      (.ops [⟨(some 34), none, .mv (.t 11)⟩,
        ⟨(some 10), none, .mv (.t 34)⟩]))))))))
  (.seq (.draw [⟨⟨(some 35), none, .mv (.t 9)⟩, 0, []⟩,
    ⟨⟨(some 36), none, .mv (.t 9)⟩, 1, []⟩,
    ⟨⟨(some 37), none, .mv (.t 8)⟩, 2, []⟩,
    ⟨⟨(some 38), none, .bin .lss (.t 36) (.t 37)⟩, 3, [1, 2]⟩,
    ⟨⟨(some 39), none, .mv (.t 38)⟩, 4, [1, 2, 3]⟩,
    ⟨⟨(some 40), (some (39, true)), .mv (.t 2)⟩, 5, [1, 2, 3, 4]⟩,
    ⟨⟨(some 41), (some (39, true)), .mv (.t 0)⟩, 6, [1, 2, 3, 4]⟩,
    ⟨⟨(some 42), (some (39, true)), .mv (.t 9)⟩, 7, [1, 2, 3, 4]⟩,
    ⟨⟨(some 43), (some (39, true)), .idxSl 2 (.t 41) (.t 42)⟩, 8, [1, 2, 3, 4, 6, 7]⟩,
    ⟨⟨(some 44), (some (39, true)), .load (some 2) (.t 43)⟩, 9, [1, 2, 3, 4, 6, 7, 8]⟩,
    ⟨⟨(some 45), (some (39, true)), .load (some 2) (.t 4)⟩, 10, [1, 2, 3, 4]⟩,
    ⟨⟨(some 46), (some (39, true)), .call (.t 40) [(.t 44), (.t 45)]⟩, 11, [1, 2, 3, 4, 5, 6, 7, 8, 9, 10]⟩,
    ⟨⟨(some 47), (some (39, true)), .bin .eql (.t 46) (.c (.int .i64 (0)))⟩, 12, [1, 2, 3, 4, 5, 6, 7, 8, 9, 10, 11]⟩,
    ⟨⟨(some 48), none, .pick (.t 39) (.t 47) (.c (.bool false))⟩, 13, [1, 2, 3, 4, 5, 6, 7, 8, 9, 10, 11, 12]⟩,
    ⟨⟨(some 6), none, .mv (.t 35)⟩, 14, [0, 1, 2, 3, 4, 5, 6, 7, 8, 9, 10, 11]⟩,
    ⟨⟨(some 7), none, .mv (.t 48)⟩, 15, [0, 1, 2, 3, 4, 5, 6, 7, 8, 9, 10, 11, 12, 13, 14]⟩])
  (.ret)))))⟩
theorem a30_ok : funcC Try.prog Try.f30 = some a30 := by kernel_rfl
/-- permafrost/space.Give$1 -/
def a31 : AFunc := ⟨2, [.tmp 4],
  .seq (.ops [⟨(some 2), none, .box (.t 0)⟩,
    ⟨(some 3), none, .box (.t 1)⟩,
    ⟨(some 4), none, .mv (.c (.int .i64 (0)))⟩])
  (.seq (.ops [⟨(some 5), none, .fieldAddr 0 (.t 2)⟩,
    ⟨(some 6), none, .load none (.t 5)⟩,
    ⟨(some 7), none, .fieldAddr 0 (.t 3)⟩,
    ⟨(some 8), none, .load none (.t 7)⟩,
    ⟨(some 9), none, .bin .sub (.t 6) (.t 8)⟩,
    ⟨(some 4), none, .mv (.t 9)⟩])
  (.ret))⟩
theorem a31_ok : funcC Try.prog Try.f31 = some a31 := by kernel_rfl
/-- slices.Clone[[]permafrost/space.Run,permafrost/space.Run] -/
def a32 : AFunc := ⟨1, [.tmp 2],
  .seq (.ops [⟨(some 2), none, .mv (.c (.slice none 0 0))⟩])
  (.seq (.seq (.ops [⟨(some 3), none, .mv (.t 0)⟩,
    ⟨(some 4), none, .eq false (.flat .slice) (.t 3) (.c (.slice none 0 0))⟩])
  (.cond (.t 4)
   (.seq (.ops [⟨(some 2), none, .mv (.c (.slice none 0 0))⟩])
   (.ret))
   (.skip)))
  (.seq (.ops [⟨(some 5), none, .buildSl [] 0 []⟩,
    ⟨(some 6), none, .mv (.t 0)⟩,
    ⟨(some 7), none, .append 2 16 (.t 5) (.t 6)⟩,
    ⟨(some 2), none, .mv (.t 7)⟩])
  (.ret)))⟩
theorem a32_ok : funcC Try.prog Try.f32 = some a32 := by kernel_rfl
def tab : Nat → Option AFunc
  | 3 => some a3
  | 4 => some a4
  | 5 => some a5
  | 6 => some a6
  | 7 => some a7
  | 8 => some a8
  | 9 => some a9
  | 10 => some a10
  | 11 => some a11
  | 12 => some a12
  | 13 => some a13
  | 14 => some a14
  | 15 => some a15
  | 16 => some a16
  | 17 => some a17
  | 18 => some a18
  | 19 => some a19
  | 20 => some a20
  | 21 => some a21
  | 22 => some a22
  | 23 => some a23
  | 24 => some a24
  | 25 => some a25
  | 26 => some a26
  | 27 => some a27
  | 28 => some a28
  | 29 => some a29
  | 30 => some a30
  | 31 => some a31
  | 32 => some a32
  | _ => none
def cfg : Cfg := ⟨tab, fun _ _ _ => none⟩
theorem tab_ok : TableOk Try.prog cfg := by
  intro f af h
  have h : tab f = some af := h
  unfold tab at h
  split at h
  · cases h; exact ⟨_, Try.func3, a3_ok⟩
  · cases h; exact ⟨_, Try.func4, a4_ok⟩
  · cases h; exact ⟨_, Try.func5, a5_ok⟩
  · cases h; exact ⟨_, Try.func6, a6_ok⟩
  · cases h; exact ⟨_, Try.func7, a7_ok⟩
  · cases h; exact ⟨_, Try.func8, a8_ok⟩
  · cases h; exact ⟨_, Try.func9, a9_ok⟩
  · cases h; exact ⟨_, Try.func10, a10_ok⟩
  · cases h; exact ⟨_, Try.func11, a11_ok⟩
  · cases h; exact ⟨_, Try.func12, a12_ok⟩
  · cases h; exact ⟨_, Try.func13, a13_ok⟩
  · cases h; exact ⟨_, Try.func14, a14_ok⟩
  · cases h; exact ⟨_, Try.func15, a15_ok⟩
  · cases h; exact ⟨_, Try.func16, a16_ok⟩
  · cases h; exact ⟨_, Try.func17, a17_ok⟩
  · cases h; exact ⟨_, Try.func18, a18_ok⟩
  · cases h; exact ⟨_, Try.func19, a19_ok⟩
  · cases h; exact ⟨_, Try.func20, a20_ok⟩
  · cases h; exact ⟨_, Try.func21, a21_ok⟩
  · cases h; exact ⟨_, Try.func22, a22_ok⟩
  · cases h; exact ⟨_, Try.func23, a23_ok⟩
  · cases h; exact ⟨_, Try.func24, a24_ok⟩
  · cases h; exact ⟨_, Try.func25, a25_ok⟩
  · cases h; exact ⟨_, Try.func26, a26_ok⟩
  · cases h; exact ⟨_, Try.func27, a27_ok⟩
  · cases h; exact ⟨_, Try.func28, a28_ok⟩
  · cases h; exact ⟨_, Try.func29, a29_ok⟩
  · cases h; exact ⟨_, Try.func30, a30_ok⟩
  · cases h; exact ⟨_, Try.func31, a31_ok⟩
  · cases h; exact ⟨_, Try.func32, a32_ok⟩
  · cases h
theorem sum_ok (B : Nat) (w0 : World) : SumOk Try.prog B w0 cfg := fun f args h v h' hx => by cases hx
end Abs
end Go.Proofs.Ytkdoemlhjhmfhaa
