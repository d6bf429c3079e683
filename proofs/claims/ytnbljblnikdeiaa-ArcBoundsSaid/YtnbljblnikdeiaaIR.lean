/- The functions of these statements, as the abstract machine's code: each is what the machine reads off the program; the table of them. -/
import Derived.Test.YtnbljblnikdeiaaProg
import Derived.KernelRfl
import Derived.Test.YtnbljblnikdeiaaA17
namespace Go.Proofs.Ytnbljblnikdeiaa
namespace Abs
set_option linter.unusedVariables false
set_option maxRecDepth 100000
/-- permafrost/permafrostlaw11.ArcScripts -/
def a3 : AFunc := ⟨2, [.tmp 4],
  .seq (.ops [⟨(some 4), none, .mv (.c (.bool false))⟩])
  (.seq (.seq (.ops [⟨(some 13), none, .mv (.t 1)⟩,
    ⟨(some 14), none, .lenSl (.t 13)⟩,
    ⟨(some 15), none, .bin .gtr (.t 14) (.c (.int .i64 (200)))⟩])
  (.cond (.t 15)
   (.seq (.ops [⟨(some 16), none, .call (.c (.func (.func 9) [] [])) []⟩,
     ⟨(some 4), none, .mv (.t 16)⟩])
   (.ret))
   (.skip)))
  (.seq (.ops [⟨(some 17), none, .mv (.t 0)⟩,
    ⟨(some 18), none, .call (.c (.func (.func 10) [] [])) [(.t 17)]⟩,
    ⟨(some 5), none, .mv (.t 18)⟩])
  (.seq (.ops [⟨(some 19), none, .mv (.t 0)⟩,
    ⟨(some 20), none, .call (.c (.func (.func 11) [] [])) [(.t 19)]⟩,
    ⟨(some 6), none, .mv (.t 20)⟩])
  (.seq (.seq (.ops [⟨(some 21), none, .mv (.t 6)⟩,
    ⟨(some 22), none, .eq false (.flat .ptr) (.t 21) (.c (.ptr none))⟩])
  (.cond (.t 22)
   (.seq (.ops [⟨(some 23), none, .mv (.t 5)⟩,
     ⟨(some 24), none, .eq false (.flat .ptr) (.t 23) (.c (.ptr none))⟩,
     ⟨(some 25), none, .mv (.t 24)⟩,
     ⟨(some 26), (some (25, true)), .call (.c (.func (.func 9) [] [])) []⟩,
     ⟨(some 27), none, .pick (.t 25) (.t 26) (.c (.bool false))⟩,
     ⟨(some 4), none, .mv (.t 27)⟩])
   (.ret))
   (.skip)))
  (.seq (.seq (.ops [⟨(some 28), none, .mv (.t 5)⟩,
    ⟨(some 29), none, .eq false (.flat .ptr) (.t 28) (.c (.ptr none))⟩])
  (.cond (.t 29)
   (.seq (.ops [⟨(some 4), none, .mv (.c (.bool false))⟩])
   (.ret))
   (.skip)))
  (.seq (.seq (.ops [⟨(some 7), none, .mv (.c (.int .i64 (0)))⟩])
  (.block 0 (.loop (.seq (.seq (.ops [⟨(some 30), none, .mv (.t 7)⟩,
      ⟨(some 31), none, .mv (.t 1)⟩,
      ⟨(some 32), none, .lenSl (.t 31)⟩,
      ⟨(some 33), none, .bin .lss (.t 30) (.t 32)⟩])
    (.cond (.t 33)
     (.skip)
     (.exit 0)))
    (.seq (.block 1 (.seq (.ops [⟨(some 36), none, .mv (.t 1)⟩,
       ⟨(some 37), none, .mv (.t 7)⟩,
       ⟨(some 38), none, .idxSl 2 (.t 36) (.t 37)⟩,
       ⟨(some 39), none, .fieldAddr 1 (.t 38)⟩,
       ⟨(some 40), none, .load none (.t 39)⟩,
       ⟨(some 8), none, .mv (.t 40)⟩])
     (.seq (.seq (.ops [⟨(some 41), none, .mv (.t 8)⟩,
       ⟨(some 42), none, .lenStr (.t 41)⟩,
       ⟨(some 43), none, .bin .gtr (.t 42) (.c (.int .i64 (100)))⟩])
     (.cond (.t 43)
      (.seq (.ops [⟨(some 44), none, .call (.c (.func (.func 9) [] [])) []⟩,
        ⟨(some 4), none, .mv (.t 44)⟩])
      (.ret))
      (.skip)))
     (.seq (.seq (.ops [⟨(some 45), none, .mv (.t 1)⟩,
       ⟨(some 46), none, .mv (.t 7)⟩,
       ⟨(some 47), none, .idxSl 2 (.t 45) (.t 46)⟩,
       ⟨(some 48), none, .fieldAddr 0 (.t 47)⟩,
       ⟨(some 49), none, .load none (.t 48)⟩,
       ⟨(some 50), none, .bin .eql (.t 49) (.c (.int .i64 (0)))⟩])
     (.cond (.t 50)
      (.seq (.ops [⟨(some 52), none, .mv (.t 5)⟩,
        ⟨(some 53), none, .mv (.t 8)⟩,
        ⟨(some 54), none, .call (.c (.func (.func 12) [] [])) [(.t 52), (.t 53)]⟩,
        ⟨(some 51), none, .mv (.t 54)⟩,
        ⟨(some 55), none, .extract 0 (.t 51)⟩,
        ⟨(some 56), none, .extract 1 (.t 51)⟩,
        ⟨(some 9), none, .mv (.t 55)⟩,
        ⟨(some 10), none, .mv (.t 56)⟩])
      (.seq (.ops [⟨(some 58), none, .mv (.t 6)⟩,
        ⟨(some 59), none, .mv (.t 8)⟩,
        ⟨(some 60), none, .call (.c (.func (.func 13) [] [])) [(.t 58), (.t 59)]⟩,
        ⟨(some 57), none, .mv (.t 60)⟩,
        ⟨(some 61), none, .extract 0 (.t 57)⟩,
        ⟨(some 62), none, .extract 1 (.t 57)⟩,
        ⟨(some 11), none, .mv (.t 61)⟩,
        ⟨(some 12), none, .mv (.t 62)⟩])
      (.seq (.ops [⟨(some 63), none, .mv (.t 9)⟩,
        ⟨(some 64), none, .mv (.t 11)⟩,
        ⟨(some 65), none, .eq true (.flat .bool) (.t 63) (.t 64)⟩,
        ⟨(some 66), none, .mv (.t 65)⟩,
        ⟨(some 67), (some (66, false)), .mv (.t 10)⟩,
        ⟨(some 68), (some (66, false)), .mv (.t 12)⟩,
        ⟨(some 69), (some (66, false)), .bin .neq (.t 67) (.t 68)⟩,
        ⟨(some 70), none, .pick (.t 66) (.c (.bool true)) (.t 69)⟩])
      (.cond (.t 70)
       (.seq (.ops [⟨(some 4), none, .mv (.c (.bool false))⟩])
       (.ret))
       (.skip)))))
      (.seq (.ops [⟨(some 71), none, .mv (.t 5)⟩,
        ⟨(some 72), none, .mv (.t 8)⟩,
        ⟨(some 73), none, .call (.c (.func (.func 14) [] [])) [(.t 71), (.t 72)]⟩,
        ⟨(some 74), none, .mv (.t 6)⟩,
        ⟨(some 75), none, .mv (.t 8)⟩,
        ⟨(some 76), none, .call (.c (.func (.func 15) [] [])) [(.t 74), (.t 75)]⟩,
        ⟨(some 77), none, .eq true (.flat .bool) (.t 73) (.t 76)⟩])
      (.cond (.t 77)
       (.seq (.ops [⟨(some 4), none, .mv (.c (.bool false))⟩])
       (.ret))
       (.skip)))))
     (.seq (.ops [⟨(some 78), none, .mv (.t 5)⟩,
       ⟨(some 79), none, .mv (.t 6)⟩,
       ⟨(some 80), none, .call (.c (.func (.func 16) [] [])) [(.t 78), (.t 79)]⟩,
       ⟨(some 81), none, .not (.t 80)⟩,
       ⟨(some 82), none, .mv (.t 81)⟩,
       ⟨(some 83), (some (82, false)), .mv (.t 5)⟩,
       ⟨(some 84), (some (82, false)), .mv (.t 8)⟩,
       ⟨(some 85), (some (82, false)), .call (.c (.func (.func 17) [] [])) [(.t 83), (.t 84)]⟩,
       ⟨(some 86), (some (82, false)), .mv (.t 6)⟩,
       ⟨(some 87), (some (82, false)), .mv (.t 8)⟩,
       ⟨(some 88), (some (82, false)), .call (.c (.func (.func 18) [] [])) [(.t 86), (.t 87)]⟩,
       ⟨(some 89), (some (82, false)), .eq true (.flat .bool) (.t 85) (.t 88)⟩,
       ⟨(some 90), none, .pick (.t 82) (.c (.bool true)) (.t 89)⟩])
     (.cond (.t 90)
      (.seq (.ops [⟨(some 4), none, .mv (.c (.bool false))⟩])
      (.ret))
      (.skip)))))))
    (.ops [⟨(some 34), none, .mv (.t 7)⟩,
      ⟨(some 35), none, .bin .add (.t 34) (.c (.int .i64 (1)))⟩,
      ⟨(some 7), none, .mv (.t 35)⟩]))))))
  (.seq (.ops [⟨(some 91), none, .call (.c (.func (.func 9) [] [])) []⟩,
    ⟨(some 4), none, .mv (.t 91)⟩])
  (.ret))))))))⟩
theorem a3_ok : funcC Try.prog Try.f3 = some a3 := by kernel_rfl
/-- permafrost/permafrostlaw11.ArcBounds -/
def a4 : AFunc := ⟨2, [.tmp 4],
  .seq (.ops [⟨(some 4), none, .mv (.c (.bool false))⟩])
  (.seq (.seq (.ops [⟨(some 14), none, .mv (.t 1)⟩,
    ⟨(some 15), none, .lenSl (.t 14)⟩,
    ⟨(some 16), none, .bin .gtr (.t 15) (.c (.int .i64 (200)))⟩,
    ⟨(some 17), none, .mv (.t 16)⟩,
    ⟨(some 18), (some (17, false)), .mv (.t 0)⟩,
    ⟨(some 19), (some (17, false)), .bin .lss (.t 18) (.c (.int .i64 (1)))⟩,
    ⟨(some 20), none, .pick (.t 17) (.c (.bool true)) (.t 19)⟩,
    ⟨(some 21), none, .mv (.t 20)⟩,
    ⟨(some 22), (some (21, false)), .mv (.t 0)⟩,
    ⟨(some 23), (some (21, false)), .bin .gtr (.t 22) (.c (.int .i64 (64)))⟩,
    ⟨(some 24), none, .pick (.t 21) (.c (.bool true)) (.t 23)⟩])
  (.cond (.t 24)
   (.seq (.ops [⟨(some 25), none, .call (.c (.func (.func 9) [] [])) []⟩,
     ⟨(some 4), none, .mv (.t 25)⟩])
   (.ret))
   (.skip)))
  (.seq (.ops [⟨(some 26), none, .mv (.t 0)⟩,
    ⟨(some 27), none, .call (.c (.func (.func 10) [] [])) [(.t 26)]⟩,
    ⟨(some 5), none, .mv (.t 27)⟩])
  (.seq (.seq (.ops [⟨(some 28), none, .mv (.t 5)⟩,
    ⟨(some 29), none, .eq false (.flat .ptr) (.t 28) (.c (.ptr none))⟩])
  (.cond (.t 29)
   (.seq (.ops [⟨(some 4), none, .mv (.c (.bool false))⟩])
   (.ret))
   (.skip)))
  (.seq (.seq (.ops [⟨(some 6), none, .mv (.c (.int .i64 (0)))⟩])
  (.block 0 (.loop (.seq (.seq (.ops [⟨(some 30), none, .mv (.t 6)⟩,
      ⟨(some 31), none, .mv (.t 1)⟩,
      ⟨(some 32), none, .lenSl (.t 31)⟩,
      ⟨(some 33), none, .bin .lss (.t 30) (.t 32)⟩])
    (.cond (.t 33)
     (.skip)
     (.exit 0)))
    (.seq (.block 1 (.seq (.seq (.ops [⟨(some 36), none, .mv (.t 1)⟩,
       ⟨(some 37), none, .mv (.t 6)⟩,
       ⟨(some 38), none, .idxSl 2 (.t 36) (.t 37)⟩,
       ⟨(some 39), none, .fieldAddr 0 (.t 38)⟩,
       ⟨(some 40), none, .load none (.t 39)⟩,
       ⟨(some 41), none, .bin .eql (.t 40) (.c (.int .i64 (0)))⟩])
     (.cond (.t 41)
      (.ops [⟨(some 42), none, .mv (.t 5)⟩,
        ⟨(some 43), none, .mv (.t 1)⟩,
        ⟨(some 44), none, .mv (.t 6)⟩,
        ⟨(some 45), none, .idxSl 2 (.t 43) (.t 44)⟩,
        ⟨(some 46), none, .fieldAddr 1 (.t 45)⟩,
        ⟨(some 47), none, .load none (.t 46)⟩,
        ⟨(some 48), none, .call (.c (.func (.func 12) [] [])) [(.t 42), (.t 47)]⟩])
      (.ops [⟨(some 49), none, .mv (.t 5)⟩,
        ⟨(some 50), none, .mv (.t 1)⟩,
        ⟨(some 51), none, .mv (.t 6)⟩,
        ⟨(some 52), none, .idxSl 2 (.t 50) (.t 51)⟩,
        ⟨(some 53), none, .fieldAddr 1 (.t 52)⟩,
        ⟨(some 54), none, .load none (.t 53)⟩,
        ⟨(some 55), none, .call (.c (.func (.func 14) [] [])) [(.t 49), (.t 54)]⟩])))
     (.seq (.ops [⟨(some 57), none, .mv (.t 5)⟩,
       ⟨(some 58), none, .call (.c (.func (.func 19) [] [])) [(.t 57)]⟩,
       ⟨(some 56), none, .mv (.t 58)⟩,
       ⟨(some 59), none, .extract 0 (.t 56)⟩,
       ⟨(some 60), none, .extract 1 (.t 56)⟩,
       ⟨(some 61), none, .extract 2 (.t 56)⟩,
       ⟨(some 62), none, .extract 3 (.t 56)⟩,
       ⟨(some 7), none, .mv (.t 59)⟩,
       ⟨(some 8), none, .mv (.t 60)⟩,
       ⟨(some 9), none, .mv (.t 61)⟩,
       ⟨(some 10), none, .mv (.t 62)⟩])
     (.seq (.seq (.ops [⟨(some 63), none, .mv (.t 7)⟩,
       ⟨(some 64), none, .lenSl (.t 63)⟩,
       ⟨(some 65), none, .mv (.t 8)⟩,
       ⟨(some 66), none, .lenSl (.t 65)⟩,
       ⟨(some 67), none, .bin .add (.t 64) (.t 66)⟩,
       ⟨(some 68), none, .mv (.t 0)⟩,
       ⟨(some 69), none, .bin .gtr (.t 67) (.t 68)⟩,
       ⟨(some 70), none, .mv (.t 69)⟩,
       ⟨(some 71), (some (70, false)), .mv (.t 7)⟩,
       ⟨(some 72), (some (70, false)), .lenSl (.t 71)⟩,
       ⟨(some 73), (some (70, false)), .mv (.t 8)⟩,
       ⟨(some 74), (some (70, false)), .lenSl (.t 73)⟩,
       ⟨(some 75), (some (70, false)), .bin .add (.t 72) (.t 74)⟩,
       ⟨(some 76), (some (70, false)), .mv (.t 9)⟩,
       ⟨(some 77), (some (70, false)), .lenSl (.t 76)⟩,
       ⟨(some 78), (some (70, false)), .bin .add (.t 75) (.t 77)⟩,
       ⟨(some 79), (some (70, false)), .mv (.t 10)⟩,
       ⟨(some 80), (some (70, false)), .lenSl (.t 79)⟩,
       ⟨(some 81), (some (70, false)), .bin .add (.t 78) (.t 80)⟩,
       ⟨(some 82), (some (70, false)), .mv (.t 0)⟩,
       ⟨(some 83), (some (70, false)), .bin .mul (.c (.int .i64 (2))) (.t 82)⟩,
       ⟨(some 84), (some (70, false)), .bin .gtr (.t 81) (.t 83)⟩,
       ⟨(some 85), none, .pick (.t 70) (.c (.bool true)) (.t 84)⟩,
       ⟨(some 86), none, .mv (.t 85)⟩,
       ⟨(some 87), (some (86, false)), .mv (.t 5)⟩,
       ⟨(some 88), (some (86, false)), .call (.c (.func (.func 20) [] [])) [(.t 87)]⟩,
       ⟨(some 89), (some (86, false)), .bin .lss (.t 88) (.c (.int .i64 (0)))⟩,
       ⟨(some 90), none, .pick (.t 86) (.c (.bool true)) (.t 89)⟩,
       ⟨(some 91), none, .mv (.t 90)⟩,
       ⟨(some 92), (some (91, false)), .mv (.t 5)⟩,
       ⟨(some 93), (some (91, false)), .call (.c (.func (.func 20) [] [])) [(.t 92)]⟩,
       ⟨(some 94), (some (91, false)), .mv (.t 0)⟩,
       ⟨(some 95), (some (91, false)), .bin .gtr (.t 93) (.t 94)⟩,
       ⟨(some 96), none, .pick (.t 91) (.c (.bool true)) (.t 95)⟩])
     (.cond (.t 96)
      (.seq (.ops [⟨(some 4), none, .mv (.c (.bool false))⟩])
      (.ret))
      (.skip)))
     (.seq (.ops [⟨(some 11), none, .mv (.c (.slice none 0 0))⟩])
     (.seq (.ops [⟨(some 97), none, .mv (.t 11)⟩,
       ⟨(some 98), none, .mv (.t 7)⟩,
       ⟨(some 99), none, .append 1 16 (.t 97) (.t 98)⟩,
       ⟨(some 11), none, .mv (.t 99)⟩])
     (.seq (.ops [⟨(some 100), none, .mv (.t 11)⟩,
       ⟨(some 101), none, .mv (.t 8)⟩,
       ⟨(some 102), none, .append 1 16 (.t 100) (.t 101)⟩,
       ⟨(some 11), none, .mv (.t 102)⟩])
     (.seq (.ops [⟨(some 103), none, .mv (.t 11)⟩,
       ⟨(some 104), none, .mv (.t 9)⟩,
       ⟨(some 105), none, .append 1 16 (.t 103) (.t 104)⟩,
       ⟨(some 11), none, .mv (.t 105)⟩])
     (.seq (.ops [⟨(some 106), none, .mv (.t 11)⟩,
       ⟨(some 107), none, .mv (.t 10)⟩,
       ⟨(some 108), none, .append 1 16 (.t 106) (.t 107)⟩,
       ⟨(some 11), none, .mv (.t 108)⟩])
     (.seq (.ops [⟨(some 12), none, .mv (.c (.int .i64 (0)))⟩])
     (.block 2 (.loop (.seq (.seq (.ops [⟨(some 109), none, .mv (.t 12)⟩,
         ⟨(some 110), none, .mv (.t 11)⟩,
         ⟨(some 111), none, .lenSl (.t 110)⟩,
         ⟨(some 112), none, .bin .lss (.t 109) (.t 111)⟩])
       (.cond (.t 112)
        (.skip)
        (.exit 2)))
       (.seq (.block 3 (.seq (.ops [⟨(some 13), none, .mv (.c (.int .i64 (0)))⟩])
        (.block 4 (.loop (.seq (.seq (.ops [⟨(some 115), none, .mv (.t 13)⟩,
            ⟨(some 116), none, .mv (.t 12)⟩,
            ⟨(some 117), none, .bin .lss (.t 115) (.t 116)⟩])
          (.cond (.t 117)
           (.skip)
           (.exit 4)))
          (.seq (.block 5 (.seq (.draw [⟨⟨(some 120), none, .mv (.t 11)⟩, 0, []⟩,
             ⟨⟨(some 121), none, .mv (.t 13)⟩, 1, []⟩,
             ⟨⟨(some 122), none, .idxSl 1 (.t 120) (.t 121)⟩, 2, [0, 1]⟩,
             ⟨⟨(some 123), none, .load none (.t 122)⟩, 3, [0, 1, 2]⟩,
             ⟨⟨(some 124), none, .mv (.t 11)⟩, 4, []⟩,
             ⟨⟨(some 125), none, .mv (.t 12)⟩, 5, []⟩,
             ⟨⟨(some 126), none, .idxSl 1 (.t 124) (.t 125)⟩, 6, [4, 5]⟩,
             ⟨⟨(some 127), none, .load none (.t 126)⟩, 7, [4, 5, 6]⟩,
             ⟨⟨(some 128), none, .bin .eql (.t 123) (.t 127)⟩, 8, [0, 1, 2, 3, 4, 5, 6, 7]⟩])
           (.cond (.t 128)
            (.seq (.ops [⟨(some 4), none, .mv (.c (.bool false))⟩])
            (.ret))
            (.skip))))
          (.ops [⟨(some 118), none, .mv (.t 13)⟩,
            ⟨(some 119), none, .bin .add (.t 118) (.c (.int .i64 (1)))⟩,
            ⟨(some 13), none, .mv (.t 119)⟩])))))))
       (.ops [⟨(some 113), none, .mv (.t 12)⟩,
         ⟨(some 114), none, .bin .add (.t 113) (.c (.int .i64 (1)))⟩,
         ⟨(some 12), none, .mv (.t 114)⟩])))))))))))))))
    (.ops [⟨(some 34), none, .mv (.t 6)⟩,
      ⟨(some 35), none, .bin .add (.t 34) (.c (.int .i64 (1)))⟩,
      ⟨(some 6), none, .mv (.t 35)⟩]))))))
  (.seq (.ops [⟨(some 129), none, .call (.c (.func (.func 9) [] [])) []⟩,
    ⟨(some 4), none, .mv (.t 129)⟩])
  (.ret))))))⟩
theorem a4_ok : funcC Try.prog Try.f4 = some a4 := by kernel_rfl
/-- permafrost/permafrostlaw11.ArcLeaves -/
def a5 : AFunc := ⟨3, [.tmp 6],
  .seq (.ops [⟨(some 6), none, .mv (.c (.bool false))⟩])
  (.seq (.seq (.ops [⟨(some 18), none, .mv (.t 1)⟩,
    ⟨(some 19), none, .lenSl (.t 18)⟩,
    ⟨(some 20), none, .bin .gtr (.t 19) (.c (.int .i64 (100)))⟩,
    ⟨(some 21), none, .mv (.t 20)⟩,
    ⟨(some 22), (some (21, false)), .mv (.t 0)⟩,
    ⟨(some 23), (some (21, false)), .bin .lss (.t 22) (.c (.int .i64 (1)))⟩,
    ⟨(some 24), none, .pick (.t 21) (.c (.bool true)) (.t 23)⟩,
    ⟨(some 25), none, .mv (.t 24)⟩,
    ⟨(some 26), (some (25, false)), .mv (.t 0)⟩,
    ⟨(some 27), (some (25, false)), .bin .gtr (.t 26) (.c (.int .i64 (64)))⟩,
    ⟨(some 28), none, .pick (.t 25) (.c (.bool true)) (.t 27)⟩,
    ⟨(some 29), none, .mv (.t 28)⟩,
    ⟨(some 30), (some (29, false)), .mv (.t 2)⟩,
    ⟨(some 31), (some (29, false)), .bin .eql (.t 30) (.c (.str []))⟩,
    ⟨(some 32), none, .pick (.t 29) (.c (.bool true)) (.t 31)⟩])
  (.cond (.t 32)
   (.seq (.ops [⟨(some 33), none, .call (.c (.func (.func 9) [] [])) []⟩,
     ⟨(some 6), none, .mv (.t 33)⟩])
   (.ret))
   (.skip)))
  (.seq (.ops [⟨(some 34), none, .mv (.t 0)⟩,
    ⟨(some 35), none, .call (.c (.func (.func 10) [] [])) [(.t 34)]⟩,
    ⟨(some 7), none, .mv (.t 35)⟩])
  (.seq (.seq (.ops [⟨(some 36), none, .mv (.t 7)⟩,
    ⟨(some 37), none, .eq false (.flat .ptr) (.t 36) (.c (.ptr none))⟩])
  (.cond (.t 37)
   (.seq (.ops [⟨(some 6), none, .mv (.c (.bool false))⟩])
   (.ret))
   (.skip)))
  (.seq (.seq (.ops [⟨(some 8), none, .mv (.c (.int .i64 (0)))⟩])
  (.block 0 (.loop (.seq (.seq (.ops [⟨(some 38), none, .mv (.t 8)⟩,
      ⟨(some 39), none, .mv (.t 1)⟩,
      ⟨(some 40), none, .lenSl (.t 39)⟩,
      ⟨(some 41), none, .bin .lss (.t 38) (.t 40)⟩])
    (.cond (.t 41)
     (.skip)
     (.exit 0)))
    (.seq (.block 1 (.ops [⟨(some 44), none, .mv (.t 7)⟩,
       ⟨(some 45), none, .mv (.t 1)⟩,
       ⟨(some 46), none, .mv (.t 8)⟩,
       ⟨(some 47), none, .idxSl 2 (.t 45) (.t 46)⟩,
       ⟨(some 48), none, .fieldAddr 1 (.t 47)⟩,
       ⟨(some 49), none, .load none (.t 48)⟩,
       ⟨(some 50), none, .call (.c (.func (.func 12) [] [])) [(.t 44), (.t 49)]⟩]))
    (.ops [⟨(some 42), none, .mv (.t 8)⟩,
      ⟨(some 43), none, .bin .add (.t 42) (.c (.int .i64 (1)))⟩,
      ⟨(some 8), none, .mv (.t 43)⟩]))))))
  (.seq (.ops [⟨(some 52), none, .mv (.t 7)⟩,
    ⟨(some 53), none, .call (.c (.func (.func 19) [] [])) [(.t 52)]⟩,
    ⟨(some 51), none, .mv (.t 53)⟩,
    ⟨(some 54), none, .extract 0 (.t 51)⟩,
    ⟨(some 55), none, .extract 1 (.t 51)⟩,
    ⟨(some 56), none, .extract 2 (.t 51)⟩,
    ⟨(some 57), none, .extract 3 (.t 51)⟩,
    ⟨(some 9), none, .mv (.t 54)⟩,
    ⟨(some 10), none, .mv (.t 55)⟩,
    ⟨(some 11), none, .mv (.t 56)⟩,
    ⟨(some 12), none, .mv (.t 57)⟩])
  (.seq (.ops [⟨(some 13), none, .mv (.c (.slice none 0 0))⟩])
  (.seq (.ops [⟨(some 58), none, .mv (.t 13)⟩,
    ⟨(some 59), none, .mv (.t 9)⟩,
    ⟨(some 60), none, .append 1 16 (.t 58) (.t 59)⟩,
    ⟨(some 13), none, .mv (.t 60)⟩])
  (.seq (.ops [⟨(some 61), none, .mv (.t 13)⟩,
    ⟨(some 62), none, .mv (.t 10)⟩,
    ⟨(some 63), none, .append 1 16 (.t 61) (.t 62)⟩,
    ⟨(some 13), none, .mv (.t 63)⟩])
  (.seq (.ops [⟨(some 64), none, .mv (.t 7)⟩,
    ⟨(some 65), none, .mv (.t 2)⟩,
    ⟨(some 66), none, .call (.c (.func (.func 17) [] [])) [(.t 64), (.t 65)]⟩,
    ⟨(some 14), none, .mv (.t 66)⟩])
  (.seq (.ops [⟨(some 68), none, .mv (.t 7)⟩,
    ⟨(some 69), none, .mv (.t 2)⟩,
    ⟨(some 70), none, .call (.c (.func (.func 12) [] [])) [(.t 68), (.t 69)]⟩,
    ⟨(some 67), none, .mv (.t 70)⟩,
    ⟨(some 71), none, .extract 0 (.t 67)⟩,
    ⟨(some 72), none, .extract 1 (.t 67)⟩,
    ⟨(some 15), none, .mv (.t 71)⟩,
    ⟨(some 16), none, .mv (.t 72)⟩])
  (.seq (.seq (.ops [⟨(some 73), none, .mv (.t 15)⟩,
    ⟨(some 74), none, .mv (.t 14)⟩,
    ⟨(some 75), none, .eq true (.flat .bool) (.t 73) (.t 74)⟩,
    ⟨(some 76), none, .mv (.t 75)⟩,
    ⟨(some 77), (some (76, false)), .mv (.t 7)⟩,
    ⟨(some 78), (some (76, false)), .mv (.t 2)⟩,
    ⟨(some 79), (some (76, false)), .call (.c (.func (.func 17) [] [])) [(.t 77), (.t 78)]⟩,
    ⟨(some 80), (some (76, false)), .not (.t 79)⟩,
    ⟨(some 81), none, .pick (.t 76) (.c (.bool true)) (.t 80)⟩,
    ⟨(some 82), none, .mv (.t 81)⟩,
    ⟨(some 83), (some (82, false)), .mv (.t 16)⟩,
    ⟨(some 84), (some (82, false)), .mv (.t 2)⟩,
    ⟨(some 85), (some (82, false)), .bin .eql (.t 83) (.t 84)⟩,
    ⟨(some 86), none, .pick (.t 82) (.c (.bool true)) (.t 85)⟩])
  (.cond (.t 86)
   (.seq (.ops [⟨(some 6), none, .mv (.c (.bool false))⟩])
   (.ret))
   (.skip)))
  (.seq (.seq (.ops [⟨(some 17), none, .mv (.c (.int .i64 (0)))⟩])
  (.block 2 (.loop (.seq (.seq (.ops [⟨(some 87), none, .mv (.t 17)⟩,
      ⟨(some 88), none, .mv (.t 13)⟩,
      ⟨(some 89), none, .lenSl (.t 88)⟩,
      ⟨(some 90), none, .bin .lss (.t 87) (.t 89)⟩])
    (.cond (.t 90)
     (.skip)
     (.exit 2)))
    (.seq (.block 3 (.seq (.draw [⟨⟨(some 93), none, .mv (.t 7)⟩, 0, []⟩,
       ⟨⟨(some 94), none, .mv (.t 13)⟩, 1, []⟩,
       ⟨⟨(some 95), none, .mv (.t 17)⟩, 2, []⟩,
       ⟨⟨(some 96), none, .idxSl 1 (.t 94) (.t 95)⟩, 3, [1, 2]⟩,
       ⟨⟨(some 97), none, .load none (.t 96)⟩, 4, [1, 2, 3]⟩,
       ⟨⟨(some 99), none, .mv (.t 13)⟩, 6, []⟩,
       ⟨⟨(some 100), none, .mv (.t 17)⟩, 7, []⟩,
       ⟨⟨(some 101), none, .idxSl 1 (.t 99) (.t 100)⟩, 8, [5, 6]⟩,
       ⟨⟨(some 102), none, .load none (.t 101)⟩, 9, [5, 6, 7]⟩,
       ⟨⟨(some 103), none, .mv (.t 16)⟩, 10, []⟩,
       ⟨⟨(some 104), none, .bin .neq (.t 102) (.t 103)⟩, 11, [5, 6, 7, 8, 9]⟩,
       ⟨⟨(some 98), none, .call (.c (.func (.func 17) [] [])) [(.t 93), (.t 97)]⟩, 5, [0, 1, 2, 3, 4]⟩,
       ⟨⟨(some 105), none, .eq true (.flat .bool) (.t 98) (.t 104)⟩, 12, [0, 1, 2, 3, 4, 5, 6, 7, 8, 9, 10, 11]⟩])
     (.cond (.t 105)
      (.seq (.ops [⟨(some 6), none, .mv (.c (.bool false))⟩])
      (.ret))
      (.skip))))
    (.ops [⟨(some 91), none, .mv (.t 17)⟩,
      ⟨(some 92), none, .bin .add (.t 91) (.c (.int .i64 (1)))⟩,
      ⟨(some 17), none, .mv (.t 92)⟩]))))))
  (.seq (.ops [⟨(some 106), none, .mv (.t 16)⟩,
    ⟨(some 107), none, .bin .eql (.t 106) (.c (.str []))⟩,
    ⟨(some 108), none, .mv (.t 107)⟩,
    ⟨(some 109), (some (108, false)), .mv (.t 13)⟩,
    ⟨(some 110), (some (108, false)), .mv (.t 16)⟩,
    ⟨(some 111), (some (108, false)), .call (.c (.func (.func 21) [] [])) [(.t 109), (.t 110)]⟩,
    ⟨(some 112), none, .pick (.t 108) (.c (.bool true)) (.t 111)⟩,
    ⟨(some 113), none, .mv (.t 112)⟩,
    ⟨(some 114), (some (113, true)), .call (.c (.func (.func 9) [] [])) []⟩,
    ⟨(some 115), none, .pick (.t 113) (.t 114) (.c (.bool false))⟩,
    ⟨(some 6), none, .mv (.t 115)⟩])
  (.ret))))))))))))))⟩
theorem a5_ok : funcC Try.prog Try.f5 = some a5 := by kernel_rfl
/-- permafrost/permafrostlaw11.ArcNil -/
def a6 : AFunc := ⟨1, [.tmp 2],
  .seq (.ops [⟨(some 2), none, .mv (.c (.bool false))⟩])
  (.seq (.ops [⟨(some 3), none, .mv (.c (.ptr none))⟩])
  (.seq (.ops [⟨(some 11), none, .mv (.t 3)⟩,
    ⟨(some 12), none, .mv (.t 0)⟩,
    ⟨(some 13), none, .call (.c (.func (.func 12) [] [])) [(.t 11), (.t 12)]⟩,
    ⟨(some 10), none, .mv (.t 13)⟩,
    ⟨(some 14), none, .extract 0 (.t 10)⟩,
    ⟨(some 15), none, .extract 1 (.t 10)⟩,
    ⟨(some 4), none, .mv (.t 14)⟩,
    ⟨(some 5), none, .mv (.t 15)⟩])
  (.seq (.ops [⟨(some 17), none, .mv (.t 3)⟩,
    ⟨(some 18), none, .call (.c (.func (.func 19) [] [])) [(.t 17)]⟩,
    ⟨(some 16), none, .mv (.t 18)⟩,
    ⟨(some 19), none, .extract 0 (.t 16)⟩,
    ⟨(some 20), none, .extract 1 (.t 16)⟩,
    ⟨(some 21), none, .extract 2 (.t 16)⟩,
    ⟨(some 22), none, .extract 3 (.t 16)⟩,
    ⟨(some 6), none, .mv (.t 19)⟩,
    ⟨(some 7), none, .mv (.t 20)⟩,
    ⟨(some 8), none, .mv (.t 21)⟩,
    ⟨(some 9), none, .mv (.t 22)⟩])
  (.seq (.ops [⟨(some 23), none, .mv (.t 4)⟩,
    ⟨(some 24), none, .not (.t 23)⟩,
    ⟨(some 25), none, .mv (.t 24)⟩,
    ⟨(some 26), (some (25, true)), .mv (.t 5)⟩,
    ⟨(some 27), (some (25, true)), .bin .eql (.t 26) (.c (.str []))⟩,
    ⟨(some 28), none, .pick (.t 25) (.t 27) (.c (.bool false))⟩,
    ⟨(some 29), none, .mv (.t 28)⟩,
    ⟨(some 30), (some (29, true)), .mv (.t 3)⟩,
    ⟨(some 31), (some (29, true)), .mv (.t 0)⟩,
    ⟨(some 32), (some (29, true)), .call (.c (.func (.func 17) [] [])) [(.t 30), (.t 31)]⟩,
    ⟨(some 33), (some (29, true)), .not (.t 32)⟩,
    ⟨(some 34), none, .pick (.t 29) (.t 33) (.c (.bool false))⟩,
    ⟨(some 35), none, .mv (.t 34)⟩,
    ⟨(some 36), (some (35, true)), .mv (.t 3)⟩,
    ⟨(some 37), (some (35, true)), .mv (.t 0)⟩,
    ⟨(some 38), (some (35, true)), .call (.c (.func (.func 14) [] [])) [(.t 36), (.t 37)]⟩,
    ⟨(some 39), (some (35, true)), .not (.t 38)⟩,
    ⟨(some 40), none, .pick (.t 35) (.t 39) (.c (.bool false))⟩,
    ⟨(some 41), none, .mv (.t 40)⟩,
    ⟨(some 42), (some (41, true)), .mv (.t 6)⟩,
    ⟨(some 43), (some (41, true)), .lenSl (.t 42)⟩,
    ⟨(some 44), (some (41, true)), .mv (.t 7)⟩,
    ⟨(some 45), (some (41, true)), .lenSl (.t 44)⟩,
    ⟨(some 46), (some (41, true)), .bin .add (.t 43) (.t 45)⟩,
    ⟨(some 47), (some (41, true)), .mv (.t 8)⟩,
    ⟨(some 48), (some (41, true)), .lenSl (.t 47)⟩,
    ⟨(some 49), (some (41, true)), .bin .add (.t 46) (.t 48)⟩,
    ⟨(some 50), (some (41, true)), .mv (.t 9)⟩,
    ⟨(some 51), (some (41, true)), .lenSl (.t 50)⟩,
    ⟨(some 52), (some (41, true)), .bin .add (.t 49) (.t 51)⟩,
    ⟨(some 53), (some (41, true)), .bin .eql (.t 52) (.c (.int .i64 (0)))⟩,
    ⟨(some 54), none, .pick (.t 41) (.t 53) (.c (.bool false))⟩,
    ⟨(some 55), none, .mv (.t 54)⟩,
    ⟨(some 56), (some (55, true)), .mv (.t 3)⟩,
    ⟨(some 57), (some (55, true)), .call (.c (.func (.func 20) [] [])) [(.t 56)]⟩,
    ⟨(some 58), (some (55, true)), .bin .eql (.t 57) (.c (.int .i64 (0)))⟩,
    ⟨(some 59), none, .pick (.t 55) (.t 58) (.c (.bool false))⟩,
    ⟨(some 60), none, .mv (.t 59)⟩,
    ⟨(some 61), (some (60, true)), .call (.c (.func (.func 9) [] [])) []⟩,
    ⟨(some 62), none, .pick (.t 60) (.t 61) (.c (.bool false))⟩,
    ⟨(some 2), none, .mv (.t 62)⟩])
  (.ret)))))⟩
theorem a6_ok : funcC Try.prog Try.f6 = some a6 := by kernel_rfl
/-- permafrost/permafrostlaw11.ArcOnce -/
def a7 : AFunc := ⟨2, [.tmp 4],
  .seq (.ops [⟨(some 4), none, .mv (.c (.bool false))⟩])
  (.seq (.seq (.ops [⟨(some 14), none, .mv (.t 0)⟩,
    ⟨(some 15), none, .bin .lss (.t 14) (.c (.int .i64 (1)))⟩,
    ⟨(some 16), none, .mv (.t 15)⟩,
    ⟨(some 17), (some (16, false)), .mv (.t 0)⟩,
    ⟨(some 18), (some (16, false)), .bin .gtr (.t 17) (.c (.int .i64 (64)))⟩,
    ⟨(some 19), none, .pick (.t 16) (.c (.bool true)) (.t 18)⟩,
    ⟨(some 20), none, .mv (.t 19)⟩,
    ⟨(some 21), (some (20, false)), .mv (.t 1)⟩,
    ⟨(some 22), (some (20, false)), .bin .lss (.t 21) (.c (.int .i64 (0)))⟩,
    ⟨(some 23), none, .pick (.t 20) (.c (.bool true)) (.t 22)⟩,
    ⟨(some 24), none, .mv (.t 23)⟩,
    ⟨(some 25), (some (24, false)), .mv (.t 1)⟩,
    ⟨(some 26), (some (24, false)), .bin .gtr (.t 25) (.c (.int .i64 (100)))⟩,
    ⟨(some 27), none, .pick (.t 24) (.c (.bool true)) (.t 26)⟩])
  (.cond (.t 27)
   (.seq (.ops [⟨(some 28), none, .call (.c (.func (.func 9) [] [])) []⟩,
     ⟨(some 4), none, .mv (.t 28)⟩])
   (.ret))
   (.skip)))
  (.seq (.ops [⟨(some 29), none, .mv (.t 0)⟩,
    ⟨(some 30), none, .call (.c (.func (.func 10) [] [])) [(.t 29)]⟩,
    ⟨(some 5), none, .mv (.t 30)⟩])
  (.seq (.seq (.ops [⟨(some 31), none, .mv (.t 5)⟩,
    ⟨(some 32), none, .eq false (.flat .ptr) (.t 31) (.c (.ptr none))⟩])
  (.cond (.t 32)
   (.seq (.ops [⟨(some 4), none, .mv (.c (.bool false))⟩])
   (.ret))
   (.skip)))
  (.seq (.seq (.ops [⟨(some 6), none, .mv (.c (.int .i64 (0)))⟩])
  (.block 0 (.loop (.seq (.seq (.ops [⟨(some 33), none, .mv (.t 6)⟩,
      ⟨(some 34), none, .mv (.t 1)⟩,
      ⟨(some 35), none, .bin .lss (.t 33) (.t 34)⟩])
    (.cond (.t 35)
     (.skip)
     (.exit 0)))
    (.seq (.block 1 (.seq (.ops [⟨(some 39), none, .mv (.t 5)⟩,
       ⟨(some 40), none, .mv (.t 6)⟩,
       ⟨(some 41), none, .toInt .u8 (.t 40)⟩,
       ⟨(some 42), none, .buildSl [(.int .u8 (0)), (.int .u8 (0))] 2 [(0, 1, (.c (.int .u8 (107)))), (1, 1, (.t 41))]⟩,
       ⟨(some 43), none, .toStr (.t 42)⟩,
       ⟨(some 44), none, .call (.c (.func (.func 12) [] [])) [(.t 39), (.t 43)]⟩,
       ⟨(some 38), none, .mv (.t 44)⟩,
       ⟨(some 45), none, .extract 0 (.t 38)⟩,
       ⟨(some 46), none, .extract 1 (.t 38)⟩,
       ⟨(some 7), none, .mv (.t 45)⟩,
       ⟨(some 8), none, .mv (.t 46)⟩])
     (.seq (.ops [⟨(some 9), none, .mv (.c (.str []))⟩])
     (.seq (.seq (.ops [⟨(some 47), none, .mv (.t 6)⟩,
       ⟨(some 48), none, .mv (.t 0)⟩,
       ⟨(some 49), none, .bin .geq (.t 47) (.t 48)⟩])
     (.cond (.t 49)
      (.ops [⟨(some 50), none, .mv (.t 6)⟩,
        ⟨(some 51), none, .mv (.t 0)⟩,
        ⟨(some 52), none, .bin .sub (.t 50) (.t 51)⟩,
        ⟨(some 53), none, .toInt .u8 (.t 52)⟩,
        ⟨(some 54), none, .buildSl [(.int .u8 (0)), (.int .u8 (0))] 2 [(0, 1, (.c (.int .u8 (107)))), (1, 1, (.t 53))]⟩,
        ⟨(some 55), none, .toStr (.t 54)⟩,
        ⟨(some 9), none, .mv (.t 55)⟩])
      (.skip)))
     (.seq (.ops [⟨(some 56), none, .mv (.t 7)⟩,
       ⟨(some 57), none, .mv (.t 56)⟩,
       ⟨(some 58), (some (57, false)), .mv (.t 8)⟩,
       ⟨(some 59), (some (57, false)), .mv (.t 9)⟩,
       ⟨(some 60), (some (57, false)), .bin .neq (.t 58) (.t 59)⟩,
       ⟨(some 61), none, .pick (.t 57) (.c (.bool true)) (.t 60)⟩])
     (.cond (.t 61)
      (.seq (.ops [⟨(some 4), none, .mv (.c (.bool false))⟩])
      (.ret))
      (.skip)))))))
    (.ops [⟨(some 36), none, .mv (.t 6)⟩,
      ⟨(some 37), none, .bin .add (.t 36) (.c (.int .i64 (1)))⟩,
      ⟨(some 6), none, .mv (.t 37)⟩]))))))
  (.seq (.ops [⟨(some 63), none, .mv (.t 5)⟩,
    ⟨(some 64), none, .call (.c (.func (.func 19) [] [])) [(.t 63)]⟩,
    ⟨(some 62), none, .mv (.t 64)⟩,
    ⟨(some 65), none, .extract 0 (.t 62)⟩,
    ⟨(some 66), none, .extract 1 (.t 62)⟩,
    ⟨(some 67), none, .extract 2 (.t 62)⟩,
    ⟨(some 68), none, .extract 3 (.t 62)⟩,
    ⟨(some 10), none, .mv (.t 65)⟩,
    ⟨(some 11), none, .mv (.t 66)⟩,
    ⟨(some 12), none, .mv (.t 67)⟩,
    ⟨(some 13), none, .mv (.t 68)⟩])
  (.seq (.ops [⟨(some 69), none, .mv (.t 10)⟩,
    ⟨(some 70), none, .lenSl (.t 69)⟩,
    ⟨(some 71), none, .mv (.t 1)⟩,
    ⟨(some 72), none, .mv (.t 0)⟩,
    ⟨(some 73), none, .min2 (.t 71) (.t 72)⟩,
    ⟨(some 74), none, .bin .eql (.t 70) (.t 73)⟩,
    ⟨(some 75), none, .mv (.t 74)⟩,
    ⟨(some 76), (some (75, true)), .mv (.t 11)⟩,
    ⟨(some 77), (some (75, true)), .lenSl (.t 76)⟩,
    ⟨(some 78), (some (75, true)), .mv (.t 12)⟩,
    ⟨(some 79), (some (75, true)), .lenSl (.t 78)⟩,
    ⟨(some 80), (some (75, true)), .bin .add (.t 77) (.t 79)⟩,
    ⟨(some 81), (some (75, true)), .mv (.t 13)⟩,
    ⟨(some 82), (some (75, true)), .lenSl (.t 81)⟩,
    ⟨(some 83), (some (75, true)), .bin .add (.t 80) (.t 82)⟩,
    ⟨(some 84), (some (75, true)), .bin .eql (.t 83) (.c (.int .i64 (0)))⟩,
    ⟨(some 85), none, .pick (.t 75) (.t 84) (.c (.bool false))⟩,
    ⟨(some 86), none, .mv (.t 85)⟩,
    ⟨(some 87), (some (86, true)), .call (.c (.func (.func 9) [] [])) []⟩,
    ⟨(some 88), none, .pick (.t 86) (.t 87) (.c (.bool false))⟩,
    ⟨(some 4), none, .mv (.t 88)⟩])
  (.ret)))))))⟩
theorem a7_ok : funcC Try.prog Try.f7 = some a7 := by kernel_rfl
/-- permafrost/permafrostlaw11.ArcAgain -/
def a8 : AFunc := ⟨3, [.tmp 6],
  .seq (.ops [⟨(some 6), none, .mv (.c (.bool false))⟩])
  (.seq (.seq (.ops [⟨(some 15), none, .mv (.t 1)⟩,
    ⟨(some 16), none, .lenSl (.t 15)⟩,
    ⟨(some 17), none, .bin .gtr (.t 16) (.c (.int .i64 (100)))⟩,
    ⟨(some 18), none, .mv (.t 17)⟩,
    ⟨(some 19), (some (18, false)), .mv (.t 0)⟩,
    ⟨(some 20), (some (18, false)), .bin .lss (.t 19) (.c (.int .i64 (1)))⟩,
    ⟨(some 21), none, .pick (.t 18) (.c (.bool true)) (.t 20)⟩,
    ⟨(some 22), none, .mv (.t 21)⟩,
    ⟨(some 23), (some (22, false)), .mv (.t 0)⟩,
    ⟨(some 24), (some (22, false)), .bin .gtr (.t 23) (.c (.int .i64 (64)))⟩,
    ⟨(some 25), none, .pick (.t 22) (.c (.bool true)) (.t 24)⟩,
    ⟨(some 26), none, .mv (.t 25)⟩,
    ⟨(some 27), (some (26, false)), .mv (.t 2)⟩,
    ⟨(some 28), (some (26, false)), .bin .eql (.t 27) (.c (.str []))⟩,
    ⟨(some 29), none, .pick (.t 26) (.c (.bool true)) (.t 28)⟩])
  (.cond (.t 29)
   (.seq (.ops [⟨(some 30), none, .call (.c (.func (.func 9) [] [])) []⟩,
     ⟨(some 6), none, .mv (.t 30)⟩])
   (.ret))
   (.skip)))
  (.seq (.ops [⟨(some 31), none, .mv (.t 0)⟩,
    ⟨(some 32), none, .call (.c (.func (.func 10) [] [])) [(.t 31)]⟩,
    ⟨(some 7), none, .mv (.t 32)⟩])
  (.seq (.seq (.ops [⟨(some 33), none, .mv (.t 7)⟩,
    ⟨(some 34), none, .eq false (.flat .ptr) (.t 33) (.c (.ptr none))⟩])
  (.cond (.t 34)
   (.seq (.ops [⟨(some 6), none, .mv (.c (.bool false))⟩])
   (.ret))
   (.skip)))
  (.seq (.seq (.ops [⟨(some 8), none, .mv (.c (.int .i64 (0)))⟩])
  (.block 0 (.loop (.seq (.seq (.ops [⟨(some 35), none, .mv (.t 8)⟩,
      ⟨(some 36), none, .mv (.t 1)⟩,
      ⟨(some 37), none, .lenSl (.t 36)⟩,
      ⟨(some 38), none, .bin .lss (.t 35) (.t 37)⟩])
    (.cond (.t 38)
     (.skip)
     (.exit 0)))
    (.seq (.block 1 (.ops [⟨(some 41), none, .mv (.t 7)⟩,
       ⟨(some 42), none, .mv (.t 1)⟩,
       ⟨(some 43), none, .mv (.t 8)⟩,
       ⟨(some 44), none, .idxSl 2 (.t 42) (.t 43)⟩,
       ⟨(some 45), none, .fieldAddr 1 (.t 44)⟩,
       ⟨(some 46), none, .load none (.t 45)⟩,
       ⟨(some 47), none, .call (.c (.func (.func 12) [] [])) [(.t 41), (.t 46)]⟩]))
    (.ops [⟨(some 39), none, .mv (.t 8)⟩,
      ⟨(some 40), none, .bin .add (.t 39) (.c (.int .i64 (1)))⟩,
      ⟨(some 8), none, .mv (.t 40)⟩]))))))
  (.seq (.ops [⟨(some 48), none, .mv (.t 7)⟩,
    ⟨(some 49), none, .mv (.t 2)⟩,
    ⟨(some 50), none, .call (.c (.func (.func 12) [] [])) [(.t 48), (.t 49)]⟩])
  (.seq (.ops [⟨(some 52), none, .mv (.t 7)⟩,
    ⟨(some 53), none, .mv (.t 2)⟩,
    ⟨(some 54), none, .call (.c (.func (.func 12) [] [])) [(.t 52), (.t 53)]⟩,
    ⟨(some 51), none, .mv (.t 54)⟩,
    ⟨(some 55), none, .extract 0 (.t 51)⟩,
    ⟨(some 56), none, .extract 1 (.t 51)⟩,
    ⟨(some 9), none, .mv (.t 55)⟩,
    ⟨(some 10), none, .mv (.t 56)⟩])
  (.seq (.ops [⟨(some 58), none, .mv (.t 7)⟩,
    ⟨(some 59), none, .call (.c (.func (.func 19) [] [])) [(.t 58)]⟩,
    ⟨(some 57), none, .mv (.t 59)⟩,
    ⟨(some 60), none, .extract 0 (.t 57)⟩,
    ⟨(some 61), none, .extract 1 (.t 57)⟩,
    ⟨(some 62), none, .extract 2 (.t 57)⟩,
    ⟨(some 63), none, .extract 3 (.t 57)⟩,
    ⟨(some 11), none, .mv (.t 60)⟩,
    ⟨(some 12), none, .mv (.t 61)⟩,
    ⟨(some 13), none, .mv (.t 62)⟩,
    ⟨(some 14), none, .mv (.t 63)⟩])
  (.seq (.ops [⟨(some 64), none, .mv (.t 9)⟩,
    ⟨(some 65), none, .mv (.t 64)⟩,
    ⟨(some 66), (some (65, true)), .mv (.t 10)⟩,
    ⟨(some 67), (some (65, true)), .bin .eql (.t 66) (.c (.str []))⟩,
    ⟨(some 68), none, .pick (.t 65) (.t 67) (.c (.bool false))⟩,
    ⟨(some 69), none, .mv (.t 68)⟩,
    ⟨(some 70), (some (69, true)), .mv (.t 12)⟩,
    ⟨(some 71), (some (69, true)), .lenSl (.t 70)⟩,
    ⟨(some 72), (some (69, true)), .bin .gtr (.t 71) (.c (.int .i64 (0)))⟩,
    ⟨(some 73), none, .pick (.t 69) (.t 72) (.c (.bool false))⟩,
    ⟨(some 74), none, .mv (.t 73)⟩,
    ⟨(some 75), (some (74, true)), .mv (.t 12)⟩,
    ⟨(some 76), (some (74, true)), .mv (.t 12)⟩,
    ⟨(some 77), (some (74, true)), .lenSl (.t 76)⟩,
    ⟨(some 78), (some (74, true)), .bin .sub (.t 77) (.c (.int .i64 (1)))⟩,
    ⟨(some 79), (some (74, true)), .idxSl 1 (.t 75) (.t 78)⟩,
    ⟨(some 80), (some (74, true)), .load none (.t 79)⟩,
    ⟨(some 81), (some (74, true)), .mv (.t 2)⟩,
    ⟨(some 82), (some (74, true)), .bin .eql (.t 80) (.t 81)⟩,
    ⟨(some 83), none, .pick (.t 74) (.t 82) (.c (.bool false))⟩,
    ⟨(some 84), none, .mv (.t 83)⟩,
    ⟨(some 85), (some (84, true)), .call (.c (.func (.func 9) [] [])) []⟩,
    ⟨(some 86), none, .pick (.t 84) (.t 85) (.c (.bool false))⟩,
    ⟨(some 6), none, .mv (.t 86)⟩])
  (.ret)))))))))⟩
theorem a8_ok : funcC Try.prog Try.f8 = some a8 := by kernel_rfl
/-- permafrost/permafrostlaw11.live -/
def a9 : AFunc := ⟨0, [.tmp 0],
  .seq (.ops [⟨(some 0), none, .mv (.c (.bool false))⟩])
  (.seq (.ops [⟨(some 14), none, .call (.c (.func (.func 10) [] [])) [(.c (.int .i64 (2)))]⟩,
    ⟨(some 1), none, .mv (.t 14)⟩])
  (.seq (.seq (.ops [⟨(some 15), none, .mv (.t 1)⟩,
    ⟨(some 16), none, .eq false (.flat .ptr) (.t 15) (.c (.ptr none))⟩])
  (.cond (.t 16)
   (.seq (.ops [⟨(some 0), none, .mv (.c (.bool false))⟩])
   (.ret))
   (.skip)))
  (.seq (.ops [⟨(some 18), none, .mv (.t 1)⟩,
    ⟨(some 19), none, .call (.c (.func (.func 12) [] [])) [(.t 18), (.c (.str [97]))]⟩,
    ⟨(some 17), none, .mv (.t 19)⟩,
    ⟨(some 20), none, .extract 0 (.t 17)⟩,
    ⟨(some 21), none, .extract 1 (.t 17)⟩,
    ⟨(some 2), none, .mv (.t 20)⟩,
    ⟨(some 3), none, .mv (.t 21)⟩])
  (.seq (.ops [⟨(some 23), none, .mv (.t 1)⟩,
    ⟨(some 24), none, .call (.c (.func (.func 12) [] [])) [(.t 23), (.c (.str [97]))]⟩,
    ⟨(some 22), none, .mv (.t 24)⟩,
    ⟨(some 25), none, .extract 0 (.t 22)⟩,
    ⟨(some 26), none, .extract 1 (.t 22)⟩,
    ⟨(some 4), none, .mv (.t 25)⟩,
    ⟨(some 5), none, .mv (.t 26)⟩])
  (.seq (.ops [⟨(some 27), none, .mv (.t 1)⟩,
    ⟨(some 28), none, .call (.c (.func (.func 12) [] [])) [(.t 27), (.c (.str [98]))]⟩])
  (.seq (.ops [⟨(some 30), none, .mv (.t 1)⟩,
    ⟨(some 31), none, .call (.c (.func (.func 12) [] [])) [(.t 30), (.c (.str [99]))]⟩,
    ⟨(some 29), none, .mv (.t 31)⟩,
    ⟨(some 32), none, .extract 0 (.t 29)⟩,
    ⟨(some 33), none, .extract 1 (.t 29)⟩,
    ⟨(some 6), none, .mv (.t 32)⟩,
    ⟨(some 7), none, .mv (.t 33)⟩])
  (.seq (.ops [⟨(some 35), none, .mv (.t 1)⟩,
    ⟨(some 36), none, .call (.c (.func (.func 19) [] [])) [(.t 35)]⟩,
    ⟨(some 34), none, .mv (.t 36)⟩,
    ⟨(some 37), none, .extract 0 (.t 34)⟩,
    ⟨(some 38), none, .extract 1 (.t 34)⟩,
    ⟨(some 39), none, .extract 2 (.t 34)⟩,
    ⟨(some 40), none, .extract 3 (.t 34)⟩,
    ⟨(some 8), none, .mv (.t 37)⟩,
    ⟨(some 9), none, .mv (.t 38)⟩,
    ⟨(some 10), none, .mv (.t 39)⟩,
    ⟨(some 11), none, .mv (.t 40)⟩])
  (.seq (.ops [⟨(some 42), none, .mv (.t 1)⟩,
    ⟨(some 43), none, .call (.c (.func (.func 12) [] [])) [(.t 42), (.c (.str [98]))]⟩,
    ⟨(some 41), none, .mv (.t 43)⟩,
    ⟨(some 44), none, .extract 0 (.t 41)⟩,
    ⟨(some 45), none, .extract 1 (.t 41)⟩,
    ⟨(some 12), none, .mv (.t 44)⟩,
    ⟨(some 13), none, .mv (.t 45)⟩])
  (.seq (.ops [⟨(some 46), none, .mv (.t 2)⟩,
    ⟨(some 47), none, .not (.t 46)⟩,
    ⟨(some 48), none, .mv (.t 47)⟩,
    ⟨(some 49), (some (48, true)), .mv (.t 3)⟩,
    ⟨(some 50), (some (48, true)), .bin .eql (.t 49) (.c (.str []))⟩,
    ⟨(some 51), none, .pick (.t 48) (.t 50) (.c (.bool false))⟩,
    ⟨(some 52), none, .mv (.t 51)⟩,
    ⟨(some 53), (some (52, true)), .mv (.t 4)⟩,
    ⟨(some 54), none, .pick (.t 52) (.t 53) (.c (.bool false))⟩,
    ⟨(some 55), none, .mv (.t 54)⟩,
    ⟨(some 56), (some (55, true)), .mv (.t 5)⟩,
    ⟨(some 57), (some (55, true)), .bin .eql (.t 56) (.c (.str []))⟩,
    ⟨(some 58), none, .pick (.t 55) (.t 57) (.c (.bool false))⟩,
    ⟨(some 59), none, .mv (.t 58)⟩,
    ⟨(some 60), (some (59, true)), .mv (.t 6)⟩,
    ⟨(some 61), (some (59, true)), .not (.t 60)⟩,
    ⟨(some 62), none, .pick (.t 59) (.t 61) (.c (.bool false))⟩,
    ⟨(some 63), none, .mv (.t 62)⟩,
    ⟨(some 64), (some (63, true)), .mv (.t 7)⟩,
    ⟨(some 65), (some (63, true)), .bin .eql (.t 64) (.c (.str [98]))⟩,
    ⟨(some 66), none, .pick (.t 63) (.t 65) (.c (.bool false))⟩,
    ⟨(some 67), none, .mv (.t 66)⟩,
    ⟨(some 68), (some (67, true)), .mv (.t 8)⟩,
    ⟨(some 69), (some (67, true)), .buildSl [(.str [])] 1 [(0, 1, (.c (.str [99])))]⟩,
    ⟨(some 70), (some (67, true)), .call (.c (.func (.func 22) [] [])) [(.t 68), (.t 69)]⟩,
    ⟨(some 71), none, .pick (.t 67) (.t 70) (.c (.bool false))⟩,
    ⟨(some 72), none, .mv (.t 71)⟩,
    ⟨(some 73), (some (72, true)), .mv (.t 9)⟩,
    ⟨(some 74), (some (72, true)), .buildSl [(.str [])] 1 [(0, 1, (.c (.str [97])))]⟩,
    ⟨(some 75), (some (72, true)), .call (.c (.func (.func 22) [] [])) [(.t 73), (.t 74)]⟩,
    ⟨(some 76), none, .pick (.t 72) (.t 75) (.c (.bool false))⟩,
    ⟨(some 77), none, .mv (.t 76)⟩,
    ⟨(some 78), (some (77, true)), .mv (.t 10)⟩,
    ⟨(some 79), (some (77, true)), .buildSl [(.str [])] 1 [(0, 1, (.c (.str [98])))]⟩,
    ⟨(some 80), (some (77, true)), .call (.c (.func (.func 22) [] [])) [(.t 78), (.t 79)]⟩,
    ⟨(some 81), none, .pick (.t 77) (.t 80) (.c (.bool false))⟩,
    ⟨(some 82), none, .mv (.t 81)⟩,
    ⟨(some 83), (some (82, true)), .mv (.t 11)⟩,
    ⟨(some 84), (some (82, true)), .lenSl (.t 83)⟩,
    ⟨(some 85), (some (82, true)), .bin .eql (.t 84) (.c (.int .i64 (0)))⟩,
    ⟨(some 86), none, .pick (.t 82) (.t 85) (.c (.bool false))⟩,
    ⟨(some 87), none, .mv (.t 86)⟩,
    ⟨(some 88), (some (87, true)), .mv (.t 12)⟩,
    ⟨(some 89), (some (87, true)), .not (.t 88)⟩,
    ⟨(some 90), none, .pick (.t 87) (.t 89) (.c (.bool false))⟩,
    ⟨(some 91), none, .mv (.t 90)⟩,
    ⟨(some 92), (some (91, true)), .mv (.t 13)⟩,
    ⟨(some 93), (some (91, true)), .bin .eql (.t 92) (.c (.str [97]))⟩,
    ⟨(some 94), none, .pick (.t 91) (.t 93) (.c (.bool false))⟩,
    ⟨(some 95), none, .mv (.t 94)⟩,
    ⟨(some 96), (some (95, true)), .mv (.t 1)⟩,
    ⟨(some 97), (some (95, true)), .call (.c (.func (.func 20) [] [])) [(.t 96)]⟩,
    ⟨(some 98), (some (95, true)), .bin .eql (.t 97) (.c (.int .i64 (1)))⟩,
    ⟨(some 99), none, .pick (.t 95) (.t 98) (.c (.bool false))⟩,
    ⟨(some 100), none, .mv (.t 99)⟩,
    ⟨(some 101), (some (100, true)), .mv (.t 1)⟩,
    ⟨(some 102), (some (100, true)), .call (.c (.func (.func 17) [] [])) [(.t 101), (.c (.str [98]))]⟩,
    ⟨(some 103), none, .pick (.t 100) (.t 102) (.c (.bool false))⟩,
    ⟨(some 104), none, .mv (.t 103)⟩,
    ⟨(some 105), (some (104, true)), .mv (.t 1)⟩,
    ⟨(some 106), (some (104, true)), .call (.c (.func (.func 14) [] [])) [(.t 105), (.c (.str [98]))]⟩,
    ⟨(some 107), none, .pick (.t 104) (.t 106) (.c (.bool false))⟩,
    ⟨(some 108), none, .mv (.t 107)⟩,
    ⟨(some 109), (some (108, true)), .mv (.t 1)⟩,
    ⟨(some 110), (some (108, true)), .call (.c (.func (.func 17) [] [])) [(.t 109), (.c (.str [98]))]⟩,
    ⟨(some 111), (some (108, true)), .not (.t 110)⟩,
    ⟨(some 112), none, .pick (.t 108) (.t 111) (.c (.bool false))⟩,
    ⟨(some 113), none, .mv (.t 112)⟩,
    ⟨(some 114), (some (113, true)), .call (.c (.func (.func 10) [] [])) [(.c (.int .i64 (0)))]⟩,
    ⟨(some 115), (some (113, true)), .eq false (.flat .ptr) (.t 114) (.c (.ptr none))⟩,
    ⟨(some 116), none, .pick (.t 113) (.t 115) (.c (.bool false))⟩,
    ⟨(some 0), none, .mv (.t 116)⟩])
  (.ret))))))))))⟩
theorem a9_ok : funcC Try.prog Try.f9 = some a9 := by kernel_rfl
/-- permafrost/arc.New -/
def a10 : AFunc := ⟨1, [.tmp 2],
  .seq (.ops [⟨(some 2), none, .mv (.c (.ptr none))⟩])
  (.seq (.seq (.ops [⟨(some 3), none, .mv (.t 0)⟩,
    ⟨(some 4), none, .bin .lss (.t 3) (.c (.int .i64 (1)))⟩,
    ⟨(some 5), none, .mv (.t 4)⟩,
    ⟨(some 6), (some (5, false)), .mv (.t 0)⟩,
    ⟨(some 7), (some (5, false)), .bin .gtr (.t 6) (.c (.int .i64 (64)))⟩,
    ⟨(some 8), none, .pick (.t 5) (.c (.bool true)) (.t 7)⟩])
  (.cond (.t 8)
   (.seq (.ops [⟨(some 2), none, .mv (.c (.ptr none))⟩])
   (.ret))
   (.skip)))
  (.seq (.ops [⟨(some 9), none, .mv (.t 0)⟩,
    ⟨(some 10), none, .build [(.slice none 0 0), (.slice none 0 0), (.slice none 0 0), (.slice none 0 0), (.int .i64 (0)), (.int .i64 (0))] [(5, 1, (.t 9))]⟩,
    ⟨(some 11), none, .box (.t 10)⟩,
    ⟨(some 2), none, .mv (.t 11)⟩])
  (.ret)))⟩
theorem a10_ok : funcC Try.prog Try.f10 = some a10 := by kernel_rfl
/-- permafrost/permafrostref11.New -/
def a11 : AFunc := ⟨1, [.tmp 2],
  .seq (.ops [⟨(some 2), none, .mv (.c (.ptr none))⟩])
  (.seq (.seq (.ops [⟨(some 3), none, .mv (.t 0)⟩,
    ⟨(some 4), none, .bin .lss (.t 3) (.c (.int .i64 (1)))⟩,
    ⟨(some 5), none, .mv (.t 4)⟩,
    ⟨(some 6), (some (5, false)), .mv (.t 0)⟩,
    ⟨(some 7), (some (5, false)), .bin .gtr (.t 6) (.c (.int .i64 (64)))⟩,
    ⟨(some 8), none, .pick (.t 5) (.c (.bool true)) (.t 7)⟩])
  (.cond (.t 8)
   (.seq (.ops [⟨(some 2), none, .mv (.c (.ptr none))⟩])
   (.ret))
   (.skip)))
  (.seq (.ops [⟨(some 9), none, .mv (.t 0)⟩,
    ⟨(some 10), none, .build [(.slice none 0 0), (.slice none 0 0), (.slice none 0 0), (.slice none 0 0), (.int .i64 (0)), (.int .i64 (0))] [(5, 1, (.t 9))]⟩,
    ⟨(some 11), none, .box (.t 10)⟩,
    ⟨(some 2), none, .mv (.t 11)⟩])
  (.ret)))⟩
theorem a11_ok : funcC Try.prog Try.f11 = some a11 := by kernel_rfl
/-- (*permafrost/arc.Arc).Ask -/
def a12 : AFunc := ⟨2, [.tmp 4, .tmp 5],
  .seq (.ops [⟨(some 4), none, .mv (.c (.bool false))⟩,
    ⟨(some 5), none, .mv (.c (.str []))⟩])
  (.seq (.seq (.ops [⟨(some 9), none, .mv (.t 0)⟩,
    ⟨(some 10), none, .eq false (.flat .ptr) (.t 9) (.c (.ptr none))⟩,
    ⟨(some 11), none, .mv (.t 10)⟩,
    ⟨(some 12), (some (11, false)), .mv (.t 1)⟩,
    ⟨(some 13), (some (11, false)), .bin .eql (.t 12) (.c (.str []))⟩,
    ⟨(some 14), none, .pick (.t 11) (.c (.bool true)) (.t 13)⟩])
  (.cond (.t 14)
   (.seq (.ops [⟨(some 4), none, .mv (.c (.bool false))⟩,
     ⟨(some 5), none, .mv (.c (.str []))⟩])
   (.ret))
   (.skip)))
  (.seq (.draw [⟨⟨(some 15), none, .mv (.t 0)⟩, 0, []⟩,
    ⟨⟨(some 16), none, .nilck (.t 15)⟩, 1, [0]⟩,
    ⟨⟨(some 17), none, .fieldAddr 2 (.t 16)⟩, 2, [0, 1]⟩,
    ⟨⟨(some 19), none, .mv (.t 0)⟩, 4, []⟩,
    ⟨⟨(some 20), none, .nilck (.t 19)⟩, 5, [3]⟩,
    ⟨⟨(some 21), none, .fieldAddr 3 (.t 20)⟩, 6, [3, 4]⟩,
    ⟨⟨(some 18), none, .call (.c (.func (.func 23) [] [])) [(.t 17)]⟩, 3, [0, 1, 2]⟩,
    ⟨⟨(some 22), none, .call (.c (.func (.func 23) [] [])) [(.t 21)]⟩, 7, [0, 1, 2, 3, 4, 5, 6]⟩,
    ⟨⟨(some 6), none, .mv (.t 18)⟩, 8, [0, 1, 2, 3, 4, 5, 6, 7]⟩,
    ⟨⟨(some 7), none, .mv (.t 22)⟩, 9, [0, 1, 2, 3, 4, 5, 6, 7, 8]⟩])
  (.seq (.ops [⟨(some 8), none, .mv (.c (.str []))⟩])
  (.seq (.block 0 (.seq (.ops [⟨(some 32), none, .mv (.t 0)⟩,
     ⟨(some 33), none, .mv (.t 1)⟩,
     ⟨(some 34), none, .call (.c (.func (.func 14) [] [])) [(.t 32), (.t 33)]⟩,
     ⟨(some 31), none, .mv (.t 34)⟩])
   (.cond (.t 31)
    (.seq (.ops [⟨(some 35), none, .mv (.t 0)⟩,
      ⟨(some 36), none, .nilck (.t 35)⟩,
      ⟨(some 37), none, .fieldAddr 1 (.t 36)⟩,
      ⟨(some 38), none, .mv (.t 1)⟩,
      ⟨(some 39), none, .call (.c (.func (.func 24) [] [])) [(.t 37), (.t 38)]⟩])
    (.seq (.ops [⟨(some 4), none, .mv (.c (.bool true))⟩,
      ⟨(some 5), none, .mv (.c (.str []))⟩])
    (.ret)))
    (.seq (.ops [⟨(some 41), none, .mv (.t 6)⟩,
      ⟨(some 42), none, .mv (.t 0)⟩,
      ⟨(some 43), none, .nilck (.t 42)⟩,
      ⟨(some 44), none, .fieldAddr 2 (.t 43)⟩,
      ⟨(some 45), none, .call (.c (.func (.func 23) [] [])) [(.t 44)]⟩,
      ⟨(some 46), none, .bin .gtr (.t 41) (.t 45)⟩,
      ⟨(some 40), none, .mv (.t 46)⟩])
    (.cond (.t 40)
     (.seq (.draw [⟨⟨(some 47), none, .mv (.t 0)⟩, 0, []⟩,
       ⟨⟨(some 48), none, .mv (.t 0)⟩, 1, []⟩,
       ⟨⟨(some 49), none, .nilck (.t 48)⟩, 2, [1]⟩,
       ⟨⟨(some 50), none, .fieldAddr 5 (.t 49)⟩, 3, [1, 2]⟩,
       ⟨⟨(some 51), none, .load none (.t 50)⟩, 4, [1, 2, 3]⟩,
       ⟨⟨(some 52), none, .mv (.t 0)⟩, 5, []⟩,
       ⟨⟨(some 53), none, .nilck (.t 52)⟩, 6, [5]⟩,
       ⟨⟨(some 54), none, .fieldAddr 4 (.t 53)⟩, 7, [5, 6]⟩,
       ⟨⟨(some 55), none, .load none (.t 54)⟩, 8, [5, 6, 7]⟩,
       ⟨⟨(some 56), none, .mv (.t 7)⟩, 9, []⟩,
       ⟨⟨(some 57), none, .mv (.t 6)⟩, 10, []⟩,
       ⟨⟨(some 58), none, .bin .quo (.t 56) (.t 57)⟩, 11, [9, 10]⟩,
       ⟨⟨(some 59), none, .max2 (.t 58) (.c (.int .i64 (1)))⟩, 12, [9, 10, 11]⟩,
       ⟨⟨(some 60), none, .bin .add (.t 55) (.t 59)⟩, 13, [5, 6, 7, 8, 9, 10, 11, 12]⟩,
       ⟨⟨(some 61), none, .min2 (.t 51) (.t 60)⟩, 14, [1, 2, 3, 4, 5, 6, 7, 8, 9, 10, 11, 12, 13]⟩,
       ⟨⟨(some 62), none, .nilck (.t 47)⟩, 15, [0, 1, 2, 3, 4, 5, 6, 7, 8, 9, 10, 11, 12, 13, 14]⟩,
       ⟨⟨(some 63), none, .fieldAddr 4 (.t 62)⟩, 16, [0, 1, 2, 3, 4, 5, 6, 7, 8, 9, 10, 11, 12, 13, 14, 15]⟩,
       ⟨⟨none, none, .store 1 (.t 63) (.t 61)⟩, 17, [0, 1, 2, 3, 4, 5, 6, 7, 8, 9, 10, 11, 12, 13, 14, 15, 16]⟩])
     (.ops [⟨(some 64), none, .mv (.t 0)⟩,
       ⟨(some 65), none, .call (.c (.func (.func 25) [] [])) [(.t 64), (.c (.bool false))]⟩,
       ⟨(some 8), none, .mv (.t 65)⟩]))
     (.seq (.ops [⟨(some 67), none, .mv (.t 7)⟩,
       ⟨(some 68), none, .mv (.t 0)⟩,
       ⟨(some 69), none, .nilck (.t 68)⟩,
       ⟨(some 70), none, .fieldAddr 3 (.t 69)⟩,
       ⟨(some 71), none, .call (.c (.func (.func 23) [] [])) [(.t 70)]⟩,
       ⟨(some 72), none, .bin .gtr (.t 67) (.t 71)⟩,
       ⟨(some 66), none, .mv (.t 72)⟩])
     (.cond (.t 66)
      (.seq (.draw [⟨⟨(some 73), none, .mv (.t 0)⟩, 0, []⟩,
        ⟨⟨(some 74), none, .mv (.t 0)⟩, 1, []⟩,
        ⟨⟨(some 75), none, .nilck (.t 74)⟩, 2, [1]⟩,
        ⟨⟨(some 76), none, .fieldAddr 4 (.t 75)⟩, 3, [1, 2]⟩,
        ⟨⟨(some 77), none, .load none (.t 76)⟩, 4, [1, 2, 3]⟩,
        ⟨⟨(some 78), none, .mv (.t 6)⟩, 5, []⟩,
        ⟨⟨(some 79), none, .mv (.t 7)⟩, 6, []⟩,
        ⟨⟨(some 80), none, .bin .quo (.t 78) (.t 79)⟩, 7, [5, 6]⟩,
        ⟨⟨(some 81), none, .max2 (.t 80) (.c (.int .i64 (1)))⟩, 8, [5, 6, 7]⟩,
        ⟨⟨(some 82), none, .bin .sub (.t 77) (.t 81)⟩, 9, [1, 2, 3, 4, 5, 6, 7, 8]⟩,
        ⟨⟨(some 83), none, .max2 (.c (.int .i64 (0))) (.t 82)⟩, 10, [1, 2, 3, 4, 5, 6, 7, 8, 9]⟩,
        ⟨⟨(some 84), none, .nilck (.t 73)⟩, 11, [0, 1, 2, 3, 4, 5, 6, 7, 8, 9, 10]⟩,
        ⟨⟨(some 85), none, .fieldAddr 4 (.t 84)⟩, 12, [0, 1, 2, 3, 4, 5, 6, 7, 8, 9, 10, 11]⟩,
        ⟨⟨none, none, .store 1 (.t 85) (.t 83)⟩, 13, [0, 1, 2, 3, 4, 5, 6, 7, 8, 9, 10, 11, 12]⟩])
      (.ops [⟨(some 86), none, .mv (.t 0)⟩,
        ⟨(some 87), none, .call (.c (.func (.func 25) [] [])) [(.t 86), (.c (.bool true))]⟩,
        ⟨(some 8), none, .mv (.t 87)⟩]))
      (.seq (.ops [⟨(some 23), none, .mv (.t 0)⟩,
        ⟨(some 24), none, .call (.c (.func (.func 26) [] [])) [(.t 23)]⟩,
        ⟨(some 8), none, .mv (.t 24)⟩])
      (.seq (.ops [⟨(some 25), none, .mv (.t 0)⟩,
        ⟨(some 26), none, .nilck (.t 25)⟩,
        ⟨(some 27), none, .fieldAddr 0 (.t 26)⟩,
        ⟨(some 28), none, .mv (.t 1)⟩,
        ⟨(some 29), none, .call (.c (.func (.func 24) [] [])) [(.t 27), (.t 28)]⟩])
      (.seq (.ops [⟨(some 30), none, .mv (.t 8)⟩,
        ⟨(some 4), none, .mv (.c (.bool false))⟩,
        ⟨(some 5), none, .mv (.t 30)⟩])
      (.ret)))))))))))
  (.seq (.ops [⟨(some 88), none, .mv (.t 0)⟩,
    ⟨(some 89), none, .nilck (.t 88)⟩,
    ⟨(some 90), none, .fieldAddr 1 (.t 89)⟩,
    ⟨(some 91), none, .mv (.t 1)⟩,
    ⟨(some 92), none, .call (.c (.func (.func 24) [] [])) [(.t 90), (.t 91)]⟩])
  (.seq (.ops [⟨(some 93), none, .mv (.t 8)⟩,
    ⟨(some 4), none, .mv (.c (.bool false))⟩,
    ⟨(some 5), none, .mv (.t 93)⟩])
  (.ret)))))))⟩
theorem a12_ok : funcC Try.prog Try.f12 = some a12 := by kernel_rfl
/-- (*permafrost/permafrostref11.Arc).Ask -/
def a13 : AFunc := ⟨2, [.tmp 4, .tmp 5],
  .seq (.ops [⟨(some 4), none, .mv (.c (.bool false))⟩,
    ⟨(some 5), none, .mv (.c (.str []))⟩])
  (.seq (.seq (.ops [⟨(some 8), none, .mv (.t 1)⟩,
    ⟨(some 9), none, .bin .eql (.t 8) (.c (.str []))⟩])
  (.cond (.t 9)
   (.seq (.ops [⟨(some 4), none, .mv (.c (.bool false))⟩,
     ⟨(some 5), none, .mv (.c (.str []))⟩])
   (.ret))
   (.skip)))
  (.seq (.seq (.ops [⟨(some 10), none, .mv (.t 0)⟩,
    ⟨(some 11), none, .mv (.t 1)⟩,
    ⟨(some 12), none, .call (.c (.func (.func 18) [] [])) [(.t 10), (.t 11)]⟩])
  (.cond (.t 12)
   (.seq (.ops [⟨(some 13), none, .mv (.t 0)⟩,
     ⟨(some 14), none, .mv (.t 1)⟩,
     ⟨(some 15), none, .call (.c (.func (.func 15) [] [])) [(.t 13), (.t 14)]⟩])
   (.seq (.ops [⟨(some 16), none, .mv (.t 0)⟩,
     ⟨(some 17), none, .mv (.t 0)⟩,
     ⟨(some 18), none, .nilck (.t 17)⟩,
     ⟨(some 19), none, .fieldAddr 1 (.t 18)⟩,
     ⟨(some 20), none, .load none (.t 19)⟩,
     ⟨(some 21), none, .mv (.t 1)⟩,
     ⟨(some 22), none, .call (.c (.func (.func 27) [] [])) [(.t 20), (.t 21)]⟩,
     ⟨(some 23), none, .nilck (.t 16)⟩,
     ⟨(some 24), none, .fieldAddr 1 (.t 23)⟩,
     ⟨none, none, .store 1 (.t 24) (.t 22)⟩])
   (.seq (.ops [⟨(some 4), none, .mv (.c (.bool true))⟩,
     ⟨(some 5), none, .mv (.c (.str []))⟩])
   (.ret))))
   (.skip)))
  (.seq (.seq (.ops [⟨(some 25), none, .mv (.t 0)⟩,
    ⟨(some 26), none, .nilck (.t 25)⟩,
    ⟨(some 27), none, .fieldAddr 2 (.t 26)⟩,
    ⟨(some 28), none, .load none (.t 27)⟩,
    ⟨(some 29), none, .mv (.t 1)⟩,
    ⟨(some 30), none, .call (.c (.func (.func 21) [] [])) [(.t 28), (.t 29)]⟩,
    ⟨(some 31), none, .mv (.t 30)⟩,
    ⟨(some 32), (some (31, false)), .mv (.t 0)⟩,
    ⟨(some 33), (some (31, false)), .nilck (.t 32)⟩,
    ⟨(some 34), (some (31, false)), .fieldAddr 3 (.t 33)⟩,
    ⟨(some 35), (some (31, false)), .load none (.t 34)⟩,
    ⟨(some 36), (some (31, false)), .mv (.t 1)⟩,
    ⟨(some 37), (some (31, false)), .call (.c (.func (.func 21) [] [])) [(.t 35), (.t 36)]⟩,
    ⟨(some 38), none, .pick (.t 31) (.c (.bool true)) (.t 37)⟩])
  (.cond (.t 38)
   (.seq (.ops [⟨(some 39), none, .mv (.t 0)⟩,
     ⟨(some 40), none, .mv (.t 1)⟩,
     ⟨(some 41), none, .call (.c (.func (.func 28) [] [])) [(.t 39), (.t 40)]⟩,
     ⟨(some 4), none, .mv (.c (.bool false))⟩,
     ⟨(some 5), none, .mv (.t 41)⟩])
   (.ret))
   (.skip)))
  (.seq (.ops [⟨(some 6), none, .mv (.c (.str []))⟩])
  (.seq (.draw [⟨⟨(some 42), none, .mv (.t 0)⟩, 0, []⟩,
    ⟨⟨(some 43), none, .nilck (.t 42)⟩, 1, [0]⟩,
    ⟨⟨(some 44), none, .fieldAddr 0 (.t 43)⟩, 2, [0, 1]⟩,
    ⟨⟨(some 45), none, .load none (.t 44)⟩, 3, [0, 1, 2]⟩,
    ⟨⟨(some 46), none, .lenSl (.t 45)⟩, 4, [0, 1, 2, 3]⟩,
    ⟨⟨(some 47), none, .mv (.t 0)⟩, 5, []⟩,
    ⟨⟨(some 48), none, .nilck (.t 47)⟩, 6, [5]⟩,
    ⟨⟨(some 49), none, .fieldAddr 1 (.t 48)⟩, 7, [5, 6]⟩,
    ⟨⟨(some 50), none, .load none (.t 49)⟩, 8, [5, 6, 7]⟩,
    ⟨⟨(some 51), none, .lenSl (.t 50)⟩, 9, [5, 6, 7, 8]⟩,
    ⟨⟨(some 52), none, .bin .add (.t 46) (.t 51)⟩, 10, [0, 1, 2, 3, 4, 5, 6, 7, 8, 9]⟩,
    ⟨⟨(some 53), none, .mv (.t 0)⟩, 11, []⟩,
    ⟨⟨(some 54), none, .nilck (.t 53)⟩, 12, [11]⟩,
    ⟨⟨(some 55), none, .fieldAddr 2 (.t 54)⟩, 13, [11, 12]⟩,
    ⟨⟨(some 56), none, .load none (.t 55)⟩, 14, [11, 12, 13]⟩,
    ⟨⟨(some 57), none, .lenSl (.t 56)⟩, 15, [11, 12, 13, 14]⟩,
    ⟨⟨(some 58), none, .bin .add (.t 52) (.t 57)⟩, 16, [0, 1, 2, 3, 4, 5, 6, 7, 8, 9, 10, 11, 12, 13, 14, 15]⟩,
    ⟨⟨(some 59), none, .mv (.t 0)⟩, 17, []⟩,
    ⟨⟨(some 60), none, .nilck (.t 59)⟩, 18, [17]⟩,
    ⟨⟨(some 61), none, .fieldAddr 3 (.t 60)⟩, 19, [17, 18]⟩,
    ⟨⟨(some 62), none, .load none (.t 61)⟩, 20, [17, 18, 19]⟩,
    ⟨⟨(some 63), none, .lenSl (.t 62)⟩, 21, [17, 18, 19, 20]⟩,
    ⟨⟨(some 64), none, .bin .add (.t 58) (.t 63)⟩, 22, [0, 1, 2, 3, 4, 5, 6, 7, 8, 9, 10, 11, 12, 13, 14, 15, 16, 17, 18, 19, 20, 21]⟩,
    ⟨⟨(some 7), none, .mv (.t 64)⟩, 23, [0, 1, 2, 3, 4, 5, 6, 7, 8, 9, 10, 11, 12, 13, 14, 15, 16, 17, 18, 19, 20, 21, 22]⟩])
  (.seq (.seq (.draw [⟨⟨(some 65), none, .mv (.t 0)⟩, 0, []⟩,
    ⟨⟨(some 66), none, .nilck (.t 65)⟩, 1, [0]⟩,
    ⟨⟨(some 67), none, .fieldAddr 0 (.t 66)⟩, 2, [0, 1]⟩,
    ⟨⟨(some 68), none, .load none (.t 67)⟩, 3, [0, 1, 2]⟩,
    ⟨⟨(some 69), none, .lenSl (.t 68)⟩, 4, [0, 1, 2, 3]⟩,
    ⟨⟨(some 70), none, .mv (.t 0)⟩, 5, []⟩,
    ⟨⟨(some 71), none, .nilck (.t 70)⟩, 6, [5]⟩,
    ⟨⟨(some 72), none, .fieldAddr 2 (.t 71)⟩, 7, [5, 6]⟩,
    ⟨⟨(some 73), none, .load none (.t 72)⟩, 8, [5, 6, 7]⟩,
    ⟨⟨(some 74), none, .lenSl (.t 73)⟩, 9, [5, 6, 7, 8]⟩,
    ⟨⟨(some 75), none, .bin .add (.t 69) (.t 74)⟩, 10, [0, 1, 2, 3, 4, 5, 6, 7, 8, 9]⟩,
    ⟨⟨(some 76), none, .mv (.t 0)⟩, 11, []⟩,
    ⟨⟨(some 77), none, .nilck (.t 76)⟩, 12, [11]⟩,
    ⟨⟨(some 78), none, .fieldAddr 5 (.t 77)⟩, 13, [11, 12]⟩,
    ⟨⟨(some 79), none, .load none (.t 78)⟩, 14, [11, 12, 13]⟩,
    ⟨⟨(some 80), none, .bin .eql (.t 75) (.t 79)⟩, 15, [0, 1, 2, 3, 4, 5, 6, 7, 8, 9, 10, 11, 12, 13, 14]⟩])
  (.cond (.t 80)
   (.seq (.draw [⟨⟨(some 81), none, .mv (.t 0)⟩, 0, []⟩,
     ⟨⟨(some 82), none, .nilck (.t 81)⟩, 1, [0]⟩,
     ⟨⟨(some 83), none, .fieldAddr 0 (.t 82)⟩, 2, [0, 1]⟩,
     ⟨⟨(some 84), none, .load none (.t 83)⟩, 3, [0, 1, 2]⟩,
     ⟨⟨(some 85), none, .lenSl (.t 84)⟩, 4, [0, 1, 2, 3]⟩,
     ⟨⟨(some 86), none, .mv (.t 0)⟩, 5, []⟩,
     ⟨⟨(some 87), none, .nilck (.t 86)⟩, 6, [5]⟩,
     ⟨⟨(some 88), none, .fieldAddr 5 (.t 87)⟩, 7, [5, 6]⟩,
     ⟨⟨(some 89), none, .load none (.t 88)⟩, 8, [5, 6, 7]⟩,
     ⟨⟨(some 90), none, .bin .lss (.t 85) (.t 89)⟩, 9, [0, 1, 2, 3, 4, 5, 6, 7, 8]⟩])
   (.cond (.t 90)
    (.seq (.draw [⟨⟨(some 91), none, .mv (.t 0)⟩, 0, []⟩,
      ⟨⟨(some 92), none, .mv (.t 0)⟩, 1, []⟩,
      ⟨⟨(some 93), none, .nilck (.t 92)⟩, 2, [1]⟩,
      ⟨⟨(some 94), none, .fieldAddr 2 (.t 93)⟩, 3, [1, 2]⟩,
      ⟨⟨(some 95), none, .load none (.t 94)⟩, 4, [1, 2, 3]⟩,
      ⟨⟨(some 96), none, .mv (.t 0)⟩, 5, []⟩,
      ⟨⟨(some 97), none, .nilck (.t 96)⟩, 6, [5]⟩,
      ⟨⟨(some 98), none, .fieldAddr 2 (.t 97)⟩, 7, [5, 6]⟩,
      ⟨⟨(some 99), none, .load none (.t 98)⟩, 8, [5, 6, 7]⟩,
      ⟨⟨(some 100), none, .idxSl 1 (.t 99) (.c (.int .i64 (0)))⟩, 9, [5, 6, 7, 8]⟩,
      ⟨⟨(some 101), none, .load none (.t 100)⟩, 10, [5, 6, 7, 8, 9]⟩,
      ⟨⟨(some 102), none, .call (.c (.func (.func 29) [] [])) [(.t 95), (.t 101)]⟩, 11, [1, 2, 3, 4, 5, 6, 7, 8, 9, 10]⟩,
      ⟨⟨(some 103), none, .nilck (.t 91)⟩, 12, [0, 1, 2, 3, 4, 5, 6, 7, 8, 9, 10, 11]⟩,
      ⟨⟨(some 104), none, .fieldAddr 2 (.t 103)⟩, 13, [0, 1, 2, 3, 4, 5, 6, 7, 8, 9, 10, 11, 12]⟩,
      ⟨⟨none, none, .store 1 (.t 104) (.t 102)⟩, 14, [0, 1, 2, 3, 4, 5, 6, 7, 8, 9, 10, 11, 12, 13]⟩])
    (.ops [⟨(some 105), none, .mv (.t 0)⟩,
      ⟨(some 106), none, .call (.c (.func (.func 30) [] [])) [(.t 105), (.c (.bool false))]⟩,
      ⟨(some 6), none, .mv (.t 106)⟩]))
    (.seq (.ops [⟨(some 107), none, .mv (.t 0)⟩,
      ⟨(some 108), none, .nilck (.t 107)⟩,
      ⟨(some 109), none, .fieldAddr 0 (.t 108)⟩,
      ⟨(some 110), none, .load none (.t 109)⟩,
      ⟨(some 111), none, .idxSl 1 (.t 110) (.c (.int .i64 (0)))⟩,
      ⟨(some 112), none, .load none (.t 111)⟩,
      ⟨(some 6), none, .mv (.t 112)⟩])
    (.ops [⟨(some 113), none, .mv (.t 0)⟩,
      ⟨(some 114), none, .mv (.t 0)⟩,
      ⟨(some 115), none, .nilck (.t 114)⟩,
      ⟨(some 116), none, .fieldAddr 0 (.t 115)⟩,
      ⟨(some 117), none, .load none (.t 116)⟩,
      ⟨(some 118), none, .mv (.t 6)⟩,
      ⟨(some 119), none, .call (.c (.func (.func 29) [] [])) [(.t 117), (.t 118)]⟩,
      ⟨(some 120), none, .nilck (.t 113)⟩,
      ⟨(some 121), none, .fieldAddr 0 (.t 120)⟩,
      ⟨none, none, .store 1 (.t 121) (.t 119)⟩]))))
   (.seq (.ops [⟨(some 122), none, .mv (.t 7)⟩,
     ⟨(some 123), none, .mv (.t 0)⟩,
     ⟨(some 124), none, .nilck (.t 123)⟩,
     ⟨(some 125), none, .fieldAddr 5 (.t 124)⟩,
     ⟨(some 126), none, .load none (.t 125)⟩,
     ⟨(some 127), none, .bin .geq (.t 122) (.t 126)⟩])
   (.cond (.t 127)
    (.seq (.seq (.ops [⟨(some 128), none, .mv (.t 7)⟩,
      ⟨(some 129), none, .mv (.t 0)⟩,
      ⟨(some 130), none, .nilck (.t 129)⟩,
      ⟨(some 131), none, .fieldAddr 5 (.t 130)⟩,
      ⟨(some 132), none, .load none (.t 131)⟩,
      ⟨(some 133), none, .bin .mul (.c (.int .i64 (2))) (.t 132)⟩,
      ⟨(some 134), none, .bin .eql (.t 128) (.t 133)⟩])
    (.cond (.t 134)
     (.draw [⟨⟨(some 135), none, .mv (.t 0)⟩, 0, []⟩,
       ⟨⟨(some 136), none, .mv (.t 0)⟩, 1, []⟩,
       ⟨⟨(some 137), none, .nilck (.t 136)⟩, 2, [1]⟩,
       ⟨⟨(some 138), none, .fieldAddr 3 (.t 137)⟩, 3, [1, 2]⟩,
       ⟨⟨(some 139), none, .load none (.t 138)⟩, 4, [1, 2, 3]⟩,
       ⟨⟨(some 140), none, .mv (.t 0)⟩, 5, []⟩,
       ⟨⟨(some 141), none, .nilck (.t 140)⟩, 6, [5]⟩,
       ⟨⟨(some 142), none, .fieldAddr 3 (.t 141)⟩, 7, [5, 6]⟩,
       ⟨⟨(some 143), none, .load none (.t 142)⟩, 8, [5, 6, 7]⟩,
       ⟨⟨(some 144), none, .idxSl 1 (.t 143) (.c (.int .i64 (0)))⟩, 9, [5, 6, 7, 8]⟩,
       ⟨⟨(some 145), none, .load none (.t 144)⟩, 10, [5, 6, 7, 8, 9]⟩,
       ⟨⟨(some 146), none, .call (.c (.func (.func 29) [] [])) [(.t 139), (.t 145)]⟩, 11, [1, 2, 3, 4, 5, 6, 7, 8, 9, 10]⟩,
       ⟨⟨(some 147), none, .nilck (.t 135)⟩, 12, [0, 1, 2, 3, 4, 5, 6, 7, 8, 9, 10, 11]⟩,
       ⟨⟨(some 148), none, .fieldAddr 3 (.t 147)⟩, 13, [0, 1, 2, 3, 4, 5, 6, 7, 8, 9, 10, 11, 12]⟩,
       ⟨⟨none, none, .store 1 (.t 148) (.t 146)⟩, 14, [0, 1, 2, 3, 4, 5, 6, 7, 8, 9, 10, 11, 12, 13]⟩])
     (.skip)))
    (.ops [⟨(some 149), none, .mv (.t 0)⟩,
      ⟨(some 150), none, .call (.c (.func (.func 30) [] [])) [(.t 149), (.c (.bool false))]⟩,
      ⟨(some 6), none, .mv (.t 150)⟩]))
    (.skip)))))
  (.seq (.ops [⟨(some 151), none, .mv (.t 0)⟩,
    ⟨(some 152), none, .mv (.t 0)⟩,
    ⟨(some 153), none, .nilck (.t 152)⟩,
    ⟨(some 154), none, .fieldAddr 0 (.t 153)⟩,
    ⟨(some 155), none, .load none (.t 154)⟩,
    ⟨(some 156), none, .mv (.t 1)⟩,
    ⟨(some 157), none, .call (.c (.func (.func 27) [] [])) [(.t 155), (.t 156)]⟩,
    ⟨(some 158), none, .nilck (.t 151)⟩,
    ⟨(some 159), none, .fieldAddr 0 (.t 158)⟩,
    ⟨none, none, .store 1 (.t 159) (.t 157)⟩])
  (.seq (.ops [⟨(some 160), none, .mv (.t 6)⟩,
    ⟨(some 4), none, .mv (.c (.bool false))⟩,
    ⟨(some 5), none, .mv (.t 160)⟩])
  (.ret)))))))))⟩
theorem a13_ok : funcC Try.prog Try.f13 = some a13 := by kernel_rfl
/-- (*permafrost/arc.Arc).Drop -/
def a14 : AFunc := ⟨2, [.tmp 4],
  .seq (.ops [⟨(some 4), none, .mv (.c (.bool false))⟩])
  (.seq (.seq (.ops [⟨(some 6), none, .mv (.t 0)⟩,
    ⟨(some 7), none, .eq false (.flat .ptr) (.t 6) (.c (.ptr none))⟩])
  (.cond (.t 7)
   (.seq (.ops [⟨(some 4), none, .mv (.c (.bool false))⟩])
   (.ret))
   (.skip)))
  (.seq (.ops [⟨(some 8), none, .mv (.t 0)⟩,
    ⟨(some 9), none, .mv (.t 1)⟩,
    ⟨(some 10), none, .call (.c (.func (.func 17) [] [])) [(.t 8), (.t 9)]⟩,
    ⟨(some 5), none, .mv (.t 10)⟩])
  (.seq (.draw [⟨⟨(some 11), none, .mv (.t 1)⟩, 0, []⟩,
    ⟨⟨(some 12), none, .mv (.t 0)⟩, 1, []⟩,
    ⟨⟨(some 13), none, .nilck (.t 12)⟩, 2, [1]⟩,
    ⟨⟨(some 14), none, .fieldAddr 0 (.t 13)⟩, 3, [1, 2]⟩,
    ⟨⟨(some 15), none, .mv (.t 0)⟩, 4, []⟩,
    ⟨⟨(some 16), none, .nilck (.t 15)⟩, 5, [4]⟩,
    ⟨⟨(some 17), none, .fieldAddr 1 (.t 16)⟩, 6, [4, 5]⟩,
    ⟨⟨(some 18), none, .mv (.t 0)⟩, 7, []⟩,
    ⟨⟨(some 19), none, .nilck (.t 18)⟩, 8, [7]⟩,
    ⟨⟨(some 20), none, .fieldAddr 2 (.t 19)⟩, 9, [7, 8]⟩,
    ⟨⟨(some 21), none, .mv (.t 0)⟩, 10, []⟩,
    ⟨⟨(some 22), none, .nilck (.t 21)⟩, 11, [10]⟩,
    ⟨⟨(some 23), none, .fieldAddr 3 (.t 22)⟩, 12, [10, 11]⟩,
    ⟨⟨(some 24), none, .buildSl [(.ptr none), (.ptr none), (.ptr none), (.ptr none)] 4 [(0, 1, (.t 14)), (1, 1, (.t 17)), (2, 1, (.t 20)), (3, 1, (.t 23))]⟩, 13, [1, 2, 3, 4, 5, 6, 7, 8, 9, 10, 11, 12]⟩,
    ⟨⟨(some 25), none, .call (.c (.func (.func 31) [] [])) [(.c (.func (.func 32) [] [])), (.t 11), (.t 24)]⟩, 14, [0, 1, 2, 3, 4, 5, 6, 7, 8, 9, 10, 11, 12, 13]⟩])
  (.seq (.ops [⟨(some 26), none, .mv (.t 5)⟩,
    ⟨(some 4), none, .mv (.t 26)⟩])
  (.ret)))))⟩
theorem a14_ok : funcC Try.prog Try.f14 = some a14 := by kernel_rfl
/-- (*permafrost/permafrostref11.Arc).Drop -/
def a15 : AFunc := ⟨2, [.tmp 4],
  .seq (.ops [⟨(some 4), none, .mv (.c (.bool false))⟩])
  (.seq (.ops [⟨(some 6), none, .mv (.t 0)⟩,
    ⟨(some 7), none, .mv (.t 1)⟩,
    ⟨(some 8), none, .call (.c (.func (.func 18) [] [])) [(.t 6), (.t 7)]⟩,
    ⟨(some 5), none, .mv (.t 8)⟩])
  (.seq (.ops [⟨(some 9), none, .mv (.t 0)⟩,
    ⟨(some 10), none, .mv (.t 0)⟩,
    ⟨(some 11), none, .nilck (.t 10)⟩,
    ⟨(some 12), none, .fieldAddr 0 (.t 11)⟩,
    ⟨(some 13), none, .load none (.t 12)⟩,
    ⟨(some 14), none, .mv (.t 1)⟩,
    ⟨(some 15), none, .call (.c (.func (.func 29) [] [])) [(.t 13), (.t 14)]⟩,
    ⟨(some 16), none, .nilck (.t 9)⟩,
    ⟨(some 17), none, .fieldAddr 0 (.t 16)⟩,
    ⟨none, none, .store 1 (.t 17) (.t 15)⟩])
  (.seq (.ops [⟨(some 18), none, .mv (.t 0)⟩,
    ⟨(some 19), none, .mv (.t 0)⟩,
    ⟨(some 20), none, .nilck (.t 19)⟩,
    ⟨(some 21), none, .fieldAddr 1 (.t 20)⟩,
    ⟨(some 22), none, .load none (.t 21)⟩,
    ⟨(some 23), none, .mv (.t 1)⟩,
    ⟨(some 24), none, .call (.c (.func (.func 29) [] [])) [(.t 22), (.t 23)]⟩,
    ⟨(some 25), none, .nilck (.t 18)⟩,
    ⟨(some 26), none, .fieldAddr 1 (.t 25)⟩,
    ⟨none, none, .store 1 (.t 26) (.t 24)⟩])
  (.seq (.ops [⟨(some 27), none, .mv (.t 0)⟩,
    ⟨(some 28), none, .mv (.t 0)⟩,
    ⟨(some 29), none, .nilck (.t 28)⟩,
    ⟨(some 30), none, .fieldAddr 2 (.t 29)⟩,
    ⟨(some 31), none, .load none (.t 30)⟩,
    ⟨(some 32), none, .mv (.t 1)⟩,
    ⟨(some 33), none, .call (.c (.func (.func 29) [] [])) [(.t 31), (.t 32)]⟩,
    ⟨(some 34), none, .nilck (.t 27)⟩,
    ⟨(some 35), none, .fieldAddr 2 (.t 34)⟩,
    ⟨none, none, .store 1 (.t 35) (.t 33)⟩])
  (.seq (.ops [⟨(some 36), none, .mv (.t 0)⟩,
    ⟨(some 37), none, .mv (.t 0)⟩,
    ⟨(some 38), none, .nilck (.t 37)⟩,
    ⟨(some 39), none, .fieldAddr 3 (.t 38)⟩,
    ⟨(some 40), none, .load none (.t 39)⟩,
    ⟨(some 41), none, .mv (.t 1)⟩,
    ⟨(some 42), none, .call (.c (.func (.func 29) [] [])) [(.t 40), (.t 41)]⟩,
    ⟨(some 43), none, .nilck (.t 36)⟩,
    ⟨(some 44), none, .fieldAddr 3 (.t 43)⟩,
    ⟨none, none, .store 1 (.t 44) (.t 42)⟩])
  (.seq (.ops [⟨(some 45), none, .mv (.t 5)⟩,
    ⟨(some 4), none, .mv (.t 45)⟩])
  (.ret)))))))⟩
theorem a15_ok : funcC Try.prog Try.f15 = some a15 := by kernel_rfl
/-- permafrost/permafrostlaw11.same -/
def a16 : AFunc := ⟨2, [.tmp 4],
  .seq (.ops [⟨(some 4), none, .mv (.c (.bool false))⟩])
  (.seq (.ops [⟨(some 10), none, .mv (.t 0)⟩,
    ⟨(some 11), none, .call (.c (.func (.func 19) [] [])) [(.t 10)]⟩,
    ⟨(some 9), none, .mv (.t 11)⟩,
    ⟨(some 12), none, .extract 0 (.t 9)⟩,
    ⟨(some 13), none, .extract 1 (.t 9)⟩,
    ⟨(some 14), none, .extract 2 (.t 9)⟩,
    ⟨(some 15), none, .extract 3 (.t 9)⟩,
    ⟨(some 5), none, .mv (.t 12)⟩,
    ⟨(some 6), none, .mv (.t 13)⟩,
    ⟨(some 7), none, .mv (.t 14)⟩,
    ⟨(some 8), none, .mv (.t 15)⟩])
  (.seq (.draw [⟨⟨(some 16), none, .mv (.t 5)⟩, 0, []⟩,
    ⟨⟨(some 17), none, .mv (.t 1)⟩, 1, []⟩,
    ⟨⟨(some 18), none, .nilck (.t 17)⟩, 2, [1]⟩,
    ⟨⟨(some 19), none, .fieldAddr 0 (.t 18)⟩, 3, [1, 2]⟩,
    ⟨⟨(some 20), none, .load none (.t 19)⟩, 4, [1, 2, 3]⟩,
    ⟨⟨(some 21), none, .call (.c (.func (.func 22) [] [])) [(.t 16), (.t 20)]⟩, 5, [0, 1, 2, 3, 4]⟩,
    ⟨⟨(some 22), none, .mv (.t 21)⟩, 6, [0, 1, 2, 3, 4, 5]⟩,
    ⟨⟨(some 23), (some (22, true)), .mv (.t 6)⟩, 7, [0, 1, 2, 3, 4, 5, 6]⟩,
    ⟨⟨(some 24), (some (22, true)), .mv (.t 1)⟩, 8, [0, 1, 2, 3, 4, 5, 6]⟩,
    ⟨⟨(some 25), (some (22, true)), .nilck (.t 24)⟩, 9, [0, 1, 2, 3, 4, 5, 6, 8]⟩,
    ⟨⟨(some 26), (some (22, true)), .fieldAddr 1 (.t 25)⟩, 10, [0, 1, 2, 3, 4, 5, 6, 8, 9]⟩,
    ⟨⟨(some 27), (some (22, true)), .load none (.t 26)⟩, 11, [0, 1, 2, 3, 4, 5, 6, 8, 9, 10]⟩,
    ⟨⟨(some 28), (some (22, true)), .call (.c (.func (.func 22) [] [])) [(.t 23), (.t 27)]⟩, 12, [0, 1, 2, 3, 4, 5, 6, 7, 8, 9, 10, 11]⟩,
    ⟨⟨(some 29), none, .pick (.t 22) (.t 28) (.c (.bool false))⟩, 13, [0, 1, 2, 3, 4, 5, 6, 7, 8, 9, 10, 11, 12]⟩,
    ⟨⟨(some 30), none, .mv (.t 29)⟩, 14, [0, 1, 2, 3, 4, 5, 6, 7, 8, 9, 10, 11, 12, 13]⟩,
    ⟨⟨(some 31), (some (30, true)), .mv (.t 7)⟩, 15, [0, 1, 2, 3, 4, 5, 6, 7, 8, 9, 10, 11, 12, 13, 14]⟩,
    ⟨⟨(some 32), (some (30, true)), .mv (.t 1)⟩, 16, [0, 1, 2, 3, 4, 5, 6, 7, 8, 9, 10, 11, 12, 13, 14]⟩,
    ⟨⟨(some 33), (some (30, true)), .nilck (.t 32)⟩, 17, [0, 1, 2, 3, 4, 5, 6, 7, 8, 9, 10, 11, 12, 13, 14, 16]⟩,
    ⟨⟨(some 34), (some (30, true)), .fieldAddr 2 (.t 33)⟩, 18, [0, 1, 2, 3, 4, 5, 6, 7, 8, 9, 10, 11, 12, 13, 14, 16, 17]⟩,
    ⟨⟨(some 35), (some (30, true)), .load none (.t 34)⟩, 19, [0, 1, 2, 3, 4, 5, 6, 7, 8, 9, 10, 11, 12, 13, 14, 16, 17, 18]⟩,
    ⟨⟨(some 36), (some (30, true)), .call (.c (.func (.func 22) [] [])) [(.t 31), (.t 35)]⟩, 20, [0, 1, 2, 3, 4, 5, 6, 7, 8, 9, 10, 11, 12, 13, 14, 15, 16, 17, 18, 19]⟩,
    ⟨⟨(some 37), none, .pick (.t 30) (.t 36) (.c (.bool false))⟩, 21, [0, 1, 2, 3, 4, 5, 6, 7, 8, 9, 10, 11, 12, 13, 14, 15, 16, 17, 18, 19, 20]⟩,
    ⟨⟨(some 38), none, .mv (.t 37)⟩, 22, [0, 1, 2, 3, 4, 5, 6, 7, 8, 9, 10, 11, 12, 13, 14, 15, 16, 17, 18, 19, 20, 21]⟩,
    ⟨⟨(some 39), (some (38, true)), .mv (.t 8)⟩, 23, [0, 1, 2, 3, 4, 5, 6, 7, 8, 9, 10, 11, 12, 13, 14, 15, 16, 17, 18, 19, 20, 21, 22]⟩,
    ⟨⟨(some 40), (some (38, true)), .mv (.t 1)⟩, 24, [0, 1, 2, 3, 4, 5, 6, 7, 8, 9, 10, 11, 12, 13, 14, 15, 16, 17, 18, 19, 20, 21, 22]⟩,
    ⟨⟨(some 41), (some (38, true)), .nilck (.t 40)⟩, 25, [0, 1, 2, 3, 4, 5, 6, 7, 8, 9, 10, 11, 12, 13, 14, 15, 16, 17, 18, 19, 20, 21, 22, 24]⟩,
    ⟨⟨(some 42), (some (38, true)), .fieldAddr 3 (.t 41)⟩, 26, [0, 1, 2, 3, 4, 5, 6, 7, 8, 9, 10, 11, 12, 13, 14, 15, 16, 17, 18, 19, 20, 21, 22, 24, 25]⟩,
    ⟨⟨(some 43), (some (38, true)), .load none (.t 42)⟩, 27, [0, 1, 2, 3, 4, 5, 6, 7, 8, 9, 10, 11, 12, 13, 14, 15, 16, 17, 18, 19, 20, 21, 22, 24, 25, 26]⟩,
    ⟨⟨(some 44), (some (38, true)), .call (.c (.func (.func 22) [] [])) [(.t 39), (.t 43)]⟩, 28, [0, 1, 2, 3, 4, 5, 6, 7, 8, 9, 10, 11, 12, 13, 14, 15, 16, 17, 18, 19, 20, 21, 22, 23, 24, 25, 26, 27]⟩,
    ⟨⟨(some 45), none, .pick (.t 38) (.t 44) (.c (.bool false))⟩, 29, [0, 1, 2, 3, 4, 5, 6, 7, 8, 9, 10, 11, 12, 13, 14, 15, 16, 17, 18, 19, 20, 21, 22, 23, 24, 25, 26, 27, 28]⟩,
    ⟨⟨(some 46), none, .mv (.t 45)⟩, 30, [0, 1, 2, 3, 4, 5, 6, 7, 8, 9, 10, 11, 12, 13, 14, 15, 16, 17, 18, 19, 20, 21, 22, 23, 24, 25, 26, 27, 28, 29]⟩,
    ⟨⟨(some 47), (some (46, true)), .mv (.t 0)⟩, 31, [0, 1, 2, 3, 4, 5, 6, 7, 8, 9, 10, 11, 12, 13, 14, 15, 16, 17, 18, 19, 20, 21, 22, 23, 24, 25, 26, 27, 28, 29, 30]⟩,
    ⟨⟨(some 49), (some (46, true)), .mv (.t 1)⟩, 33, [0, 1, 2, 3, 4, 5, 6, 7, 8, 9, 10, 11, 12, 13, 14, 15, 16, 17, 18, 19, 20, 21, 22, 23, 24, 25, 26, 27, 28, 29, 30]⟩,
    ⟨⟨(some 50), (some (46, true)), .nilck (.t 49)⟩, 34, [0, 1, 2, 3, 4, 5, 6, 7, 8, 9, 10, 11, 12, 13, 14, 15, 16, 17, 18, 19, 20, 21, 22, 23, 24, 25, 26, 27, 28, 29, 30, 32]⟩,
    ⟨⟨(some 51), (some (46, true)), .fieldAddr 4 (.t 50)⟩, 35, [0, 1, 2, 3, 4, 5, 6, 7, 8, 9, 10, 11, 12, 13, 14, 15, 16, 17, 18, 19, 20, 21, 22, 23, 24, 25, 26, 27, 28, 29, 30, 32, 33]⟩,
    ⟨⟨(some 52), (some (46, true)), .load none (.t 51)⟩, 36, [0, 1, 2, 3, 4, 5, 6, 7, 8, 9, 10, 11, 12, 13, 14, 15, 16, 17, 18, 19, 20, 21, 22, 23, 24, 25, 26, 27, 28, 29, 30, 32, 33, 34]⟩,
    ⟨⟨(some 48), (some (46, true)), .call (.c (.func (.func 20) [] [])) [(.t 47)]⟩, 32, [0, 1, 2, 3, 4, 5, 6, 7, 8, 9, 10, 11, 12, 13, 14, 15, 16, 17, 18, 19, 20, 21, 22, 23, 24, 25, 26, 27, 28, 29, 30, 31]⟩,
    ⟨⟨(some 53), (some (46, true)), .bin .eql (.t 48) (.t 52)⟩, 37, [0, 1, 2, 3, 4, 5, 6, 7, 8, 9, 10, 11, 12, 13, 14, 15, 16, 17, 18, 19, 20, 21, 22, 23, 24, 25, 26, 27, 28, 29, 30, 31, 32, 33, 34, 35, 36]⟩,
    ⟨⟨(some 54), none, .pick (.t 46) (.t 53) (.c (.bool false))⟩, 38, [0, 1, 2, 3, 4, 5, 6, 7, 8, 9, 10, 11, 12, 13, 14, 15, 16, 17, 18, 19, 20, 21, 22, 23, 24, 25, 26, 27, 28, 29, 30, 31, 32, 33, 34, 35, 36, 37]⟩,
    ⟨⟨(some 4), none, .mv (.t 54)⟩, 39, [0, 1, 2, 3, 4, 5, 6, 7, 8, 9, 10, 11, 12, 13, 14, 15, 16, 17, 18, 19, 20, 21, 22, 23, 24, 25, 26, 27, 28, 29, 30, 31, 32, 33, 34, 35, 36, 37, 38]⟩])
  (.ret)))⟩
theorem a16_ok : funcC Try.prog Try.f16 = some a16 := by kernel_rfl
/-- (*permafrost/arc.Arc).Has -/
def a17 : AFunc := ⟨2, [.tmp 4],
  .seq (.ops [⟨(some 4), none, .mv (.c (.bool false))⟩])
  (.seq (.draw [⟨⟨(some 5), none, .mv (.t 0)⟩, 0, []⟩,
    ⟨⟨(some 6), none, .eq true (.flat .ptr) (.t 5) (.c (.ptr none))⟩, 1, [0]⟩,
    ⟨⟨(some 7), none, .mv (.t 6)⟩, 2, [0, 1]⟩,
    ⟨⟨(some 8), (some (7, true)), .mv (.t 1)⟩, 3, [0, 1, 2]⟩,
    ⟨⟨(some 9), (some (7, true)), .mv (.t 0)⟩, 4, [0, 1, 2]⟩,
    ⟨⟨(some 10), (some (7, true)), .nilck (.t 9)⟩, 5, [0, 1, 2, 4]⟩,
    ⟨⟨(some 11), (some (7, true)), .fieldAddr 0 (.t 10)⟩, 6, [0, 1, 2, 4, 5]⟩,
    ⟨⟨(some 12), (some (7, true)), .mv (.t 0)⟩, 7, [0, 1, 2]⟩,
    ⟨⟨(some 13), (some (7, true)), .nilck (.t 12)⟩, 8, [0, 1, 2, 7]⟩,
    ⟨⟨(some 14), (some (7, true)), .fieldAddr 1 (.t 13)⟩, 9, [0, 1, 2, 7, 8]⟩,
    ⟨⟨(some 15), (some (7, true)), .buildSl [(.ptr none), (.ptr none)] 2 [(0, 1, (.t 11)), (1, 1, (.t 14))]⟩, 10, [0, 1, 2, 4, 5, 6, 7, 8, 9]⟩,
    ⟨⟨(some 16), (some (7, true)), .call (.c (.func (.func 31) [] [])) [(.c (.func (.func 33) [] [])), (.t 8), (.t 15)]⟩, 11, [0, 1, 2, 3, 4, 5, 6, 7, 8, 9, 10]⟩,
    ⟨⟨(some 17), none, .pick (.t 7) (.t 16) (.c (.bool false))⟩, 12, [0, 1, 2, 3, 4, 5, 6, 7, 8, 9, 10, 11]⟩,
    ⟨⟨(some 4), none, .mv (.t 17)⟩, 13, [0, 1, 2, 3, 4, 5, 6, 7, 8, 9, 10, 11, 12]⟩])
  (.ret))⟩
theorem a17_ok : funcC Try.prog Try.f17 = some a17 := by kernel_rfl
/-- (*permafrost/permafrostref11.Arc).Has -/
def a18 : AFunc := ⟨2, [.tmp 4],
  .seq (.ops [⟨(some 4), none, .mv (.c (.bool false))⟩])
  (.seq (.ops [⟨(some 5), none, .mv (.t 0)⟩,
    ⟨(some 6), none, .nilck (.t 5)⟩,
    ⟨(some 7), none, .fieldAddr 0 (.t 6)⟩,
    ⟨(some 8), none, .load none (.t 7)⟩,
    ⟨(some 9), none, .mv (.t 1)⟩,
    ⟨(some 10), none, .call (.c (.func (.func 21) [] [])) [(.t 8), (.t 9)]⟩,
    ⟨(some 11), none, .mv (.t 10)⟩,
    ⟨(some 12), (some (11, false)), .mv (.t 0)⟩,
    ⟨(some 13), (some (11, false)), .nilck (.t 12)⟩,
    ⟨(some 14), (some (11, false)), .fieldAddr 1 (.t 13)⟩,
    ⟨(some 15), (some (11, false)), .load none (.t 14)⟩,
    ⟨(some 16), (some (11, false)), .mv (.t 1)⟩,
    ⟨(some 17), (some (11, false)), .call (.c (.func (.func 21) [] [])) [(.t 15), (.t 16)]⟩,
    ⟨(some 18), none, .pick (.t 11) (.c (.bool true)) (.t 17)⟩,
    ⟨(some 4), none, .mv (.t 18)⟩])
  (.ret))⟩
theorem a18_ok : funcC Try.prog Try.f18 = some a18 := by kernel_rfl
/-- (*permafrost/arc.Arc).Lists -/
def a19 : AFunc := ⟨1, [.tmp 2, .tmp 3, .tmp 4, .tmp 5],
  .seq (.ops [⟨(some 2), none, .mv (.c (.slice none 0 0))⟩,
    ⟨(some 3), none, .mv (.c (.slice none 0 0))⟩,
    ⟨(some 4), none, .mv (.c (.slice none 0 0))⟩,
    ⟨(some 5), none, .mv (.c (.slice none 0 0))⟩])
  (.seq (.seq (.ops [⟨(some 6), none, .mv (.t 0)⟩,
    ⟨(some 7), none, .eq false (.flat .ptr) (.t 6) (.c (.ptr none))⟩])
  (.cond (.t 7)
   (.seq (.ops [⟨(some 2), none, .mv (.c (.slice none 0 0))⟩,
     ⟨(some 3), none, .mv (.c (.slice none 0 0))⟩,
     ⟨(some 4), none, .mv (.c (.slice none 0 0))⟩,
     ⟨(some 5), none, .mv (.c (.slice none 0 0))⟩])
   (.ret))
   (.skip)))
  (.seq (.draw [⟨⟨(some 8), none, .mv (.t 0)⟩, 0, []⟩,
    ⟨⟨(some 9), none, .nilck (.t 8)⟩, 1, [0]⟩,
    ⟨⟨(some 10), none, .fieldAddr 0 (.t 9)⟩, 2, [0, 1]⟩,
    ⟨⟨(some 11), none, .fieldAddr 0 (.t 10)⟩, 3, [0, 1, 2]⟩,
    ⟨⟨(some 12), none, .load none (.t 11)⟩, 4, [0, 1, 2, 3]⟩,
    ⟨⟨(some 14), none, .mv (.t 0)⟩, 6, []⟩,
    ⟨⟨(some 15), none, .nilck (.t 14)⟩, 7, [5]⟩,
    ⟨⟨(some 16), none, .fieldAddr 1 (.t 15)⟩, 8, [5, 6]⟩,
    ⟨⟨(some 17), none, .fieldAddr 0 (.t 16)⟩, 9, [5, 6, 7]⟩,
    ⟨⟨(some 18), none, .load none (.t 17)⟩, 10, [5, 6, 7, 8]⟩,
    ⟨⟨(some 20), none, .mv (.t 0)⟩, 12, []⟩,
    ⟨⟨(some 21), none, .nilck (.t 20)⟩, 13, [10]⟩,
    ⟨⟨(some 22), none, .fieldAddr 2 (.t 21)⟩, 14, [10, 11]⟩,
    ⟨⟨(some 23), none, .fieldAddr 0 (.t 22)⟩, 15, [10, 11, 12]⟩,
    ⟨⟨(some 24), none, .load none (.t 23)⟩, 16, [10, 11, 12, 13]⟩,
    ⟨⟨(some 26), none, .mv (.t 0)⟩, 18, []⟩,
    ⟨⟨(some 27), none, .nilck (.t 26)⟩, 19, [15]⟩,
    ⟨⟨(some 28), none, .fieldAddr 3 (.t 27)⟩, 20, [15, 16]⟩,
    ⟨⟨(some 29), none, .fieldAddr 0 (.t 28)⟩, 21, [15, 16, 17]⟩,
    ⟨⟨(some 30), none, .load none (.t 29)⟩, 22, [15, 16, 17, 18]⟩,
    ⟨⟨(some 13), none, .call (.c (.func (.func 34) [] [])) [(.t 12)]⟩, 5, [0, 1, 2, 3, 4]⟩,
    ⟨⟨(some 19), none, .call (.c (.func (.func 34) [] [])) [(.t 18)]⟩, 11, [0, 1, 2, 3, 4, 5, 6, 7, 8, 9, 20]⟩,
    ⟨⟨(some 25), none, .call (.c (.func (.func 34) [] [])) [(.t 24)]⟩, 17, [0, 1, 2, 3, 4, 5, 6, 7, 8, 9, 10, 11, 12, 13, 14, 20, 21]⟩,
    ⟨⟨(some 31), none, .call (.c (.func (.func 34) [] [])) [(.t 30)]⟩, 23, [0, 1, 2, 3, 4, 5, 6, 7, 8, 9, 10, 11, 12, 13, 14, 15, 16, 17, 18, 19, 20, 21, 22]⟩,
    ⟨⟨(some 2), none, .mv (.t 13)⟩, 24, [0, 1, 2, 3, 4, 5, 6, 7, 8, 9, 10, 11, 12, 13, 14, 15, 16, 17, 18, 19, 20, 21, 22, 23]⟩,
    ⟨⟨(some 3), none, .mv (.t 19)⟩, 25, [0, 1, 2, 3, 4, 5, 6, 7, 8, 9, 10, 11, 12, 13, 14, 15, 16, 17, 18, 19, 20, 21, 22, 23, 24]⟩,
    ⟨⟨(some 4), none, .mv (.t 25)⟩, 26, [0, 1, 2, 3, 4, 5, 6, 7, 8, 9, 10, 11, 12, 13, 14, 15, 16, 17, 18, 19, 20, 21, 22, 23, 24, 25]⟩,
    ⟨⟨(some 5), none, .mv (.t 31)⟩, 27, [0, 1, 2, 3, 4, 5, 6, 7, 8, 9, 10, 11, 12, 13, 14, 15, 16, 17, 18, 19, 20, 21, 22, 23, 24, 25, 26]⟩])
  (.ret)))⟩
theorem a19_ok : funcC Try.prog Try.f19 = some a19 := by kernel_rfl
/-- (*permafrost/arc.Arc).Target -/
def a20 : AFunc := ⟨1, [.tmp 2],
  .seq (.ops [⟨(some 2), none, .mv (.c (.int .i64 (0)))⟩])
  (.seq (.seq (.ops [⟨(some 3), none, .mv (.t 0)⟩,
    ⟨(some 4), none, .eq false (.flat .ptr) (.t 3) (.c (.ptr none))⟩])
  (.cond (.t 4)
   (.seq (.ops [⟨(some 2), none, .mv (.c (.int .i64 (0)))⟩])
   (.ret))
   (.skip)))
  (.seq (.ops [⟨(some 5), none, .mv (.t 0)⟩,
    ⟨(some 6), none, .nilck (.t 5)⟩,
    ⟨(some 7), none, .fieldAddr 4 (.t 6)⟩,
    ⟨(some 8), none, .load none (.t 7)⟩,
    ⟨(some 2), none, .mv (.t 8)⟩])
  (.ret)))⟩
theorem a20_ok : funcC Try.prog Try.f20 = some a20 := by kernel_rfl
/-- permafrost/permafrostref11.In -/
def a21 : AFunc := ⟨2, [.tmp 4],
  .seq (.ops [⟨(some 4), none, .mv (.c (.bool false))⟩])
  (.seq (.seq (.ops [⟨(some 5), none, .mv (.c (.int .i64 (0)))⟩])
  (.block 0 (.loop (.seq (.seq (.ops [⟨(some 6), none, .mv (.t 5)⟩,
      ⟨(some 7), none, .mv (.t 0)⟩,
      ⟨(some 8), none, .lenSl (.t 7)⟩,
      ⟨(some 9), none, .bin .lss (.t 6) (.t 8)⟩])
    (.cond (.t 9)
     (.skip)
     (.exit 0)))
    (.seq (.block 1 (.seq (.ops [⟨(some 12), none, .mv (.t 0)⟩,
       ⟨(some 13), none, .mv (.t 5)⟩,
       ⟨(some 14), none, .idxSl 1 (.t 12) (.t 13)⟩,
       ⟨(some 15), none, .load none (.t 14)⟩,
       ⟨(some 16), none, .mv (.t 1)⟩,
       ⟨(some 17), none, .bin .eql (.t 15) (.t 16)⟩])
     (.cond (.t 17)
      (.seq (.ops [⟨(some 4), none, .mv (.c (.bool true))⟩])
      (.ret))
      (.skip))))
    (.ops [⟨(some 10), none, .mv (.t 5)⟩,
      ⟨(some 11), none, .bin .add (.t 10) (.c (.int .i64 (1)))⟩,
      ⟨(some 5), none, .mv (.t 11)⟩]))))))
  (.seq (.ops [⟨(some 4), none, .mv (.c (.bool false))⟩])
  (.ret)))⟩
theorem a21_ok : funcC Try.prog Try.f21 = some a21 := by kernel_rfl
/-- permafrost/permafrostref01.Same -/
def a22 : AFunc := ⟨2, [.tmp 4],
  .seq (.ops [⟨(some 4), none, .mv (.c (.bool false))⟩])
  (.seq (.seq (.ops [⟨(some 6), none, .mv (.t 0)⟩,
    ⟨(some 7), none, .lenSl (.t 6)⟩,
    ⟨(some 8), none, .mv (.t 1)⟩,
    ⟨(some 9), none, .lenSl (.t 8)⟩,
    ⟨(some 10), none, .bin .neq (.t 7) (.t 9)⟩])
  (.cond (.t 10)
   (.seq (.ops [⟨(some 4), none, .mv (.c (.bool false))⟩])
   (.ret))
   (.skip)))
  (.seq (.seq (.ops [⟨(some 5), none, .mv (.c (.int .i64 (0)))⟩])
  (.block 0 (.loop (.seq (.seq (.ops [⟨(some 11), none, .mv (.t 5)⟩,
      ⟨(some 12), none, .mv (.t 0)⟩,
      ⟨(some 13), none, .lenSl (.t 12)⟩,
      ⟨(some 14), none, .bin .lss (.t 11) (.t 13)⟩])
    (.cond (.t 14)
     (.skip)
     (.exit 0)))
    (.seq (.block 1 (.seq (.draw [⟨⟨(some 17), none, .mv (.t 0)⟩, 0, []⟩,
       ⟨⟨(some 18), none, .mv (.t 5)⟩, 1, []⟩,
       ⟨⟨(some 19), none, .idxSl 1 (.t 17) (.t 18)⟩, 2, [0, 1]⟩,
       ⟨⟨(some 20), none, .load none (.t 19)⟩, 3, [0, 1, 2]⟩,
       ⟨⟨(some 21), none, .mv (.t 1)⟩, 4, []⟩,
       ⟨⟨(some 22), none, .mv (.t 5)⟩, 5, []⟩,
       ⟨⟨(some 23), none, .idxSl 1 (.t 21) (.t 22)⟩, 6, [4, 5]⟩,
       ⟨⟨(some 24), none, .load none (.t 23)⟩, 7, [4, 5, 6]⟩,
       ⟨⟨(some 25), none, .bin .neq (.t 20) (.t 24)⟩, 8, [0, 1, 2, 3, 4, 5, 6, 7]⟩])
     (.cond (.t 25)
      (.seq (.ops [⟨(some 4), none, .mv (.c (.bool false))⟩])
      (.ret))
      (.skip))))
    (.ops [⟨(some 15), none, .mv (.t 5)⟩,
      ⟨(some 16), none, .bin .add (.t 15) (.c (.int .i64 (1)))⟩,
      ⟨(some 5), none, .mv (.t 16)⟩]))))))
  (.seq (.ops [⟨(some 4), none, .mv (.c (.bool true))⟩])
  (.ret))))⟩
theorem a22_ok : funcC Try.prog Try.f22 = some a22 := by kernel_rfl
/-- (*permafrost/arc.list).len -/
def a23 : AFunc := ⟨1, [.tmp 2],
  .seq (.ops [⟨(some 2), none, .mv (.c (.int .i64 (0)))⟩])
  (.seq (.ops [⟨(some 3), none, .mv (.t 0)⟩,
    ⟨(some 4), none, .nilck (.t 3)⟩,
    ⟨(some 5), none, .fieldAddr 0 (.t 4)⟩,
    ⟨(some 6), none, .load none (.t 5)⟩,
    ⟨(some 7), none, .lenSl (.t 6)⟩,
    ⟨(some 2), none, .mv (.t 7)⟩])
  (.ret))⟩
theorem a23_ok : funcC Try.prog Try.f23 = some a23 := by kernel_rfl
/-- (*permafrost/arc.list).add -/
def a24 : AFunc := ⟨2, [],
  .ops [⟨(some 4), none, .mv (.t 0)⟩,
    ⟨(some 5), none, .mv (.t 0)⟩,
    ⟨(some 6), none, .nilck (.t 5)⟩,
    ⟨(some 7), none, .fieldAddr 0 (.t 6)⟩,
    ⟨(some 8), none, .load none (.t 7)⟩,
    ⟨(some 9), none, .mv (.t 1)⟩,
    ⟨(some 10), none, .buildSl [(.str [])] 1 [(0, 1, (.t 9))]⟩,
    ⟨(some 11), none, .append 1 16 (.t 8) (.t 10)⟩,
    ⟨(some 12), none, .nilck (.t 4)⟩,
    ⟨(some 13), none, .fieldAddr 0 (.t 12)⟩,
    ⟨none, none, .store 1 (.t 13) (.t 11)⟩]⟩
theorem a24_ok : funcC Try.prog Try.f24 = some a24 := by kernel_rfl
/-- (*permafrost/arc.Arc).room -/
def a25 : AFunc := ⟨2, [.tmp 4],
  .seq (.ops [⟨(some 4), none, .mv (.c (.str []))⟩])
  (.seq (.ops [⟨(some 8), none, .mv (.t 0)⟩,
    ⟨(some 9), none, .nilck (.t 8)⟩,
    ⟨(some 10), none, .fieldAddr 0 (.t 9)⟩,
    ⟨(some 11), none, .call (.c (.func (.func 23) [] [])) [(.t 10)]⟩,
    ⟨(some 5), none, .mv (.t 11)⟩])
  (.seq (.seq (.ops [⟨(some 12), none, .mv (.t 5)⟩,
    ⟨(some 13), none, .bin .gtr (.t 12) (.c (.int .i64 (0)))⟩,
    ⟨(some 14), none, .mv (.t 13)⟩,
    ⟨(some 15), (some (14, true)), .mv (.t 5)⟩,
    ⟨(some 16), (some (14, true)), .mv (.t 0)⟩,
    ⟨(some 17), (some (14, true)), .nilck (.t 16)⟩,
    ⟨(some 18), (some (14, true)), .fieldAddr 4 (.t 17)⟩,
    ⟨(some 19), (some (14, true)), .load none (.t 18)⟩,
    ⟨(some 20), (some (14, true)), .bin .gtr (.t 15) (.t 19)⟩,
    ⟨(some 21), (some (14, true)), .mv (.t 20)⟩,
    ⟨(some 22), (some (21, false)), .mv (.t 1)⟩,
    ⟨(some 23), (some (21, false)), .mv (.t 22)⟩,
    ⟨(some 24), (some (23, true)), .mv (.t 5)⟩,
    ⟨(some 25), (some (23, true)), .mv (.t 0)⟩,
    ⟨(some 26), (some (23, true)), .nilck (.t 25)⟩,
    ⟨(some 27), (some (23, true)), .fieldAddr 4 (.t 26)⟩,
    ⟨(some 28), (some (23, true)), .load none (.t 27)⟩,
    ⟨(some 29), (some (23, true)), .bin .eql (.t 24) (.t 28)⟩,
    ⟨(some 30), (some (21, false)), .pick (.t 23) (.t 29) (.c (.bool false))⟩,
    ⟨(some 31), (some (14, true)), .pick (.t 21) (.c (.bool true)) (.t 30)⟩,
    ⟨(some 32), (some (14, true)), .mv (.t 31)⟩,
    ⟨(some 33), (some (32, false)), .mv (.t 0)⟩,
    ⟨(some 34), (some (32, false)), .nilck (.t 33)⟩,
    ⟨(some 35), (some (32, false)), .fieldAddr 1 (.t 34)⟩,
    ⟨(some 36), (some (32, false)), .call (.c (.func (.func 23) [] [])) [(.t 35)]⟩,
    ⟨(some 37), (some (32, false)), .bin .eql (.t 36) (.c (.int .i64 (0)))⟩,
    ⟨(some 38), (some (14, true)), .pick (.t 32) (.c (.bool true)) (.t 37)⟩,
    ⟨(some 39), none, .pick (.t 14) (.t 38) (.c (.bool false))⟩])
  (.cond (.t 39)
   (.seq (.ops [⟨(some 40), none, .mv (.t 0)⟩,
     ⟨(some 41), none, .nilck (.t 40)⟩,
     ⟨(some 42), none, .fieldAddr 0 (.t 41)⟩,
     ⟨(some 43), none, .call (.c (.func (.func 35) [] [])) [(.t 42)]⟩,
     ⟨(some 6), none, .mv (.t 43)⟩])
   (.seq (.ops [⟨(some 44), none, .mv (.t 0)⟩,
     ⟨(some 45), none, .nilck (.t 44)⟩,
     ⟨(some 46), none, .fieldAddr 2 (.t 45)⟩,
     ⟨(some 47), none, .mv (.t 6)⟩,
     ⟨(some 48), none, .call (.c (.func (.func 24) [] [])) [(.t 46), (.t 47)]⟩])
   (.seq (.ops [⟨(some 49), none, .mv (.t 6)⟩,
     ⟨(some 4), none, .mv (.t 49)⟩])
   (.ret))))
   (.skip)))
  (.seq (.ops [⟨(some 50), none, .mv (.t 0)⟩,
    ⟨(some 51), none, .nilck (.t 50)⟩,
    ⟨(some 52), none, .fieldAddr 1 (.t 51)⟩,
    ⟨(some 53), none, .call (.c (.func (.func 35) [] [])) [(.t 52)]⟩,
    ⟨(some 7), none, .mv (.t 53)⟩])
  (.seq (.seq (.ops [⟨(some 54), none, .mv (.t 7)⟩,
    ⟨(some 55), none, .bin .neq (.t 54) (.c (.str []))⟩])
  (.cond (.t 55)
   (.ops [⟨(some 56), none, .mv (.t 0)⟩,
     ⟨(some 57), none, .nilck (.t 56)⟩,
     ⟨(some 58), none, .fieldAddr 3 (.t 57)⟩,
     ⟨(some 59), none, .mv (.t 7)⟩,
     ⟨(some 60), none, .call (.c (.func (.func 24) [] [])) [(.t 58), (.t 59)]⟩])
   (.skip)))
  (.seq (.ops [⟨(some 61), none, .mv (.t 7)⟩,
    ⟨(some 4), none, .mv (.t 61)⟩])
  (.ret))))))⟩
theorem a25_ok : funcC Try.prog Try.f25 = some a25 := by kernel_rfl
/-- (*permafrost/arc.Arc).fresh -/
def a26 : AFunc := ⟨1, [.tmp 2],
  .seq (.ops [⟨(some 2), none, .mv (.c (.str []))⟩])
  (.seq (.draw [⟨⟨(some 6), none, .mv (.t 0)⟩, 0, []⟩,
    ⟨⟨(some 7), none, .nilck (.t 6)⟩, 1, [0]⟩,
    ⟨⟨(some 8), none, .fieldAddr 0 (.t 7)⟩, 2, [0, 1]⟩,
    ⟨⟨(some 10), none, .mv (.t 0)⟩, 4, []⟩,
    ⟨⟨(some 11), none, .nilck (.t 10)⟩, 5, [3]⟩,
    ⟨⟨(some 12), none, .fieldAddr 2 (.t 11)⟩, 6, [3, 4]⟩,
    ⟨⟨(some 9), none, .call (.c (.func (.func 23) [] [])) [(.t 8)]⟩, 3, [0, 1, 2]⟩,
    ⟨⟨(some 13), none, .call (.c (.func (.func 23) [] [])) [(.t 12)]⟩, 7, [0, 1, 2, 3, 4, 5, 6]⟩,
    ⟨⟨(some 3), none, .mv (.t 9)⟩, 8, [0, 1, 2, 3, 4, 5, 6, 7]⟩,
    ⟨⟨(some 4), none, .mv (.t 13)⟩, 9, [0, 1, 2, 3, 4, 5, 6, 7, 8]⟩])
  (.seq (.draw [⟨⟨(some 14), none, .mv (.t 3)⟩, 0, []⟩,
    ⟨⟨(some 15), none, .mv (.t 4)⟩, 1, []⟩,
    ⟨⟨(some 16), none, .bin .add (.t 14) (.t 15)⟩, 2, [0, 1]⟩,
    ⟨⟨(some 17), none, .mv (.t 0)⟩, 3, []⟩,
    ⟨⟨(some 18), none, .nilck (.t 17)⟩, 4, [3]⟩,
    ⟨⟨(some 19), none, .fieldAddr 1 (.t 18)⟩, 5, [3, 4]⟩,
    ⟨⟨(some 22), none, .mv (.t 0)⟩, 8, []⟩,
    ⟨⟨(some 23), none, .nilck (.t 22)⟩, 9, [6]⟩,
    ⟨⟨(some 24), none, .fieldAddr 3 (.t 23)⟩, 10, [6, 7]⟩,
    ⟨⟨(some 20), none, .call (.c (.func (.func 23) [] [])) [(.t 19)]⟩, 6, [3, 4, 5]⟩,
    ⟨⟨(some 21), none, .bin .add (.t 16) (.t 20)⟩, 7, [0, 1, 2, 3, 4, 5, 9]⟩,
    ⟨⟨(some 25), none, .call (.c (.func (.func 23) [] [])) [(.t 24)]⟩, 11, [3, 4, 5, 6, 7, 8, 9]⟩,
    ⟨⟨(some 26), none, .bin .add (.t 21) (.t 25)⟩, 12, [0, 1, 2, 3, 4, 5, 6, 7, 8, 9, 10, 11]⟩,
    ⟨⟨(some 5), none, .mv (.t 26)⟩, 13, [0, 1, 2, 3, 4, 5, 6, 7, 8, 9, 10, 11, 12]⟩])
  (.seq (.block 0 (.seq (.ops [⟨(some 28), none, .mv (.t 3)⟩,
     ⟨(some 29), none, .mv (.t 0)⟩,
     ⟨(some 30), none, .nilck (.t 29)⟩,
     ⟨(some 31), none, .fieldAddr 5 (.t 30)⟩,
     ⟨(some 32), none, .load none (.t 31)⟩,
     ⟨(some 33), none, .bin .eql (.t 28) (.t 32)⟩,
     ⟨(some 34), none, .mv (.t 33)⟩,
     ⟨(some 35), (some (34, true)), .mv (.t 4)⟩,
     ⟨(some 36), (some (34, true)), .bin .eql (.t 35) (.c (.int .i64 (0)))⟩,
     ⟨(some 37), none, .pick (.t 34) (.t 36) (.c (.bool false))⟩,
     ⟨(some 27), none, .mv (.t 37)⟩])
   (.cond (.t 27)
    (.seq (.ops [⟨(some 38), none, .mv (.t 0)⟩,
      ⟨(some 39), none, .nilck (.t 38)⟩,
      ⟨(some 40), none, .fieldAddr 0 (.t 39)⟩,
      ⟨(some 41), none, .call (.c (.func (.func 35) [] [])) [(.t 40)]⟩,
      ⟨(some 2), none, .mv (.t 41)⟩])
    (.ret))
    (.seq (.ops [⟨(some 43), none, .mv (.t 3)⟩,
      ⟨(some 44), none, .mv (.t 4)⟩,
      ⟨(some 45), none, .bin .add (.t 43) (.t 44)⟩,
      ⟨(some 46), none, .mv (.t 0)⟩,
      ⟨(some 47), none, .nilck (.t 46)⟩,
      ⟨(some 48), none, .fieldAddr 5 (.t 47)⟩,
      ⟨(some 49), none, .load none (.t 48)⟩,
      ⟨(some 50), none, .bin .eql (.t 45) (.t 49)⟩,
      ⟨(some 42), none, .mv (.t 50)⟩])
    (.cond (.t 42)
     (.ops [⟨(some 51), none, .mv (.t 0)⟩,
       ⟨(some 52), none, .nilck (.t 51)⟩,
       ⟨(some 53), none, .fieldAddr 2 (.t 52)⟩,
       ⟨(some 54), none, .call (.c (.func (.func 35) [] [])) [(.t 53)]⟩])
     (.seq (.ops [⟨(some 56), none, .mv (.t 5)⟩,
       ⟨(some 57), none, .mv (.t 0)⟩,
       ⟨(some 58), none, .nilck (.t 57)⟩,
       ⟨(some 59), none, .fieldAddr 5 (.t 58)⟩,
       ⟨(some 60), none, .load none (.t 59)⟩,
       ⟨(some 61), none, .bin .lss (.t 56) (.t 60)⟩,
       ⟨(some 55), none, .mv (.t 61)⟩])
     (.cond (.t 55)
      (.seq (.ops [⟨(some 2), none, .mv (.c (.str []))⟩])
      (.ret))
      (.seq (.ops [⟨(some 63), none, .mv (.t 5)⟩,
        ⟨(some 64), none, .mv (.t 0)⟩,
        ⟨(some 65), none, .nilck (.t 64)⟩,
        ⟨(some 66), none, .fieldAddr 5 (.t 65)⟩,
        ⟨(some 67), none, .load none (.t 66)⟩,
        ⟨(some 68), none, .bin .mul (.c (.int .i64 (2))) (.t 67)⟩,
        ⟨(some 69), none, .bin .eql (.t 63) (.t 68)⟩,
        ⟨(some 62), none, .mv (.t 69)⟩])
      (.cond (.t 62)
       (.ops [⟨(some 70), none, .mv (.t 0)⟩,
         ⟨(some 71), none, .nilck (.t 70)⟩,
         ⟨(some 72), none, .fieldAddr 3 (.t 71)⟩,
         ⟨(some 73), none, .call (.c (.func (.func 35) [] [])) [(.t 72)]⟩])
       (.skip))))))))))
  (.seq (.ops [⟨(some 74), none, .mv (.t 0)⟩,
    ⟨(some 75), none, .call (.c (.func (.func 25) [] [])) [(.t 74), (.c (.bool false))]⟩,
    ⟨(some 2), none, .mv (.t 75)⟩])
  (.ret)))))⟩
theorem a26_ok : funcC Try.prog Try.f26 = some a26 := by kernel_rfl
/-- permafrost/permafrostref11.with -/
def a27 : AFunc := ⟨2, [.tmp 4],
  .seq (.ops [⟨(some 4), none, .mv (.c (.slice none 0 0))⟩])
  (.seq (.ops [⟨(some 5), none, .mv (.c (.slice none 0 0))⟩])
  (.seq (.ops [⟨(some 6), none, .mv (.t 5)⟩,
    ⟨(some 7), none, .mv (.t 0)⟩,
    ⟨(some 8), none, .append 1 16 (.t 6) (.t 7)⟩,
    ⟨(some 5), none, .mv (.t 8)⟩])
  (.seq (.ops [⟨(some 9), none, .mv (.t 5)⟩,
    ⟨(some 10), none, .mv (.t 1)⟩,
    ⟨(some 11), none, .buildSl [(.str [])] 1 [(0, 1, (.t 10))]⟩,
    ⟨(some 12), none, .append 1 16 (.t 9) (.t 11)⟩,
    ⟨(some 5), none, .mv (.t 12)⟩])
  (.seq (.ops [⟨(some 13), none, .mv (.t 5)⟩,
    ⟨(some 4), none, .mv (.t 13)⟩])
  (.ret)))))⟩
theorem a27_ok : funcC Try.prog Try.f27 = some a27 := by kernel_rfl
/-- (*permafrost/permafrostref11.Arc).again -/
def a28 : AFunc := ⟨2, [.tmp 4],
  .seq (.ops [⟨(some 4), none, .mv (.c (.str []))⟩])
  (.seq (.ops [⟨(some 8), none, .mv (.t 0)⟩,
    ⟨(some 9), none, .nilck (.t 8)⟩,
    ⟨(some 10), none, .fieldAddr 2 (.t 9)⟩,
    ⟨(some 11), none, .load none (.t 10)⟩,
    ⟨(some 12), none, .lenSl (.t 11)⟩,
    ⟨(some 5), none, .mv (.t 12)⟩])
  (.seq (.ops [⟨(some 13), none, .mv (.t 0)⟩,
    ⟨(some 14), none, .nilck (.t 13)⟩,
    ⟨(some 15), none, .fieldAddr 3 (.t 14)⟩,
    ⟨(some 16), none, .load none (.t 15)⟩,
    ⟨(some 17), none, .lenSl (.t 16)⟩,
    ⟨(some 6), none, .mv (.t 17)⟩])
  (.seq (.ops [⟨(some 7), none, .mv (.c (.str []))⟩])
  (.seq (.seq (.ops [⟨(some 18), none, .mv (.t 0)⟩,
    ⟨(some 19), none, .nilck (.t 18)⟩,
    ⟨(some 20), none, .fieldAddr 2 (.t 19)⟩,
    ⟨(some 21), none, .load none (.t 20)⟩,
    ⟨(some 22), none, .mv (.t 1)⟩,
    ⟨(some 23), none, .call (.c (.func (.func 21) [] [])) [(.t 21), (.t 22)]⟩])
  (.cond (.t 23)
   (.seq (.draw [⟨⟨(some 24), none, .mv (.t 0)⟩, 0, []⟩,
     ⟨⟨(some 25), none, .mv (.t 0)⟩, 1, []⟩,
     ⟨⟨(some 26), none, .nilck (.t 25)⟩, 2, [1]⟩,
     ⟨⟨(some 27), none, .fieldAddr 5 (.t 26)⟩, 3, [1, 2]⟩,
     ⟨⟨(some 28), none, .load none (.t 27)⟩, 4, [1, 2, 3]⟩,
     ⟨⟨(some 29), none, .mv (.t 0)⟩, 5, []⟩,
     ⟨⟨(some 30), none, .nilck (.t 29)⟩, 6, [5]⟩,
     ⟨⟨(some 31), none, .fieldAddr 4 (.t 30)⟩, 7, [5, 6]⟩,
     ⟨⟨(some 32), none, .load none (.t 31)⟩, 8, [5, 6, 7]⟩,
     ⟨⟨(some 33), none, .mv (.t 6)⟩, 9, []⟩,
     ⟨⟨(some 34), none, .mv (.t 5)⟩, 10, []⟩,
     ⟨⟨(some 35), none, .bin .quo (.t 33) (.t 34)⟩, 11, [9, 10]⟩,
     ⟨⟨(some 36), none, .max2 (.t 35) (.c (.int .i64 (1)))⟩, 12, [9, 10, 11]⟩,
     ⟨⟨(some 37), none, .bin .add (.t 32) (.t 36)⟩, 13, [5, 6, 7, 8, 9, 10, 11, 12]⟩,
     ⟨⟨(some 38), none, .min2 (.t 28) (.t 37)⟩, 14, [1, 2, 3, 4, 5, 6, 7, 8, 9, 10, 11, 12, 13]⟩,
     ⟨⟨(some 39), none, .nilck (.t 24)⟩, 15, [0, 1, 2, 3, 4, 5, 6, 7, 8, 9, 10, 11, 12, 13, 14]⟩,
     ⟨⟨(some 40), none, .fieldAddr 4 (.t 39)⟩, 16, [0, 1, 2, 3, 4, 5, 6, 7, 8, 9, 10, 11, 12, 13, 14, 15]⟩,
     ⟨⟨none, none, .store 1 (.t 40) (.t 38)⟩, 17, [0, 1, 2, 3, 4, 5, 6, 7, 8, 9, 10, 11, 12, 13, 14, 15, 16]⟩])
   (.ops [⟨(some 41), none, .mv (.t 0)⟩,
     ⟨(some 42), none, .call (.c (.func (.func 30) [] [])) [(.t 41), (.c (.bool false))]⟩,
     ⟨(some 7), none, .mv (.t 42)⟩]))
   (.seq (.draw [⟨⟨(some 43), none, .mv (.t 0)⟩, 0, []⟩,
     ⟨⟨(some 44), none, .mv (.t 0)⟩, 1, []⟩,
     ⟨⟨(some 45), none, .nilck (.t 44)⟩, 2, [1]⟩,
     ⟨⟨(some 46), none, .fieldAddr 4 (.t 45)⟩, 3, [1, 2]⟩,
     ⟨⟨(some 47), none, .load none (.t 46)⟩, 4, [1, 2, 3]⟩,
     ⟨⟨(some 48), none, .mv (.t 5)⟩, 5, []⟩,
     ⟨⟨(some 49), none, .mv (.t 6)⟩, 6, []⟩,
     ⟨⟨(some 50), none, .bin .quo (.t 48) (.t 49)⟩, 7, [5, 6]⟩,
     ⟨⟨(some 51), none, .max2 (.t 50) (.c (.int .i64 (1)))⟩, 8, [5, 6, 7]⟩,
     ⟨⟨(some 52), none, .bin .sub (.t 47) (.t 51)⟩, 9, [1, 2, 3, 4, 5, 6, 7, 8]⟩,
     ⟨⟨(some 53), none, .max2 (.c (.int .i64 (0))) (.t 52)⟩, 10, [1, 2, 3, 4, 5, 6, 7, 8, 9]⟩,
     ⟨⟨(some 54), none, .nilck (.t 43)⟩, 11, [0, 1, 2, 3, 4, 5, 6, 7, 8, 9, 10]⟩,
     ⟨⟨(some 55), none, .fieldAddr 4 (.t 54)⟩, 12, [0, 1, 2, 3, 4, 5, 6, 7, 8, 9, 10, 11]⟩,
     ⟨⟨none, none, .store 1 (.t 55) (.t 53)⟩, 13, [0, 1, 2, 3, 4, 5, 6, 7, 8, 9, 10, 11, 12]⟩])
   (.ops [⟨(some 56), none, .mv (.t 0)⟩,
     ⟨(some 57), none, .call (.c (.func (.func 30) [] [])) [(.t 56), (.c (.bool true))]⟩,
     ⟨(some 7), none, .mv (.t 57)⟩]))))
  (.seq (.ops [⟨(some 58), none, .mv (.t 0)⟩,
    ⟨(some 59), none, .mv (.t 1)⟩,
    ⟨(some 60), none, .call (.c (.func (.func 15) [] [])) [(.t 58), (.t 59)]⟩])
  (.seq (.ops [⟨(some 61), none, .mv (.t 0)⟩,
    ⟨(some 62), none, .mv (.t 0)⟩,
    ⟨(some 63), none, .nilck (.t 62)⟩,
    ⟨(some 64), none, .fieldAddr 1 (.t 63)⟩,
    ⟨(some 65), none, .load none (.t 64)⟩,
    ⟨(some 66), none, .mv (.t 1)⟩,
    ⟨(some 67), none, .call (.c (.func (.func 27) [] [])) [(.t 65), (.t 66)]⟩,
    ⟨(some 68), none, .nilck (.t 61)⟩,
    ⟨(some 69), none, .fieldAddr 1 (.t 68)⟩,
    ⟨none, none, .store 1 (.t 69) (.t 67)⟩])
  (.seq (.ops [⟨(some 70), none, .mv (.t 7)⟩,
    ⟨(some 4), none, .mv (.t 70)⟩])
  (.ret))))))))⟩
theorem a28_ok : funcC Try.prog Try.f28 = some a28 := by kernel_rfl
/-- permafrost/permafrostref11.without -/
def a29 : AFunc := ⟨2, [.tmp 4],
  .seq (.ops [⟨(some 4), none, .mv (.c (.slice none 0 0))⟩])
  (.seq (.ops [⟨(some 5), none, .mv (.c (.slice none 0 0))⟩])
  (.seq (.seq (.ops [⟨(some 6), none, .mv (.c (.int .i64 (0)))⟩])
  (.block 0 (.loop (.seq (.seq (.ops [⟨(some 7), none, .mv (.t 6)⟩,
      ⟨(some 8), none, .mv (.t 0)⟩,
      ⟨(some 9), none, .lenSl (.t 8)⟩,
      ⟨(some 10), none, .bin .lss (.t 7) (.t 9)⟩])
    (.cond (.t 10)
     (.skip)
     (.exit 0)))
    (.seq (.block 1 (.seq (.ops [⟨(some 13), none, .mv (.t 0)⟩,
       ⟨(some 14), none, .mv (.t 6)⟩,
       ⟨(some 15), none, .idxSl 1 (.t 13) (.t 14)⟩,
       ⟨(some 16), none, .load none (.t 15)⟩,
       ⟨(some 17), none, .mv (.t 1)⟩,
       ⟨(some 18), none, .bin .neq (.t 16) (.t 17)⟩])
     (.cond (.t 18)
      (.ops [⟨(some 19), none, .mv (.t 5)⟩,
        ⟨(some 20), none, .mv (.t 0)⟩,
        ⟨(some 21), none, .mv (.t 6)⟩,
        ⟨(some 22), none, .idxSl 1 (.t 20) (.t 21)⟩,
        ⟨(some 23), none, .load none (.t 22)⟩,
        ⟨(some 24), none, .buildSl [(.str [])] 1 [(0, 1, (.t 23))]⟩,
        ⟨(some 25), none, .append 1 16 (.t 19) (.t 24)⟩,
        ⟨(some 5), none, .mv (.t 25)⟩])
      (.skip))))
    (.ops [⟨(some 11), none, .mv (.t 6)⟩,
      ⟨(some 12), none, .bin .add (.t 11) (.c (.int .i64 (1)))⟩,
      ⟨(some 6), none, .mv (.t 12)⟩]))))))
  (.seq (.ops [⟨(some 26), none, .mv (.t 5)⟩,
    ⟨(some 4), none, .mv (.t 26)⟩])
  (.ret))))⟩
theorem a29_ok : funcC Try.prog Try.f29 = some a29 := by kernel_rfl
/-- (*permafrost/permafrostref11.Arc).room -/
def a30 : AFunc := ⟨2, [.tmp 4],
  .seq (.ops [⟨(some 4), none, .mv (.c (.str []))⟩])
  (.seq (.seq (.draw [⟨⟨(some 7), none, .mv (.t 0)⟩, 0, []⟩,
    ⟨⟨(some 8), none, .nilck (.t 7)⟩, 1, [0]⟩,
    ⟨⟨(some 9), none, .fieldAddr 0 (.t 8)⟩, 2, [0, 1]⟩,
    ⟨⟨(some 10), none, .load none (.t 9)⟩, 3, [0, 1, 2]⟩,
    ⟨⟨(some 11), none, .lenSl (.t 10)⟩, 4, [0, 1, 2, 3]⟩,
    ⟨⟨(some 12), none, .bin .gtr (.t 11) (.c (.int .i64 (0)))⟩, 5, [0, 1, 2, 3, 4]⟩,
    ⟨⟨(some 13), none, .mv (.t 12)⟩, 6, [0, 1, 2, 3, 4, 5]⟩,
    ⟨⟨(some 14), (some (13, true)), .mv (.t 0)⟩, 7, [0, 1, 2, 3, 4, 5, 6]⟩,
    ⟨⟨(some 15), (some (13, true)), .nilck (.t 14)⟩, 8, [0, 1, 2, 3, 4, 5, 6, 7]⟩,
    ⟨⟨(some 16), (some (13, true)), .fieldAddr 0 (.t 15)⟩, 9, [0, 1, 2, 3, 4, 5, 6, 7, 8]⟩,
    ⟨⟨(some 17), (some (13, true)), .load none (.t 16)⟩, 10, [0, 1, 2, 3, 4, 5, 6, 7, 8, 9]⟩,
    ⟨⟨(some 18), (some (13, true)), .lenSl (.t 17)⟩, 11, [0, 1, 2, 3, 4, 5, 6, 7, 8, 9, 10]⟩,
    ⟨⟨(some 19), (some (13, true)), .mv (.t 0)⟩, 12, [0, 1, 2, 3, 4, 5, 6]⟩,
    ⟨⟨(some 20), (some (13, true)), .nilck (.t 19)⟩, 13, [0, 1, 2, 3, 4, 5, 6, 12]⟩,
    ⟨⟨(some 21), (some (13, true)), .fieldAddr 4 (.t 20)⟩, 14, [0, 1, 2, 3, 4, 5, 6, 12, 13]⟩,
    ⟨⟨(some 22), (some (13, true)), .load none (.t 21)⟩, 15, [0, 1, 2, 3, 4, 5, 6, 12, 13, 14]⟩,
    ⟨⟨(some 23), (some (13, true)), .bin .gtr (.t 18) (.t 22)⟩, 16, [0, 1, 2, 3, 4, 5, 6, 7, 8, 9, 10, 11, 12, 13, 14, 15]⟩,
    ⟨⟨(some 24), (some (13, true)), .mv (.t 23)⟩, 17, [0, 1, 2, 3, 4, 5, 6, 7, 8, 9, 10, 11, 12, 13, 14, 15, 16]⟩,
    ⟨⟨(some 25), (some (24, false)), .mv (.t 1)⟩, 18, [0, 1, 2, 3, 4, 5, 6, 7, 8, 9, 10, 11, 12, 13, 14, 15, 16, 17]⟩,
    ⟨⟨(some 26), (some (24, false)), .mv (.t 25)⟩, 19, [0, 1, 2, 3, 4, 5, 6, 7, 8, 9, 10, 11, 12, 13, 14, 15, 16, 17, 18]⟩,
    ⟨⟨(some 27), (some (26, true)), .mv (.t 0)⟩, 20, [0, 1, 2, 3, 4, 5, 6, 7, 8, 9, 10, 11, 12, 13, 14, 15, 16, 17, 18, 19]⟩,
    ⟨⟨(some 28), (some (26, true)), .nilck (.t 27)⟩, 21, [0, 1, 2, 3, 4, 5, 6, 7, 8, 9, 10, 11, 12, 13, 14, 15, 16, 17, 18, 19, 20]⟩,
    ⟨⟨(some 29), (some (26, true)), .fieldAddr 0 (.t 28)⟩, 22, [0, 1, 2, 3, 4, 5, 6, 7, 8, 9, 10, 11, 12, 13, 14, 15, 16, 17, 18, 19, 20, 21]⟩,
    ⟨⟨(some 30), (some (26, true)), .load none (.t 29)⟩, 23, [0, 1, 2, 3, 4, 5, 6, 7, 8, 9, 10, 11, 12, 13, 14, 15, 16, 17, 18, 19, 20, 21, 22]⟩,
    ⟨⟨(some 31), (some (26, true)), .lenSl (.t 30)⟩, 24, [0, 1, 2, 3, 4, 5, 6, 7, 8, 9, 10, 11, 12, 13, 14, 15, 16, 17, 18, 19, 20, 21, 22, 23]⟩,
    ⟨⟨(some 32), (some (26, true)), .mv (.t 0)⟩, 25, [0, 1, 2, 3, 4, 5, 6, 7, 8, 9, 10, 11, 12, 13, 14, 15, 16, 17, 18, 19]⟩,
    ⟨⟨(some 33), (some (26, true)), .nilck (.t 32)⟩, 26, [0, 1, 2, 3, 4, 5, 6, 7, 8, 9, 10, 11, 12, 13, 14, 15, 16, 17, 18, 19, 25]⟩,
    ⟨⟨(some 34), (some (26, true)), .fieldAddr 4 (.t 33)⟩, 27, [0, 1, 2, 3, 4, 5, 6, 7, 8, 9, 10, 11, 12, 13, 14, 15, 16, 17, 18, 19, 25, 26]⟩,
    ⟨⟨(some 35), (some (26, true)), .load none (.t 34)⟩, 28, [0, 1, 2, 3, 4, 5, 6, 7, 8, 9, 10, 11, 12, 13, 14, 15, 16, 17, 18, 19, 25, 26, 27]⟩,
    ⟨⟨(some 36), (some (26, true)), .bin .eql (.t 31) (.t 35)⟩, 29, [0, 1, 2, 3, 4, 5, 6, 7, 8, 9, 10, 11, 12, 13, 14, 15, 16, 17, 18, 19, 20, 21, 22, 23, 24, 25, 26, 27, 28]⟩,
    ⟨⟨(some 37), (some (24, false)), .pick (.t 26) (.t 36) (.c (.bool false))⟩, 30, [0, 1, 2, 3, 4, 5, 6, 7, 8, 9, 10, 11, 12, 13, 14, 15, 16, 17, 18, 19, 20, 21, 22, 23, 24, 25, 26, 27, 28, 29]⟩,
    ⟨⟨(some 38), (some (13, true)), .pick (.t 24) (.c (.bool true)) (.t 37)⟩, 31, [0, 1, 2, 3, 4, 5, 6, 7, 8, 9, 10, 11, 12, 13, 14, 15, 16, 17, 18, 19, 20, 21, 22, 23, 24, 25, 26, 27, 28, 29, 30]⟩,
    ⟨⟨(some 39), (some (13, true)), .mv (.t 38)⟩, 32, [0, 1, 2, 3, 4, 5, 6, 7, 8, 9, 10, 11, 12, 13, 14, 15, 16, 17, 18, 19, 20, 21, 22, 23, 24, 25, 26, 27, 28, 29, 30, 31]⟩,
    ⟨⟨(some 40), (some (39, false)), .mv (.t 0)⟩, 33, [0, 1, 2, 3, 4, 5, 6, 7, 8, 9, 10, 11, 12, 13, 14, 15, 16, 17, 18, 19, 20, 21, 22, 23, 24, 25, 26, 27, 28, 29, 30, 31, 32]⟩,
    ⟨⟨(some 41), (some (39, false)), .nilck (.t 40)⟩, 34, [0, 1, 2, 3, 4, 5, 6, 7, 8, 9, 10, 11, 12, 13, 14, 15, 16, 17, 18, 19, 20, 21, 22, 23, 24, 25, 26, 27, 28, 29, 30, 31, 32, 33]⟩,
    ⟨⟨(some 42), (some (39, false)), .fieldAddr 1 (.t 41)⟩, 35, [0, 1, 2, 3, 4, 5, 6, 7, 8, 9, 10, 11, 12, 13, 14, 15, 16, 17, 18, 19, 20, 21, 22, 23, 24, 25, 26, 27, 28, 29, 30, 31, 32, 33, 34]⟩,
    ⟨⟨(some 43), (some (39, false)), .load none (.t 42)⟩, 36, [0, 1, 2, 3, 4, 5, 6, 7, 8, 9, 10, 11, 12, 13, 14, 15, 16, 17, 18, 19, 20, 21, 22, 23, 24, 25, 26, 27, 28, 29, 30, 31, 32, 33, 34, 35]⟩,
    ⟨⟨(some 44), (some (39, false)), .lenSl (.t 43)⟩, 37, [0, 1, 2, 3, 4, 5, 6, 7, 8, 9, 10, 11, 12, 13, 14, 15, 16, 17, 18, 19, 20, 21, 22, 23, 24, 25, 26, 27, 28, 29, 30, 31, 32, 33, 34, 35, 36]⟩,
    ⟨⟨(some 45), (some (39, false)), .bin .eql (.t 44) (.c (.int .i64 (0)))⟩, 38, [0, 1, 2, 3, 4, 5, 6, 7, 8, 9, 10, 11, 12, 13, 14, 15, 16, 17, 18, 19, 20, 21, 22, 23, 24, 25, 26, 27, 28, 29, 30, 31, 32, 33, 34, 35, 36, 37]⟩,
    ⟨⟨(some 46), (some (13, true)), .pick (.t 39) (.c (.bool true)) (.t 45)⟩, 39, [0, 1, 2, 3, 4, 5, 6, 7, 8, 9, 10, 11, 12, 13, 14, 15, 16, 17, 18, 19, 20, 21, 22, 23, 24, 25, 26, 27, 28, 29, 30, 31, 32, 33, 34, 35, 36, 37, 38]⟩,
    ⟨⟨(some 47), none, .pick (.t 13) (.t 46) (.c (.bool false))⟩, 40, [0, 1, 2, 3, 4, 5, 6, 7, 8, 9, 10, 11, 12, 13, 14, 15, 16, 17, 18, 19, 20, 21, 22, 23, 24, 25, 26, 27, 28, 29, 30, 31, 32, 33, 34, 35, 36, 37, 38, 39]⟩])
  (.cond (.t 47)
   (.seq (.ops [⟨(some 48), none, .mv (.t 0)⟩,
     ⟨(some 49), none, .nilck (.t 48)⟩,
     ⟨(some 50), none, .fieldAddr 0 (.t 49)⟩,
     ⟨(some 51), none, .load none (.t 50)⟩,
     ⟨(some 52), none, .idxSl 1 (.t 51) (.c (.int .i64 (0)))⟩,
     ⟨(some 53), none, .load none (.t 52)⟩,
     ⟨(some 5), none, .mv (.t 53)⟩])
   (.seq (.ops [⟨(some 54), none, .mv (.t 0)⟩,
     ⟨(some 55), none, .mv (.t 0)⟩,
     ⟨(some 56), none, .nilck (.t 55)⟩,
     ⟨(some 57), none, .fieldAddr 0 (.t 56)⟩,
     ⟨(some 58), none, .load none (.t 57)⟩,
     ⟨(some 59), none, .mv (.t 5)⟩,
     ⟨(some 60), none, .call (.c (.func (.func 29) [] [])) [(.t 58), (.t 59)]⟩,
     ⟨(some 61), none, .nilck (.t 54)⟩,
     ⟨(some 62), none, .fieldAddr 0 (.t 61)⟩,
     ⟨none, none, .store 1 (.t 62) (.t 60)⟩])
   (.seq (.ops [⟨(some 63), none, .mv (.t 0)⟩,
     ⟨(some 64), none, .mv (.t 0)⟩,
     ⟨(some 65), none, .nilck (.t 64)⟩,
     ⟨(some 66), none, .fieldAddr 2 (.t 65)⟩,
     ⟨(some 67), none, .load none (.t 66)⟩,
     ⟨(some 68), none, .mv (.t 5)⟩,
     ⟨(some 69), none, .call (.c (.func (.func 27) [] [])) [(.t 67), (.t 68)]⟩,
     ⟨(some 70), none, .nilck (.t 63)⟩,
     ⟨(some 71), none, .fieldAddr 2 (.t 70)⟩,
     ⟨none, none, .store 1 (.t 71) (.t 69)⟩])
   (.seq (.ops [⟨(some 72), none, .mv (.t 5)⟩,
     ⟨(some 4), none, .mv (.t 72)⟩])
   (.ret)))))
   (.skip)))
  (.seq (.seq (.ops [⟨(some 73), none, .mv (.t 0)⟩,
    ⟨(some 74), none, .nilck (.t 73)⟩,
    ⟨(some 75), none, .fieldAddr 1 (.t 74)⟩,
    ⟨(some 76), none, .load none (.t 75)⟩,
    ⟨(some 77), none, .lenSl (.t 76)⟩,
    ⟨(some 78), none, .bin .gtr (.t 77) (.c (.int .i64 (0)))⟩])
  (.cond (.t 78)
   (.seq (.ops [⟨(some 79), none, .mv (.t 0)⟩,
     ⟨(some 80), none, .nilck (.t 79)⟩,
     ⟨(some 81), none, .fieldAddr 1 (.t 80)⟩,
     ⟨(some 82), none, .load none (.t 81)⟩,
     ⟨(some 83), none, .idxSl 1 (.t 82) (.c (.int .i64 (0)))⟩,
     ⟨(some 84), none, .load none (.t 83)⟩,
     ⟨(some 6), none, .mv (.t 84)⟩])
   (.seq (.ops [⟨(some 85), none, .mv (.t 0)⟩,
     ⟨(some 86), none, .mv (.t 0)⟩,
     ⟨(some 87), none, .nilck (.t 86)⟩,
     ⟨(some 88), none, .fieldAddr 1 (.t 87)⟩,
     ⟨(some 89), none, .load none (.t 88)⟩,
     ⟨(some 90), none, .mv (.t 6)⟩,
     ⟨(some 91), none, .call (.c (.func (.func 29) [] [])) [(.t 89), (.t 90)]⟩,
     ⟨(some 92), none, .nilck (.t 85)⟩,
     ⟨(some 93), none, .fieldAddr 1 (.t 92)⟩,
     ⟨none, none, .store 1 (.t 93) (.t 91)⟩])
   (.seq (.ops [⟨(some 94), none, .mv (.t 0)⟩,
     ⟨(some 95), none, .mv (.t 0)⟩,
     ⟨(some 96), none, .nilck (.t 95)⟩,
     ⟨(some 97), none, .fieldAddr 3 (.t 96)⟩,
     ⟨(some 98), none, .load none (.t 97)⟩,
     ⟨(some 99), none, .mv (.t 6)⟩,
     ⟨(some 100), none, .call (.c (.func (.func 27) [] [])) [(.t 98), (.t 99)]⟩,
     ⟨(some 101), none, .nilck (.t 94)⟩,
     ⟨(some 102), none, .fieldAddr 3 (.t 101)⟩,
     ⟨none, none, .store 1 (.t 102) (.t 100)⟩])
   (.seq (.ops [⟨(some 103), none, .mv (.t 6)⟩,
     ⟨(some 4), none, .mv (.t 103)⟩])
   (.ret)))))
   (.skip)))
  (.seq (.ops [⟨(some 4), none, .mv (.c (.str []))⟩])
  (.ret))))⟩
theorem a30_ok : funcC Try.prog Try.f30 = some a30 := by kernel_rfl
/-- permafrost/arc.any -/
def a31 : AFunc := ⟨3, [.tmp 6],
  .seq (.ops [⟨(some 3), none, .box (.t 0)⟩,
    ⟨(some 4), none, .box (.t 1)⟩,
    ⟨(some 6), none, .mv (.c (.bool false))⟩])
  (.seq (.ops [⟨(some 7), none, .mv (.t 2)⟩,
    ⟨(some 8), none, .mkFn (.func 37) [] [(.t 3), (.t 4)]⟩,
    ⟨(some 9), none, .call (.c (.func (.func 36) [] [])) [(.t 7), (.t 8)]⟩,
    ⟨(some 6), none, .mv (.t 9)⟩])
  (.ret))⟩
theorem a31_ok : funcC Try.prog Try.f31 = some a31 := by kernel_rfl
/-- (*permafrost/arc.list).take -/
def a32 : AFunc := ⟨2, [.tmp 4],
  .seq (.ops [⟨(some 4), none, .mv (.c (.bool false))⟩])
  (.seq (.ops [⟨(some 6), none, .mv (.t 0)⟩,
    ⟨(some 7), none, .nilck (.t 6)⟩,
    ⟨(some 8), none, .fieldAddr 0 (.t 7)⟩,
    ⟨(some 9), none, .load none (.t 8)⟩,
    ⟨(some 10), none, .mv (.t 1)⟩,
    ⟨(some 11), none, .call (.c (.func (.func 38) [] [])) [(.t 9), (.t 10)]⟩,
    ⟨(some 5), none, .mv (.t 11)⟩])
  (.seq (.seq (.ops [⟨(some 12), none, .mv (.t 5)⟩,
    ⟨(some 13), none, .bin .geq (.t 12) (.c (.int .i64 (0)))⟩])
  (.cond (.t 13)
   (.ops [⟨(some 14), none, .mv (.t 0)⟩,
     ⟨(some 15), none, .mv (.t 0)⟩,
     ⟨(some 16), none, .nilck (.t 15)⟩,
     ⟨(some 17), none, .fieldAddr 0 (.t 16)⟩,
     ⟨(some 18), none, .load none (.t 17)⟩,
     ⟨(some 19), none, .mv (.t 5)⟩,
     ⟨(some 20), none, .mv (.t 5)⟩,
     ⟨(some 21), none, .bin .add (.t 20) (.c (.int .i64 (1)))⟩,
     ⟨(some 22), none, .call (.c (.func (.func 39) [] [])) [(.t 18), (.t 19), (.t 21)]⟩,
     ⟨(some 23), none, .nilck (.t 14)⟩,
     ⟨(some 24), none, .fieldAddr 0 (.t 23)⟩,
     ⟨none, none, .store 1 (.t 24) (.t 22)⟩])
   (.skip)))
  (.seq (.ops [⟨(some 25), none, .mv (.t 5)⟩,
    ⟨(some 26), none, .bin .geq (.t 25) (.c (.int .i64 (0)))⟩,
    ⟨(some 4), none, .mv (.t 26)⟩])
  (.ret))))⟩
theorem a32_ok : funcC Try.prog Try.f32 = some a32 := by kernel_rfl
/-- (*permafrost/arc.list).has -/
def a33 : AFunc := ⟨2, [.tmp 4],
  .seq (.ops [⟨(some 4), none, .mv (.c (.bool false))⟩])
  (.seq (.ops [⟨(some 5), none, .mv (.t 0)⟩,
    ⟨(some 6), none, .nilck (.t 5)⟩,
    ⟨(some 7), none, .fieldAddr 0 (.t 6)⟩,
    ⟨(some 8), none, .load none (.t 7)⟩,
    ⟨(some 9), none, .mv (.t 1)⟩,
    ⟨(some 10), none, .call (.c (.func (.func 40) [] [])) [(.t 8), (.t 9)]⟩,
    ⟨(some 4), none, .mv (.t 10)⟩])
  (.ret))⟩
theorem a33_ok : funcC Try.prog Try.f33 = some a33 := by kernel_rfl
/-- slices.Clone[[]string,string] -/
def a34 : AFunc := ⟨1, [.tmp 2],
  .seq (.ops [⟨(some 2), none, .mv (.c (.slice none 0 0))⟩])
  (.seq (.seq (.ops [⟨(some 3), none, .mv (.t 0)⟩,
    ⟨(some 4), none, .eq false (.flat .slice) (.t 3) (.c (.slice none 0 0))⟩])
  (.cond (.t 4)
   (.seq (.ops [⟨(some 2), none, .mv (.c (.slice none 0 0))⟩])
   (.ret))
   (.skip)))
  (.seq (.ops [⟨(some 5), none, .buildSl [] 0 []⟩,
    ⟨(some 6), none, .mv (.t 0)⟩,
    ⟨(some 7), none, .append 1 16 (.t 5) (.t 6)⟩,
    ⟨(some 2), none, .mv (.t 7)⟩])
  (.ret)))⟩
theorem a34_ok : funcC Try.prog Try.f34 = some a34 := by kernel_rfl
/-- (*permafrost/arc.list).oldest -/
def a35 : AFunc := ⟨1, [.tmp 2],
  .seq (.ops [⟨(some 2), none, .mv (.c (.str []))⟩])
  (.seq (.seq (.ops [⟨(some 4), none, .mv (.t 0)⟩,
    ⟨(some 5), none, .nilck (.t 4)⟩,
    ⟨(some 6), none, .fieldAddr 0 (.t 5)⟩,
    ⟨(some 7), none, .load none (.t 6)⟩,
    ⟨(some 8), none, .lenSl (.t 7)⟩,
    ⟨(some 9), none, .bin .eql (.t 8) (.c (.int .i64 (0)))⟩])
  (.cond (.t 9)
   (.seq (.ops [⟨(some 2), none, .mv (.c (.str []))⟩])
   (.ret))
   (.skip)))
  (.seq (.ops [⟨(some 10), none, .mv (.t 0)⟩,
    ⟨(some 11), none, .nilck (.t 10)⟩,
    ⟨(some 12), none, .fieldAddr 0 (.t 11)⟩,
    ⟨(some 13), none, .load none (.t 12)⟩,
    ⟨(some 14), none, .idxSl 1 (.t 13) (.c (.int .i64 (0)))⟩,
    ⟨(some 15), none, .load none (.t 14)⟩,
    ⟨(some 3), none, .mv (.t 15)⟩])
  (.seq (.ops [⟨(some 16), none, .mv (.t 0)⟩,
    ⟨(some 17), none, .mv (.t 3)⟩,
    ⟨(some 18), none, .call (.c (.func (.func 32) [] [])) [(.t 16), (.t 17)]⟩])
  (.seq (.ops [⟨(some 19), none, .mv (.t 3)⟩,
    ⟨(some 2), none, .mv (.t 19)⟩])
  (.ret)))))⟩
theorem a35_ok : funcC Try.prog Try.f35 = some a35 := by kernel_rfl
/-- slices.ContainsFunc[[]*permafrost/arc.list,*permafrost/arc.list] -/
def a36 : AFunc := ⟨2, [.tmp 4],
  .seq (.ops [⟨(some 4), none, .mv (.c (.bool false))⟩])
  (.seq (.ops [⟨(some 5), none, .mv (.t 0)⟩,
    ⟨(some 6), none, .mv (.t 1)⟩,
    ⟨(some 7), none, .call (.c (.func (.func 41) [] [])) [(.t 5), (.t 6)]⟩,
    ⟨(some 8), none, .bin .geq (.t 7) (.c (.int .i64 (0)))⟩,
    ⟨(some 4), none, .mv (.t 8)⟩])
  (.ret))⟩
theorem a36_ok : funcC Try.prog Try.f36 = some a36 := by kernel_rfl
/-- permafrost/arc.any$1 -/
def a37 : AFunc := ⟨3, [.tmp 4],
  .seq (.ops [⟨(some 4), none, .mv (.c (.bool false))⟩])
  (.seq (.ops [⟨(some 5), none, .load none (.t 1)⟩,
    ⟨(some 6), none, .mv (.t 0)⟩,
    ⟨(some 7), none, .load none (.t 2)⟩,
    ⟨(some 8), none, .call (.t 5) [(.t 6), (.t 7)]⟩,
    ⟨(some 4), none, .mv (.t 8)⟩])
  (.ret))⟩
theorem a37_ok : funcC Try.prog Try.f37 = some a37 := by kernel_rfl
/-- slices.Index[[]string,string] -/
def a38 : AFunc := ⟨2, [.tmp 4],
  .seq (.ops [⟨(some 4), none, .mv (.c (.int .i64 (0)))⟩])
  (.seq (.seq (.ops [⟨(some 6), none, .mv (.t 0)⟩,
    ⟨(some 7), none, .lenSl (.t 6)⟩,
    ⟨(some 8), none, .mv (.c (.int .i64 (0)))⟩])
  (.block 0 (.loop (.seq (.ops [⟨(some 9), none, .bin .lss (.t 8) (.t 7)⟩])
    (.seq (.cond (.t 9)
     (.skip)
     (.exit 0))
    (.seq (.block 1 (.seq (.ops [⟨(some 10), none, .mv (.t 8)⟩,
       ⟨(some 5), none, .mv (.t 10)⟩])
     (.seq (.ops [⟨(some 11), none, .mv (.t 1)⟩,
       ⟨(some 12), none, .mv (.t 0)⟩,
       ⟨(some 13), none, .mv (.t 5)⟩,
       ⟨(some 14), none, .idxSl 1 (.t 12) (.t 13)⟩,
       ⟨(some 15), none, .load none (.t 14)⟩,
       ⟨(some 16), none, .bin .eql (.t 11) (.t 15)⟩])
     (.cond (.t 16)
      (.seq (.ops [⟨(some 17), none, .mv (.t 5)⟩,
        ⟨(some 4), none, .mv (.t 17)⟩])
      (.ret))
      (.skip)))))
    (.ops [⟨(some 18), none, .bin .add (.t 8) (.c (.int .i64 (1)))⟩,
      ⟨(some 8), none, .mv (.t 18)⟩])))))))
  (.seq (.ops [⟨(some 4), none, .mv (.c (.int .i64 (-1)))⟩])
  (.ret)))⟩
theorem a38_ok : funcC Try.prog Try.f38 = some a38 := by kernel_rfl
/-- slices.Delete[[]string,string] -/
def a39 : AFunc := ⟨3, [.tmp 6],
  .seq (.ops [⟨(some 6), none, .mv (.c (.slice none 0 0))⟩])
  (.seq (.ops [⟨(some 8), none, .mv (.t 0)⟩,
    ⟨(some 9), none, .mv (.t 1)⟩,
    ⟨(some 10), none, .mv (.t 2)⟩,
    ⟨(some 11), none, .mv (.t 0)⟩,
    ⟨(some 12), none, .lenSl (.t 11)⟩,
    ⟨(some 13), none, .sliceSl 1 (.t 8) (some (.t 9)) (some (.t 10)) (some (.t 12))⟩])
  (.seq (.seq (.ops [⟨(some 14), none, .mv (.t 1)⟩,
    ⟨(some 15), none, .mv (.t 2)⟩,
    ⟨(some 16), none, .bin .eql (.t 14) (.t 15)⟩])
  (.cond (.t 16)
   (.seq (.ops [⟨(some 17), none, .mv (.t 0)⟩,
     ⟨(some 6), none, .mv (.t 17)⟩])
   (.ret))
   (.skip)))
  (.seq (.ops [⟨(some 18), none, .mv (.t 0)⟩,
    ⟨(some 19), none, .lenSl (.t 18)⟩,
    ⟨(some 7), none, .mv (.t 19)⟩])
  (.seq (.draw [⟨⟨(some 20), none, .mv (.t 0)⟩, 0, []⟩,
    ⟨⟨(some 21), none, .mv (.t 1)⟩, 1, []⟩,
    ⟨⟨(some 22), none, .sliceSl 1 (.t 20) none (some (.t 21)) none⟩, 2, [0, 1]⟩,
    ⟨⟨(some 23), none, .mv (.t 0)⟩, 3, []⟩,
    ⟨⟨(some 24), none, .mv (.t 2)⟩, 4, []⟩,
    ⟨⟨(some 25), none, .sliceSl 1 (.t 23) (some (.t 24)) none none⟩, 5, [3, 4]⟩,
    ⟨⟨(some 26), none, .append 1 16 (.t 22) (.t 25)⟩, 6, [0, 1, 2, 3, 4, 5]⟩,
    ⟨⟨(some 0), none, .mv (.t 26)⟩, 7, [0, 1, 2, 3, 4, 5, 6]⟩])
  (.seq (.ops [⟨(some 27), none, .mv (.t 0)⟩,
    ⟨(some 28), none, .mv (.t 0)⟩,
    ⟨(some 29), none, .lenSl (.t 28)⟩,
    ⟨(some 30), none, .mv (.t 7)⟩,
    ⟨(some 31), none, .sliceSl 1 (.t 27) (some (.t 29)) (some (.t 30)) none⟩,
    ⟨none, none, .clear 1 [(.str [])] (.t 31)⟩])
  (.seq (.ops [⟨(some 32), none, .mv (.t 0)⟩,
    ⟨(some 6), none, .mv (.t 32)⟩])
  (.ret)))))))⟩
theorem a39_ok : funcC Try.prog Try.f39 = some a39 := by kernel_rfl
/-- slices.Contains[[]string,string] -/
def a40 : AFunc := ⟨2, [.tmp 4],
  .seq (.ops [⟨(some 4), none, .mv (.c (.bool false))⟩])
  (.seq (.ops [⟨(some 5), none, .mv (.t 0)⟩,
    ⟨(some 6), none, .mv (.t 1)⟩,
    ⟨(some 7), none, .call (.c (.func (.func 38) [] [])) [(.t 5), (.t 6)]⟩,
    ⟨(some 8), none, .bin .geq (.t 7) (.c (.int .i64 (0)))⟩,
    ⟨(some 4), none, .mv (.t 8)⟩])
  (.ret))⟩
theorem a40_ok : funcC Try.prog Try.f40 = some a40 := by kernel_rfl
/-- slices.IndexFunc[[]*permafrost/arc.list,*permafrost/arc.list] -/
def a41 : AFunc := ⟨2, [.tmp 4],
  .seq (.ops [⟨(some 4), none, .mv (.c (.int .i64 (0)))⟩])
  (.seq (.seq (.ops [⟨(some 6), none, .mv (.t 0)⟩,
    ⟨(some 7), none, .lenSl (.t 6)⟩,
    ⟨(some 8), none, .mv (.c (.int .i64 (0)))⟩])
  (.block 0 (.loop (.seq (.ops [⟨(some 9), none, .bin .lss (.t 8) (.t 7)⟩])
    (.seq (.cond (.t 9)
     (.skip)
     (.exit 0))
    (.seq (.block 1 (.seq (.ops [⟨(some 10), none, .mv (.t 8)⟩,
       ⟨(some 5), none, .mv (.t 10)⟩])
     (.seq (.ops [⟨(some 11), none, .mv (.t 1)⟩,
       ⟨(some 12), none, .mv (.t 0)⟩,
       ⟨(some 13), none, .mv (.t 5)⟩,
       ⟨(some 14), none, .idxSl 1 (.t 12) (.t 13)⟩,
       ⟨(some 15), none, .load none (.t 14)⟩,
       ⟨(some 16), none, .call (.t 11) [(.t 15)]⟩])
     (.cond (.t 16)
      (.seq (.ops [⟨(some 17), none, .mv (.t 5)⟩,
        ⟨(some 4), none, .mv (.t 17)⟩])
      (.ret))
      (.skip)))))
    (.ops [⟨(some 18), none, .bin .add (.t 8) (.c (.int .i64 (1)))⟩,
      ⟨(some 8), none, .mv (.t 18)⟩])))))))
  (.seq (.ops [⟨(some 4), none, .mv (.c (.int .i64 (-1)))⟩])
  (.ret)))⟩
theorem a41_ok : funcC Try.prog Try.f41 = some a41 := by kernel_rfl
def tab : Nat → Option AFunc
  | 3 => some a3
  | 4 => some a4
  | 5 => some a5
  | 6 => some a6
  | 7 => some a7
  | 8 => some a8
  | 9 => some a9
  | 10 => some a10
  | 11 => some a11
  | 12 => some a12
  | 13 => some a13
  | 14 => some a14
  | 15 => some a15
  | 16 => some a16
  | 17 => some a17
  | 18 => some a18
  | 19 => some a19
  | 20 => some a20
  | 21 => some a21
  | 22 => some a22
  | 23 => some a23
  | 24 => some a24
  | 25 => some a25
  | 26 => some a26
  | 27 => some a27
  | 28 => some a28
  | 29 => some a29
  | 30 => some a30
  | 31 => some a31
  | 32 => some a32
  | 33 => some a33
  | 34 => some a34
  | 35 => some a35
  | 36 => some a36
  | 37 => some a37
  | 38 => some a38
  | 39 => some a39
  | 40 => some a40
  | 41 => some a41
  | _ => none
theorem tab_row (f : Nat) (af : AFunc) (h : tab f = some af) : ∃ fn, Try.prog.funcs[f]? = some fn ∧ funcC Try.prog fn = some af := by
  unfold tab at h
  split at h
  · cases h; exact ⟨_, Try.func3, a3_ok⟩
  · cases h; exact ⟨_, Try.func4, a4_ok⟩
  · cases h; exact ⟨_, Try.func5, a5_ok⟩
  · cases h; exact ⟨_, Try.func6, a6_ok⟩
  · cases h; exact ⟨_, Try.func7, a7_ok⟩
  · cases h; exact ⟨_, Try.func8, a8_ok⟩
  · cases h; exact ⟨_, Try.func9, a9_ok⟩
  · cases h; exact ⟨_, Try.func10, a10_ok⟩
  · cases h; exact ⟨_, Try.func11, a11_ok⟩
  · cases h; exact ⟨_, Try.func12, a12_ok⟩
  · cases h; exact ⟨_, Try.func13, a13_ok⟩
  · cases h; exact ⟨_, Try.func14, a14_ok⟩
  · cases h; exact ⟨_, Try.func15, a15_ok⟩
  · cases h; exact ⟨_, Try.func16, a16_ok⟩
  · cases h; exact ⟨_, Try.func17, a17_ok⟩
  · cases h; exact ⟨_, Try.func18, a18_ok⟩
  · cases h; exact ⟨_, Try.func19, a19_ok⟩
  · cases h; exact ⟨_, Try.func20, a20_ok⟩
  · cases h; exact ⟨_, Try.func21, a21_ok⟩
  · cases h; exact ⟨_, Try.func22, a22_ok⟩
  · cases h; exact ⟨_, Try.func23, a23_ok⟩
  · cases h; exact ⟨_, Try.func24, a24_ok⟩
  · cases h; exact ⟨_, Try.func25, a25_ok⟩
  · cases h; exact ⟨_, Try.func26, a26_ok⟩
  · cases h; exact ⟨_, Try.func27, a27_ok⟩
  · cases h; exact ⟨_, Try.func28, a28_ok⟩
  · cases h; exact ⟨_, Try.func29, a29_ok⟩
  · cases h; exact ⟨_, Try.func30, a30_ok⟩
  · cases h; exact ⟨_, Try.func31, a31_ok⟩
  · cases h; exact ⟨_, Try.func32, a32_ok⟩
  · cases h; exact ⟨_, Try.func33, a33_ok⟩
  · cases h; exact ⟨_, Try.func34, a34_ok⟩
  · cases h; exact ⟨_, Try.func35, a35_ok⟩
  · cases h; exact ⟨_, Try.func36, a36_ok⟩
  · cases h; exact ⟨_, Try.func37, a37_ok⟩
  · cases h; exact ⟨_, Try.func38, a38_ok⟩
  · cases h; exact ⟨_, Try.func39, a39_ok⟩
  · cases h; exact ⟨_, Try.func40, a40_ok⟩
  · cases h; exact ⟨_, Try.func41, a41_ok⟩
  · cases h
end Abs
end Go.Proofs.Ytnbljblnikdeiaa
