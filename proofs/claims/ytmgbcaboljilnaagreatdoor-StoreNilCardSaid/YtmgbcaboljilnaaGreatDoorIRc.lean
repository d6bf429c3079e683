/- Functions of these statements, as the abstract machine's code: each is what the machine reads off the program. -/
import Derived.Test.YtmgbcaboljilnaaGreatDoorProg
import Derived.KernelRfl
import Derived.Test.YtmgbcaboljilnaaGreatDoorA18
namespace Go.Proofs.YtmgbcaboljilnaaGreatDoor
namespace Abs
set_option linter.unusedVariables false
set_option maxRecDepth 100000
/-- permafrost/clog.Encode -/
def a95 : AFunc := ⟨1, [.tmp 2, .tmp 3],
  .seq (.ops [⟨(some 1), none, .box (.t 0)⟩,
    ⟨(some 2), none, .mv (.c (.str []))⟩,
    ⟨(some 3), none, .mv (.c (.int .i64 (0)))⟩])
  (.seq (.seq (.ops [⟨(some 8), none, .load (some 2) (.t 1)⟩,
    ⟨(some 9), none, .call (.c (.func (.func 113) [] [])) [(.t 8)]⟩,
    ⟨(some 4), none, .mv (.t 9)⟩])
  (.seq (.ops [⟨(some 10), none, .mv (.t 4)⟩,
    ⟨(some 11), none, .bin .neq (.t 10) (.c (.int .i64 (0)))⟩])
  (.cond (.t 11)
   (.seq (.ops [⟨(some 12), none, .mv (.t 4)⟩,
     ⟨(some 2), none, .mv (.c (.str []))⟩,
     ⟨(some 3), none, .mv (.t 12)⟩])
   (.ret))
   (.skip))))
  (.seq (.ops [⟨(some 5), none, .alloc (some 110) [(.ptr none), (.slice none 0 0)]⟩])
  (.seq (.draw [⟨⟨(some 13), none, .fieldAddr 0 (.t 1)⟩, 0, []⟩,
    ⟨⟨(some 14), none, .load none (.t 13)⟩, 1, [0]⟩,
    ⟨⟨(some 17), none, .fieldAddr 1 (.t 1)⟩, 4, []⟩,
    ⟨⟨(some 18), none, .load none (.t 17)⟩, 5, [2]⟩,
    ⟨⟨(some 19), none, .lenSl (.t 18)⟩, 6, [2, 3]⟩,
    ⟨⟨(some 15), none, .call (.c (.func (.func 60) [] [])) [(.t 14), (.c (.int .i64 (6)))]⟩, 2, [0, 1]⟩,
    ⟨⟨(some 16), none, .bin .add (.c (.str [80, 76])) (.t 15)⟩, 3, [0, 1, 5]⟩,
    ⟨⟨(some 20), none, .call (.c (.func (.func 60) [] [])) [(.t 19), (.c (.int .i64 (1)))]⟩, 7, [0, 1, 2, 3, 4, 5]⟩,
    ⟨⟨(some 21), none, .bin .add (.t 16) (.t 20)⟩, 8, [0, 1, 2, 3, 4, 5, 6, 7]⟩,
    ⟨⟨(some 22), none, .call (.c (.func (.func 59) [] [])) [(.t 5), (.t 21)]⟩, 9, [0, 1, 2, 3, 4, 5, 6, 7, 8]⟩])
  (.seq (.seq (.ops [⟨(some 23), none, .fieldAddr 1 (.t 1)⟩,
    ⟨(some 24), none, .load none (.t 23)⟩,
    ⟨(some 25), none, .lenSl (.t 24)⟩,
    ⟨(some 26), none, .mv (.c (.int .i64 (0)))⟩])
  (.block 0 (.loop (.seq (.ops [⟨(some 27), none, .bin .lss (.t 26) (.t 25)⟩])
    (.seq (.cond (.t 27)
     (.skip)
     (.exit 0))
    (.seq (.block 1 (.seq (.ops [⟨(some 28), none, .idxSl 4 (.t 24) (.t 26)⟩,
       ⟨(some 29), none, .load (some 4) (.t 28)⟩,
       ⟨(some 7), none, .alloc none [(.str []), (.str []), (.int .i64 (0)), (.int .i64 (0))]⟩,
       ⟨none, none, .store 4 (.t 7) (.t 29)⟩])
     (.draw [⟨⟨(some 30), none, .fieldAddr 0 (.t 7)⟩, 0, []⟩,
       ⟨⟨(some 31), none, .load none (.t 30)⟩, 1, [0]⟩,
       ⟨⟨(some 33), none, .fieldAddr 1 (.t 7)⟩, 3, []⟩,
       ⟨⟨(some 34), none, .load none (.t 33)⟩, 4, [2]⟩,
       ⟨⟨(some 36), none, .fieldAddr 2 (.t 7)⟩, 6, []⟩,
       ⟨⟨(some 37), none, .load none (.t 36)⟩, 7, [4]⟩,
       ⟨⟨(some 40), none, .fieldAddr 3 (.t 7)⟩, 10, []⟩,
       ⟨⟨(some 41), none, .load none (.t 40)⟩, 11, [6]⟩,
       ⟨⟨(some 32), none, .call (.c (.func (.func 114) [] [])) [(.t 31), (.c (.int .i64 (1)))]⟩, 2, [0, 1]⟩,
       ⟨⟨(some 35), none, .bin .add (.t 32) (.t 34)⟩, 5, [0, 1, 2, 3, 8]⟩,
       ⟨⟨(some 38), none, .call (.c (.func (.func 60) [] [])) [(.t 37), (.c (.int .i64 (2)))]⟩, 8, [0, 1, 4, 5, 8]⟩,
       ⟨⟨(some 39), none, .bin .add (.t 35) (.t 38)⟩, 9, [0, 1, 2, 3, 4, 5, 8, 9, 10]⟩,
       ⟨⟨(some 42), none, .call (.c (.func (.func 60) [] [])) [(.t 41), (.c (.int .i64 (2)))]⟩, 12, [0, 1, 4, 5, 6, 7, 8, 10]⟩,
       ⟨⟨(some 43), none, .bin .add (.t 39) (.t 42)⟩, 13, [0, 1, 2, 3, 4, 5, 6, 7, 8, 9, 10, 11, 12]⟩,
       ⟨⟨(some 44), none, .call (.c (.func (.func 59) [] [])) [(.t 5), (.t 43)]⟩, 14, [0, 1, 2, 3, 4, 5, 6, 7, 8, 9, 10, 11, 12, 13]⟩])))
    (.ops [⟨(some 45), none, .bin .add (.t 26) (.c (.int .i64 (1)))⟩,
      ⟨(some 26), none, .mv (.t 45)⟩])))))))
  (.seq (.ops [⟨(some 46), none, .call (.c (.func (.func 61) [] [])) [(.t 5)]⟩,
    ⟨(some 47), none, .call (.c (.func (.func 61) [] [])) [(.t 5)]⟩,
    ⟨(some 48), none, .call (.c (.func (.func 57) [] [])) [(.t 47)]⟩,
    ⟨(some 49), none, .bin .add (.t 46) (.t 48)⟩,
    ⟨(some 2), none, .mv (.t 49)⟩,
    ⟨(some 3), none, .mv (.c (.int .i64 (0)))⟩])
  (.ret))))))⟩
theorem a95_ok : funcC Tryz.prog Tryz.f95 = some a95 := by kernel_rfl
/-- (*permafrost/dev.Devs).done -/
def a96 : AFunc := ⟨2, [.tmp 4],
  .seq (.ops [⟨(some 4), none, .mv (.c (.int .i64 (0)))⟩])
  (.seq (.seq (.ops [⟨(some 5), none, .mv (.t 0)⟩,
    ⟨(some 6), none, .eq false (.flat .ptr) (.t 5) (.c (.ptr none))⟩])
  (.cond (.t 6)
   (.seq (.ops [⟨(some 4), none, .mv (.c (.int .i64 (1)))⟩])
   (.ret))
   (.skip)))
  (.seq (.ops [⟨(some 7), none, .mv (.t 0)⟩,
    ⟨(some 8), none, .nilck (.t 7)⟩,
    ⟨(some 9), none, .fieldAddr 4 (.t 8)⟩,
    ⟨(some 10), none, .load none (.t 9)⟩,
    ⟨(some 11), none, .mv (.t 1)⟩,
    ⟨(some 12), none, .mv (.t 0)⟩,
    ⟨(some 13), none, .mkFn (.func 116) [(.t 12)] []⟩,
    ⟨(some 14), none, .call (.c (.func (.func 115) [] [])) [(.t 10), (.t 11), (.t 13)]⟩])
  (.seq (.ops [⟨(some 15), none, .mv (.t 0)⟩,
    ⟨(some 16), none, .nilck (.t 15)⟩,
    ⟨(some 17), none, .fieldAddr 4 (.t 16)⟩,
    ⟨none, none, .store 1 (.t 17) (.c (.slice none 0 0))⟩])
  (.seq (.ops [⟨(some 4), none, .mv (.c (.int .i64 (0)))⟩])
  (.ret)))))⟩
theorem a96_ok : funcC Tryz.prog Tryz.f96 = some a96 := by kernel_rfl
/-- (*permafrost/dev.Devs).Flush$1 -/
def a97 : AFunc := ⟨1, [.tmp 2],
  .seq (.ops [⟨(some 2), none, .mv (.c (.bool false))⟩])
  (.seq (.ops [⟨(some 2), none, .mv (.c (.bool true))⟩])
  (.ret))⟩
theorem a97_ok : funcC Tryz.prog Tryz.f97 = some a97 := by kernel_rfl
/-- permafrost/clog.Decode -/
def a98 : AFunc := ⟨1, [.cell 2 (some 2), .tmp 3],
  .seq (.ops [⟨(some 2), none, .alloc none [(.int .i64 (0)), (.slice none 0 0)]⟩,
    ⟨(some 3), none, .mv (.c (.int .i64 (0)))⟩])
  (.seq (.seq (.ops [⟨(some 9), none, .mv (.t 0)⟩,
    ⟨(some 10), none, .lenStr (.t 9)⟩,
    ⟨(some 11), none, .bin .lss (.t 10) (.c (.int .i64 (41)))⟩])
  (.cond (.t 11)
   (.seq (.ops [⟨(some 12), none, .build [(.int .i64 (0)), (.slice none 0 0)] []⟩,
     ⟨none, none, .store 2 (.t 2) (.t 12)⟩,
     ⟨(some 3), none, .mv (.c (.int .i64 (2)))⟩])
   (.ret))
   (.skip)))
  (.seq (.draw [⟨⟨(some 13), none, .mv (.t 0)⟩, 0, []⟩,
    ⟨⟨(some 14), none, .mv (.t 0)⟩, 1, []⟩,
    ⟨⟨(some 15), none, .lenStr (.t 14)⟩, 2, [1]⟩,
    ⟨⟨(some 16), none, .bin .sub (.t 15) (.c (.int .i64 (32)))⟩, 3, [1, 2]⟩,
    ⟨⟨(some 17), none, .sliceStr (.t 13) none (some (.t 16))⟩, 4, [0, 1, 2, 3]⟩,
    ⟨⟨(some 18), none, .mv (.t 0)⟩, 5, []⟩,
    ⟨⟨(some 19), none, .mv (.t 0)⟩, 6, []⟩,
    ⟨⟨(some 20), none, .lenStr (.t 19)⟩, 7, [6]⟩,
    ⟨⟨(some 21), none, .bin .sub (.t 20) (.c (.int .i64 (32)))⟩, 8, [6, 7]⟩,
    ⟨⟨(some 22), none, .sliceStr (.t 18) (some (.t 21)) none⟩, 9, [5, 6, 7, 8]⟩,
    ⟨⟨(some 4), none, .mv (.t 17)⟩, 10, [0, 1, 2, 3, 4]⟩,
    ⟨⟨(some 5), none, .mv (.t 22)⟩, 11, [0, 1, 2, 3, 4, 5, 6, 7, 8, 9, 10]⟩])
  (.seq (.seq (.ops [⟨(some 23), none, .mv (.t 4)⟩,
    ⟨(some 24), none, .call (.c (.func (.func 57) [] [])) [(.t 23)]⟩,
    ⟨(some 25), none, .mv (.t 5)⟩,
    ⟨(some 26), none, .bin .neq (.t 24) (.t 25)⟩])
  (.cond (.t 26)
   (.seq (.ops [⟨(some 27), none, .build [(.int .i64 (0)), (.slice none 0 0)] []⟩,
     ⟨none, none, .store 2 (.t 2) (.t 27)⟩,
     ⟨(some 3), none, .mv (.c (.int .i64 (4)))⟩])
   (.ret))
   (.skip)))
  (.seq (.ops [⟨(some 28), none, .mv (.t 4)⟩,
    ⟨(some 29), none, .call (.c (.func (.func 32) [] [])) [(.t 28)]⟩,
    ⟨(some 6), none, .mv (.t 29)⟩])
  (.seq (.ops [⟨(some 30), none, .mv (.t 6)⟩,
    ⟨(some 31), none, .call (.c (.func (.func 34) [] [])) [(.t 30), (.c (.int .i64 (2)))]⟩,
    ⟨(some 32), none, .bin .eql (.t 31) (.c (.str [80, 76]))⟩,
    ⟨(some 7), none, .mv (.t 32)⟩])
  (.seq (.ops [⟨(some 33), none, .mv (.t 6)⟩,
    ⟨(some 34), none, .call (.c (.func (.func 33) [] [])) [(.t 33), (.c (.int .i64 (6)))]⟩,
    ⟨(some 35), none, .build [(.int .i64 (0)), (.slice none 0 0)] [(0, 1, (.t 34))]⟩,
    ⟨(some 8), none, .alloc none [(.int .i64 (0)), (.slice none 0 0)]⟩,
    ⟨none, none, .store 2 (.t 8) (.t 35)⟩])
  (.seq (.seq (.ops [⟨(some 36), none, .mv (.t 6)⟩,
    ⟨(some 37), none, .call (.c (.func (.func 33) [] [])) [(.t 36), (.c (.int .i64 (1)))]⟩,
    ⟨(some 38), none, .mv (.c (.int .i64 (0)))⟩])
  (.block 0 (.loop (.seq (.ops [⟨(some 39), none, .bin .lss (.t 38) (.t 37)⟩])
    (.seq (.cond (.t 39)
     (.skip)
     (.exit 0))
    (.seq (.block 1 (.draw [⟨⟨(some 40), none, .fieldAddr 1 (.t 8)⟩, 0, []⟩,
       ⟨⟨(some 41), none, .load none (.t 40)⟩, 1, [0]⟩,
       ⟨⟨(some 42), none, .mv (.t 6)⟩, 2, []⟩,
       ⟨⟨(some 44), none, .mv (.t 6)⟩, 4, []⟩,
       ⟨⟨(some 46), none, .mv (.t 6)⟩, 6, []⟩,
       ⟨⟨(some 48), none, .mv (.t 6)⟩, 8, []⟩,
       ⟨⟨(some 43), none, .call (.c (.func (.func 117) [] [])) [(.t 42), (.c (.int .i64 (1)))]⟩, 3, [2]⟩,
       ⟨⟨(some 45), none, .call (.c (.func (.func 34) [] [])) [(.t 44), (.c (.int .i64 (32)))]⟩, 5, [2, 3, 6]⟩,
       ⟨⟨(some 47), none, .call (.c (.func (.func 33) [] [])) [(.t 46), (.c (.int .i64 (2)))]⟩, 7, [2, 3, 4, 6, 7]⟩,
       ⟨⟨(some 49), none, .call (.c (.func (.func 33) [] [])) [(.t 48), (.c (.int .i64 (2)))]⟩, 9, [2, 3, 4, 5, 6, 7, 8]⟩,
       ⟨⟨(some 50), none, .build [(.str []), (.str []), (.int .i64 (0)), (.int .i64 (0))] [(0, 1, (.t 43)), (1, 1, (.t 45)), (2, 1, (.t 47)), (3, 1, (.t 49))]⟩, 10, [2, 3, 4, 5, 6, 7, 8, 9]⟩,
       ⟨⟨(some 51), none, .buildSl [(.str []), (.str []), (.int .i64 (0)), (.int .i64 (0))] 1 [(0, 4, (.t 50))]⟩, 11, [2, 3, 4, 5, 6, 7, 8, 9, 10]⟩,
       ⟨⟨(some 52), none, .append 4 48 none (.t 41) (.t 51)⟩, 12, [0, 1, 2, 3, 4, 5, 6, 7, 8, 9, 10, 11]⟩,
       ⟨⟨(some 53), none, .fieldAddr 1 (.t 8)⟩, 13, [0, 1, 2, 3, 4, 5, 6, 7, 8, 9, 10, 11, 12]⟩,
       ⟨⟨none, none, .store 1 (.t 53) (.t 52)⟩, 14, [0, 1, 2, 3, 4, 5, 6, 7, 8, 9, 10, 11, 12, 13]⟩]))
    (.ops [⟨(some 54), none, .bin .add (.t 38) (.c (.int .i64 (1)))⟩,
      ⟨(some 38), none, .mv (.t 54)⟩])))))))
  (.seq (.seq (.ops [⟨(some 55), none, .mv (.t 7)⟩,
    ⟨(some 56), none, .not (.t 55)⟩,
    ⟨(some 57), none, .mv (.t 56)⟩,
    ⟨(some 58), (some (57, false)), .mv (.t 6)⟩,
    ⟨(some 59), (some (57, false)), .call (.c (.func (.func 35) [] [])) [(.t 58)]⟩,
    ⟨(some 60), (some (57, false)), .bin .neq (.t 59) (.c (.int .i64 (0)))⟩,
    ⟨(some 61), none, .pick (.t 57) (.c (.bool true)) (.t 60)⟩,
    ⟨(some 62), none, .mv (.t 61)⟩,
    ⟨(some 63), (some (62, false)), .load (some 2) (.t 8)⟩,
    ⟨(some 64), (some (62, false)), .call (.c (.func (.func 113) [] [])) [(.t 63)]⟩,
    ⟨(some 65), (some (62, false)), .bin .neq (.t 64) (.c (.int .i64 (0)))⟩,
    ⟨(some 66), none, .pick (.t 62) (.c (.bool true)) (.t 65)⟩])
  (.cond (.t 66)
   (.seq (.ops [⟨(some 67), none, .build [(.int .i64 (0)), (.slice none 0 0)] []⟩,
     ⟨none, none, .store 2 (.t 2) (.t 67)⟩,
     ⟨(some 3), none, .mv (.c (.int .i64 (3)))⟩])
   (.ret))
   (.skip)))
  (.seq (.ops [⟨(some 68), none, .load (some 2) (.t 8)⟩,
    ⟨none, none, .store 2 (.t 2) (.t 68)⟩,
    ⟨(some 3), none, .mv (.c (.int .i64 (0)))⟩])
  (.ret))))))))))⟩
theorem a98_ok : funcC Tryz.prog Tryz.f98 = some a98 := by kernel_rfl
/-- permafrost/sum.begin -/
def a99 : AFunc := ⟨0, [.cell 0 (some 8)],
  .seq (.ops [⟨(some 0), none, .alloc none [(.int .u32 (0)), (.int .u32 (0)), (.int .u32 (0)), (.int .u32 (0)), (.int .u32 (0)), (.int .u32 (0)), (.int .u32 (0)), (.int .u32 (0))]⟩])
  (.seq (.ops [⟨(some 1), none, .build [(.int .u32 (0)), (.int .u32 (0)), (.int .u32 (0)), (.int .u32 (0)), (.int .u32 (0)), (.int .u32 (0)), (.int .u32 (0)), (.int .u32 (0))] [(0, 1, (.c (.int .u32 (1779033703)))), (1, 1, (.c (.int .u32 (3144134277)))), (2, 1, (.c (.int .u32 (1013904242)))), (3, 1, (.c (.int .u32 (2773480762)))), (4, 1, (.c (.int .u32 (1359893119)))), (5, 1, (.c (.int .u32 (2600822924)))), (6, 1, (.c (.int .u32 (528734635)))), (7, 1, (.c (.int .u32 (1541459225))))]⟩,
    ⟨none, none, .store 8 (.t 0) (.t 1)⟩])
  (.ret))⟩
theorem a99_ok : funcC Tryz.prog Tryz.f99 = some a99 := by kernel_rfl
/-- (permafrost/sum.words).behind -/
def a100 : AFunc := ⟨2, [.cell 4 (some 8)],
  .seq (.ops [⟨(some 2), none, .box (.t 0)⟩,
    ⟨(some 4), none, .alloc none [(.int .u32 (0)), (.int .u32 (0)), (.int .u32 (0)), (.int .u32 (0)), (.int .u32 (0)), (.int .u32 (0)), (.int .u32 (0)), (.int .u32 (0))]⟩])
  (.seq (.ops [⟨(some 5), none, .alloc none [(.int .u32 (0)), (.int .u32 (0)), (.int .u32 (0)), (.int .u32 (0)), (.int .u32 (0)), (.int .u32 (0)), (.int .u32 (0)), (.int .u32 (0)), (.int .u32 (0)), (.int .u32 (0)), (.int .u32 (0)), (.int .u32 (0)), (.int .u32 (0)), (.int .u32 (0)), (.int .u32 (0)), (.int .u32 (0)), (.int .u32 (0)), (.int .u32 (0)), (.int .u32 (0)), (.int .u32 (0)), (.int .u32 (0)), (.int .u32 (0)), (.int .u32 (0)), (.int .u32 (0)), (.int .u32 (0)), (.int .u32 (0)), (.int .u32 (0)), (.int .u32 (0)), (.int .u32 (0)), (.int .u32 (0)), (.int .u32 (0)), (.int .u32 (0)), (.int .u32 (0)), (.int .u32 (0)), (.int .u32 (0)), (.int .u32 (0)), (.int .u32 (0)), (.int .u32 (0)), (.int .u32 (0)), (.int .u32 (0)), (.int .u32 (0)), (.int .u32 (0)), (.int .u32 (0)), (.int .u32 (0)), (.int .u32 (0)), (.int .u32 (0)), (.int .u32 (0)), (.int .u32 (0)), (.int .u32 (0)), (.int .u32 (0)), (.int .u32 (0)), (.int .u32 (0)), (.int .u32 (0)), (.int .u32 (0)), (.int .u32 (0)), (.int .u32 (0)), (.int .u32 (0)), (.int .u32 (0)), (.int .u32 (0)), (.int .u32 (0)), (.int .u32 (0)), (.int .u32 (0)), (.int .u32 (0)), (.int .u32 (0))]⟩])
  (.seq (.seq (.ops [⟨(some 19), none, .mv (.c (.int .i64 (0)))⟩])
  (.block 0 (.loop (.seq (.ops [⟨(some 20), none, .bin .lss (.t 19) (.c (.int .i64 (64)))⟩])
    (.seq (.cond (.t 20)
     (.skip)
     (.exit 0))
    (.seq (.block 1 (.seq (.ops [⟨(some 21), none, .mv (.t 19)⟩,
       ⟨(some 6), none, .mv (.t 21)⟩])
     (.seq (.seq (.ops [⟨(some 22), none, .mv (.t 6)⟩,
       ⟨(some 23), none, .bin .lss (.t 22) (.c (.int .i64 (16)))⟩])
     (.cond (.t 23)
      (.seq (.seq (.ops [⟨(some 24), none, .mv (.c (.int .i64 (0)))⟩])
      (.block 2 (.loop (.seq (.ops [⟨(some 25), none, .bin .lss (.t 24) (.c (.int .i64 (4)))⟩])
        (.seq (.cond (.t 25)
         (.skip)
         (.exit 2))
        (.seq (.block 3 (.seq (.ops [⟨(some 26), none, .mv (.t 24)⟩,
           ⟨(some 7), none, .mv (.t 26)⟩])
         (.draw [⟨⟨(some 27), none, .mv (.t 6)⟩, 0, []⟩,
           ⟨⟨(some 28), none, .mv (.t 6)⟩, 1, []⟩,
           ⟨⟨(some 29), none, .idxArr 64 1 (.t 5) (.t 28)⟩, 2, [1]⟩,
           ⟨⟨(some 30), none, .load none (.t 29)⟩, 3, [1, 2]⟩,
           ⟨⟨(some 31), none, .bin .shl (.t 30) (.c (.int .u64 (8)))⟩, 4, [1, 2, 3]⟩,
           ⟨⟨(some 32), none, .mv (.t 1)⟩, 5, []⟩,
           ⟨⟨(some 33), none, .mv (.t 6)⟩, 6, []⟩,
           ⟨⟨(some 34), none, .bin .mul (.c (.int .i64 (4))) (.t 33)⟩, 7, [6]⟩,
           ⟨⟨(some 35), none, .mv (.t 7)⟩, 8, []⟩,
           ⟨⟨(some 36), none, .bin .add (.t 34) (.t 35)⟩, 9, [6, 7, 8]⟩,
           ⟨⟨(some 37), none, .atStr (.t 32) (.t 36)⟩, 10, [5, 6, 7, 8, 9]⟩,
           ⟨⟨(some 38), none, .toInt .u32 (.t 37)⟩, 11, [5, 6, 7, 8, 9, 10]⟩,
           ⟨⟨(some 39), none, .bin .or (.t 31) (.t 38)⟩, 12, [1, 2, 3, 4, 5, 6, 7, 8, 9, 10, 11]⟩,
           ⟨⟨(some 40), none, .idxArr 64 1 (.t 5) (.t 27)⟩, 13, [0, 1, 2, 3, 4, 5, 6, 7, 8, 9, 10, 11, 12]⟩,
           ⟨⟨none, none, .store 1 (.t 40) (.t 39)⟩, 14, [0, 1, 2, 3, 4, 5, 6, 7, 8, 9, 10, 11, 12, 13]⟩])))
        (.ops [⟨(some 41), none, .bin .add (.t 24) (.c (.int .i64 (1)))⟩,
          ⟨(some 24), none, .mv (.t 41)⟩])))))))
      (.exit 1))
      (.skip)))
     (.seq (.draw [⟨⟨(some 42), none, .mv (.t 6)⟩, 0, []⟩,
       ⟨⟨(some 43), none, .bin .sub (.t 42) (.c (.int .i64 (15)))⟩, 1, [0]⟩,
       ⟨⟨(some 44), none, .idxArr 64 1 (.t 5) (.t 43)⟩, 2, [0, 1]⟩,
       ⟨⟨(some 45), none, .load none (.t 44)⟩, 3, [0, 1, 2]⟩,
       ⟨⟨(some 46), none, .mv (.t 6)⟩, 4, []⟩,
       ⟨⟨(some 47), none, .bin .sub (.t 46) (.c (.int .i64 (2)))⟩, 5, [4]⟩,
       ⟨⟨(some 48), none, .idxArr 64 1 (.t 5) (.t 47)⟩, 6, [4, 5]⟩,
       ⟨⟨(some 49), none, .load none (.t 48)⟩, 7, [4, 5, 6]⟩,
       ⟨⟨(some 8), none, .mv (.t 45)⟩, 8, [0, 1, 2, 3]⟩,
       ⟨⟨(some 9), none, .mv (.t 49)⟩, 9, [0, 1, 2, 3, 4, 5, 6, 7, 8]⟩])
     (.seq (.ops [⟨(some 50), none, .mv (.t 8)⟩,
       ⟨(some 51), none, .call (.c (.func (.func 118) [] [])) [(.t 50), (.c (.int .i64 (7)))]⟩,
       ⟨(some 52), none, .mv (.t 8)⟩,
       ⟨(some 53), none, .call (.c (.func (.func 118) [] [])) [(.t 52), (.c (.int .i64 (18)))]⟩,
       ⟨(some 54), none, .bin .xor (.t 51) (.t 53)⟩,
       ⟨(some 55), none, .mv (.t 8)⟩,
       ⟨(some 56), none, .bin .shr (.t 55) (.c (.int .u64 (3)))⟩,
       ⟨(some 57), none, .bin .xor (.t 54) (.t 56)⟩,
       ⟨(some 10), none, .mv (.t 57)⟩])
     (.seq (.ops [⟨(some 58), none, .mv (.t 9)⟩,
       ⟨(some 59), none, .call (.c (.func (.func 118) [] [])) [(.t 58), (.c (.int .i64 (17)))]⟩,
       ⟨(some 60), none, .mv (.t 9)⟩,
       ⟨(some 61), none, .call (.c (.func (.func 118) [] [])) [(.t 60), (.c (.int .i64 (19)))]⟩,
       ⟨(some 62), none, .bin .xor (.t 59) (.t 61)⟩,
       ⟨(some 63), none, .mv (.t 9)⟩,
       ⟨(some 64), none, .bin .shr (.t 63) (.c (.int .u64 (10)))⟩,
       ⟨(some 65), none, .bin .xor (.t 62) (.t 64)⟩,
       ⟨(some 11), none, .mv (.t 65)⟩])
     (.draw [⟨⟨(some 66), none, .mv (.t 6)⟩, 0, []⟩,
       ⟨⟨(some 67), none, .mv (.t 11)⟩, 1, []⟩,
       ⟨⟨(some 68), none, .mv (.t 6)⟩, 2, []⟩,
       ⟨⟨(some 69), none, .bin .sub (.t 68) (.c (.int .i64 (7)))⟩, 3, [2]⟩,
       ⟨⟨(some 70), none, .idxArr 64 1 (.t 5) (.t 69)⟩, 4, [2, 3]⟩,
       ⟨⟨(some 71), none, .load none (.t 70)⟩, 5, [2, 3, 4]⟩,
       ⟨⟨(some 72), none, .bin .add (.t 67) (.t 71)⟩, 6, [1, 2, 3, 4, 5]⟩,
       ⟨⟨(some 73), none, .mv (.t 10)⟩, 7, []⟩,
       ⟨⟨(some 74), none, .bin .add (.t 72) (.t 73)⟩, 8, [1, 2, 3, 4, 5, 6, 7]⟩,
       ⟨⟨(some 75), none, .mv (.t 6)⟩, 9, []⟩,
       ⟨⟨(some 76), none, .bin .sub (.t 75) (.c (.int .i64 (16)))⟩, 10, [9]⟩,
       ⟨⟨(some 77), none, .idxArr 64 1 (.t 5) (.t 76)⟩, 11, [9, 10]⟩,
       ⟨⟨(some 78), none, .load none (.t 77)⟩, 12, [9, 10, 11]⟩,
       ⟨⟨(some 79), none, .bin .add (.t 74) (.t 78)⟩, 13, [1, 2, 3, 4, 5, 6, 7, 8, 9, 10, 11, 12]⟩,
       ⟨⟨(some 80), none, .idxArr 64 1 (.t 5) (.t 66)⟩, 14, [0, 1, 2, 3, 4, 5, 6, 7, 8, 9, 10, 11, 12, 13]⟩,
       ⟨⟨none, none, .store 1 (.t 80) (.t 79)⟩, 15, [0, 1, 2, 3, 4, 5, 6, 7, 8, 9, 10, 11, 12, 13, 14]⟩])))))))
    (.ops [⟨(some 81), none, .bin .add (.t 19) (.c (.int .i64 (1)))⟩,
      ⟨(some 19), none, .mv (.t 81)⟩])))))))
  (.seq (.ops [⟨(some 82), none, .load (some 8) (.t 2)⟩,
    ⟨(some 12), none, .alloc none [(.int .u32 (0)), (.int .u32 (0)), (.int .u32 (0)), (.int .u32 (0)), (.int .u32 (0)), (.int .u32 (0)), (.int .u32 (0)), (.int .u32 (0))]⟩,
    ⟨none, none, .store 8 (.t 12) (.t 82)⟩])
  (.seq (.seq (.ops [⟨(some 83), none, .mv (.c (.int .i64 (0)))⟩])
  (.block 4 (.loop (.seq (.ops [⟨(some 84), none, .bin .lss (.t 83) (.c (.int .i64 (64)))⟩])
    (.seq (.cond (.t 84)
     (.skip)
     (.exit 4))
    (.seq (.block 5 (.seq (.ops [⟨(some 85), none, .mv (.t 83)⟩,
       ⟨(some 13), none, .mv (.t 85)⟩])
     (.seq (.draw [⟨⟨(some 86), none, .idxArr 8 1 (.t 12) (.c (.int .i64 (0)))⟩, 0, []⟩,
       ⟨⟨(some 87), none, .load none (.t 86)⟩, 1, [0]⟩,
       ⟨⟨(some 88), none, .idxArr 8 1 (.t 12) (.c (.int .i64 (4)))⟩, 2, []⟩,
       ⟨⟨(some 89), none, .load none (.t 88)⟩, 3, [2]⟩,
       ⟨⟨(some 14), none, .mv (.t 87)⟩, 4, [0, 1]⟩,
       ⟨⟨(some 15), none, .mv (.t 89)⟩, 5, [0, 1, 2, 3, 4]⟩])
     (.seq (.draw [⟨⟨(some 90), none, .idxArr 8 1 (.t 12) (.c (.int .i64 (7)))⟩, 0, []⟩,
       ⟨⟨(some 91), none, .load none (.t 90)⟩, 1, [0]⟩,
       ⟨⟨(some 92), none, .mv (.t 15)⟩, 2, []⟩,
       ⟨⟨(some 94), none, .mv (.t 15)⟩, 4, []⟩,
       ⟨⟨(some 97), none, .mv (.t 15)⟩, 7, []⟩,
       ⟨⟨(some 101), none, .mv (.t 15)⟩, 11, []⟩,
       ⟨⟨(some 102), none, .idxArr 8 1 (.t 12) (.c (.int .i64 (5)))⟩, 12, []⟩,
       ⟨⟨(some 103), none, .load none (.t 102)⟩, 13, [6]⟩,
       ⟨⟨(some 104), none, .bin .and (.t 101) (.t 103)⟩, 14, [5, 6, 7]⟩,
       ⟨⟨(some 105), none, .mv (.t 15)⟩, 15, []⟩,
       ⟨⟨(some 106), none, .inv (.t 105)⟩, 16, [9]⟩,
       ⟨⟨(some 107), none, .idxArr 8 1 (.t 12) (.c (.int .i64 (6)))⟩, 17, []⟩,
       ⟨⟨(some 108), none, .load none (.t 107)⟩, 18, [11]⟩,
       ⟨⟨(some 109), none, .bin .and (.t 106) (.t 108)⟩, 19, [9, 10, 11, 12]⟩,
       ⟨⟨(some 110), none, .bin .xor (.t 104) (.t 109)⟩, 20, [5, 6, 7, 8, 9, 10, 11, 12, 13]⟩,
       ⟨⟨(some 112), none, .mv (.t 13)⟩, 22, []⟩,
       ⟨⟨(some 113), none, .idxArr 64 1 (.c (.ptr (some (0, 0)))) (.t 112)⟩, 23, [15]⟩,
       ⟨⟨(some 114), none, .load none (.t 113)⟩, 24, [15, 16]⟩,
       ⟨⟨(some 116), none, .mv (.t 13)⟩, 26, []⟩,
       ⟨⟨(some 117), none, .idxArr 64 1 (.t 5) (.t 116)⟩, 27, [18]⟩,
       ⟨⟨(some 118), none, .load none (.t 117)⟩, 28, [18, 19]⟩,
       ⟨⟨(some 93), none, .call (.c (.func (.func 118) [] [])) [(.t 92), (.c (.int .i64 (6)))]⟩, 3, [2]⟩,
       ⟨⟨(some 95), none, .call (.c (.func (.func 118) [] [])) [(.t 94), (.c (.int .i64 (11)))]⟩, 5, [2, 3, 21]⟩,
       ⟨⟨(some 96), none, .bin .xor (.t 93) (.t 95)⟩, 6, [2, 3, 21, 22]⟩,
       ⟨⟨(some 98), none, .call (.c (.func (.func 118) [] [])) [(.t 97), (.c (.int .i64 (25)))]⟩, 8, [2, 3, 4, 21, 22]⟩,
       ⟨⟨(some 99), none, .bin .xor (.t 96) (.t 98)⟩, 9, [2, 3, 4, 21, 22, 23, 24]⟩,
       ⟨⟨(some 100), none, .bin .add (.t 91) (.t 99)⟩, 10, [0, 1, 2, 3, 4, 21, 22, 23, 24, 25]⟩,
       ⟨⟨(some 111), none, .bin .add (.t 100) (.t 110)⟩, 21, [0, 1, 2, 3, 4, 5, 6, 7, 8, 9, 10, 11, 12, 13, 14, 21, 22, 23, 24, 25, 26]⟩,
       ⟨⟨(some 115), none, .bin .add (.t 111) (.t 114)⟩, 25, [0, 1, 2, 3, 4, 5, 6, 7, 8, 9, 10, 11, 12, 13, 14, 15, 16, 17, 21, 22, 23, 24, 25, 26, 27]⟩,
       ⟨⟨(some 119), none, .bin .add (.t 115) (.t 118)⟩, 29, [0, 1, 2, 3, 4, 5, 6, 7, 8, 9, 10, 11, 12, 13, 14, 15, 16, 17, 18, 19, 20, 21, 22, 23, 24, 25, 26, 27, 28]⟩,
       ⟨⟨(some 16), none, .mv (.t 119)⟩, 30, [0, 1, 2, 3, 4, 5, 6, 7, 8, 9, 10, 11, 12, 13, 14, 15, 16, 17, 18, 19, 20, 21, 22, 23, 24, 25, 26, 27, 28, 29]⟩])
     (.seq (.draw [⟨⟨(some 120), none, .mv (.t 14)⟩, 0, []⟩,
       ⟨⟨(some 122), none, .mv (.t 14)⟩, 2, []⟩,
       ⟨⟨(some 125), none, .mv (.t 14)⟩, 5, []⟩,
       ⟨⟨(some 128), none, .mv (.t 14)⟩, 8, []⟩,
       ⟨⟨(some 129), none, .idxArr 8 1 (.t 12) (.c (.int .i64 (1)))⟩, 9, []⟩,
       ⟨⟨(some 130), none, .load none (.t 129)⟩, 10, [4]⟩,
       ⟨⟨(some 131), none, .bin .and (.t 128) (.t 130)⟩, 11, [3, 4, 5]⟩,
       ⟨⟨(some 132), none, .mv (.t 14)⟩, 12, []⟩,
       ⟨⟨(some 133), none, .idxArr 8 1 (.t 12) (.c (.int .i64 (2)))⟩, 13, []⟩,
       ⟨⟨(some 134), none, .load none (.t 133)⟩, 14, [8]⟩,
       ⟨⟨(some 135), none, .bin .and (.t 132) (.t 134)⟩, 15, [7, 8, 9]⟩,
       ⟨⟨(some 136), none, .bin .xor (.t 131) (.t 135)⟩, 16, [3, 4, 5, 6, 7, 8, 9, 10]⟩,
       ⟨⟨(some 137), none, .idxArr 8 1 (.t 12) (.c (.int .i64 (1)))⟩, 17, []⟩,
       ⟨⟨(some 138), none, .load none (.t 137)⟩, 18, [12]⟩,
       ⟨⟨(some 139), none, .idxArr 8 1 (.t 12) (.c (.int .i64 (2)))⟩, 19, []⟩,
       ⟨⟨(some 140), none, .load none (.t 139)⟩, 20, [14]⟩,
       ⟨⟨(some 141), none, .bin .and (.t 138) (.t 140)⟩, 21, [12, 13, 14, 15]⟩,
       ⟨⟨(some 142), none, .bin .xor (.t 136) (.t 141)⟩, 22, [3, 4, 5, 6, 7, 8, 9, 10, 11, 12, 13, 14, 15, 16]⟩,
       ⟨⟨(some 121), none, .call (.c (.func (.func 118) [] [])) [(.t 120), (.c (.int .i64 (2)))]⟩, 1, [0]⟩,
       ⟨⟨(some 123), none, .call (.c (.func (.func 118) [] [])) [(.t 122), (.c (.int .i64 (13)))]⟩, 3, [0, 1, 18]⟩,
       ⟨⟨(some 124), none, .bin .xor (.t 121) (.t 123)⟩, 4, [0, 1, 18, 19]⟩,
       ⟨⟨(some 126), none, .call (.c (.func (.func 118) [] [])) [(.t 125), (.c (.int .i64 (22)))]⟩, 6, [0, 1, 2, 18, 19]⟩,
       ⟨⟨(some 127), none, .bin .xor (.t 124) (.t 126)⟩, 7, [0, 1, 2, 18, 19, 20, 21]⟩,
       ⟨⟨(some 143), none, .bin .add (.t 127) (.t 142)⟩, 23, [0, 1, 2, 3, 4, 5, 6, 7, 8, 9, 10, 11, 12, 13, 14, 15, 16, 17, 18, 19, 20, 21, 22]⟩,
       ⟨⟨(some 17), none, .mv (.t 143)⟩, 24, [0, 1, 2, 3, 4, 5, 6, 7, 8, 9, 10, 11, 12, 13, 14, 15, 16, 17, 18, 19, 20, 21, 22, 23]⟩])
     (.ops [⟨(some 144), none, .mv (.t 16)⟩,
       ⟨(some 145), none, .mv (.t 17)⟩,
       ⟨(some 146), none, .bin .add (.t 144) (.t 145)⟩,
       ⟨(some 147), none, .mv (.t 14)⟩,
       ⟨(some 148), none, .idxArr 8 1 (.t 12) (.c (.int .i64 (1)))⟩,
       ⟨(some 149), none, .load none (.t 148)⟩,
       ⟨(some 150), none, .idxArr 8 1 (.t 12) (.c (.int .i64 (2)))⟩,
       ⟨(some 151), none, .load none (.t 150)⟩,
       ⟨(some 152), none, .idxArr 8 1 (.t 12) (.c (.int .i64 (3)))⟩,
       ⟨(some 153), none, .load none (.t 152)⟩,
       ⟨(some 154), none, .mv (.t 16)⟩,
       ⟨(some 155), none, .bin .add (.t 153) (.t 154)⟩,
       ⟨(some 156), none, .mv (.t 15)⟩,
       ⟨(some 157), none, .idxArr 8 1 (.t 12) (.c (.int .i64 (5)))⟩,
       ⟨(some 158), none, .load none (.t 157)⟩,
       ⟨(some 159), none, .idxArr 8 1 (.t 12) (.c (.int .i64 (6)))⟩,
       ⟨(some 160), none, .load none (.t 159)⟩,
       ⟨(some 161), none, .build [(.int .u32 (0)), (.int .u32 (0)), (.int .u32 (0)), (.int .u32 (0)), (.int .u32 (0)), (.int .u32 (0)), (.int .u32 (0)), (.int .u32 (0))] [(0, 1, (.t 146)), (1, 1, (.t 147)), (2, 1, (.t 149)), (3, 1, (.t 151)), (4, 1, (.t 155)), (5, 1, (.t 156)), (6, 1, (.t 158)), (7, 1, (.t 160))]⟩,
       ⟨none, none, .store 8 (.t 12) (.t 161)⟩]))))))
    (.ops [⟨(some 162), none, .bin .add (.t 83) (.c (.int .i64 (1)))⟩,
      ⟨(some 83), none, .mv (.t 162)⟩])))))))
  (.seq (.seq (.ops [⟨(some 163), none, .mv (.c (.int .i64 (0)))⟩])
  (.block 6 (.loop (.seq (.ops [⟨(some 164), none, .bin .lss (.t 163) (.c (.int .i64 (8)))⟩])
    (.seq (.cond (.t 164)
     (.skip)
     (.exit 6))
    (.seq (.block 7 (.seq (.ops [⟨(some 165), none, .mv (.t 163)⟩,
       ⟨(some 18), none, .mv (.t 165)⟩])
     (.draw [⟨⟨(some 166), none, .mv (.t 18)⟩, 0, []⟩,
       ⟨⟨(some 167), none, .idxArr 8 1 (.t 2) (.t 166)⟩, 1, [0]⟩,
       ⟨⟨(some 168), none, .load none (.t 167)⟩, 2, [0, 1]⟩,
       ⟨⟨(some 169), none, .mv (.t 18)⟩, 3, []⟩,
       ⟨⟨(some 170), none, .idxArr 8 1 (.t 12) (.t 169)⟩, 4, [3]⟩,
       ⟨⟨(some 171), none, .load none (.t 170)⟩, 5, [3, 4]⟩,
       ⟨⟨(some 172), none, .bin .add (.t 168) (.t 171)⟩, 6, [0, 1, 2, 3, 4, 5]⟩,
       ⟨⟨(some 173), none, .idxArr 8 1 (.t 2) (.t 166)⟩, 7, [0, 1, 2, 3, 4, 5, 6]⟩,
       ⟨⟨none, none, .store 1 (.t 173) (.t 172)⟩, 8, [0, 1, 2, 3, 4, 5, 6, 7]⟩])))
    (.ops [⟨(some 174), none, .bin .add (.t 163) (.c (.int .i64 (1)))⟩,
      ⟨(some 163), none, .mv (.t 174)⟩])))))))
  (.seq (.ops [⟨(some 175), none, .load (some 8) (.t 2)⟩,
    ⟨none, none, .store 8 (.t 4) (.t 175)⟩])
  (.ret)))))))⟩
theorem a100_ok : funcC Tryz.prog Tryz.f100 = some a100 := by kernel_rfl
/-- (*strings.Builder).Write -/
def a102 : AFunc := ⟨2, [.tmp 4, .tmp 5],
  .seq (.ops [⟨(some 4), none, .mv (.c (.int .i64 (0)))⟩,
    ⟨(some 5), none, .mv (.c .nilIface)⟩])
  (.seq (.ops [⟨(some 6), none, .mv (.t 0)⟩,
    ⟨(some 7), none, .call (.c (.func (.func 84) [] [])) [(.t 6)]⟩])
  (.seq (.ops [⟨(some 8), none, .mv (.t 0)⟩,
    ⟨(some 9), none, .mv (.t 0)⟩,
    ⟨(some 10), none, .nilck (.t 9)⟩,
    ⟨(some 11), none, .fieldAddr 1 (.t 10)⟩,
    ⟨(some 12), none, .load none (.t 11)⟩,
    ⟨(some 13), none, .mv (.t 1)⟩,
    ⟨(some 14), none, .append 1 1 (some 5) (.t 12) (.t 13)⟩,
    ⟨(some 15), none, .nilck (.t 8)⟩,
    ⟨(some 16), none, .fieldAddr 1 (.t 15)⟩,
    ⟨none, none, .store 1 (.t 16) (.t 14)⟩])
  (.seq (.ops [⟨(some 17), none, .mv (.t 1)⟩,
    ⟨(some 18), none, .lenSl (.t 17)⟩,
    ⟨(some 4), none, .mv (.t 18)⟩,
    ⟨(some 5), none, .mv (.c .nilIface)⟩])
  (.ret))))⟩
theorem a102_ok : funcC Tryz.prog Tryz.f102 = some a102 := by kernel_rfl
/-- maps.Keys[map[int]permafrost/clog.Entry,int,permafrost/clog.Entry]$1 -/
def a106 : AFunc := ⟨2, [],
  .seq (.ops [⟨(some 4), none, .load none (.t 1)⟩,
    ⟨(some 5), none, .bad⟩])
  (.block 0 (.loop (.seq (.ops [⟨(some 6), none, .bad⟩,
      ⟨(some 7), none, .extract 0 (.t 6)⟩])
    (.seq (.cond (.t 7)
     (.skip)
     (.exit 0))
    (.block 1 (.seq (.ops [⟨(some 8), none, .bad⟩,
       ⟨(some 9), none, .extract 0 (.t 8)⟩,
       ⟨(some 3), none, .mv (.t 9)⟩])
     (.seq (.ops [⟨(some 10), none, .mv (.t 0)⟩,
       ⟨(some 11), none, .mv (.t 3)⟩,
       ⟨(some 12), none, .call (.t 10) [(.t 11)]⟩,
       ⟨(some 13), none, .not (.t 12)⟩])
     (.cond (.t 13)
      (.ret)
      (.skip)))))))))⟩
theorem a106_ok : funcC Tryz.prog Tryz.f106 = some a106 := by kernel_rfl
/-- slices.Backward[[]permafrost/dev.write,permafrost/dev.write]$1 -/
def a107 : AFunc := ⟨2, [],
  .seq (.ops [⟨(some 4), none, .load none (.t 1)⟩,
    ⟨(some 5), none, .lenSl (.t 4)⟩,
    ⟨(some 6), none, .bin .sub (.t 5) (.c (.int .i64 (1)))⟩,
    ⟨(some 3), none, .mv (.t 6)⟩])
  (.block 0 (.loop (.seq (.seq (.ops [⟨(some 7), none, .mv (.t 3)⟩,
      ⟨(some 8), none, .bin .geq (.t 7) (.c (.int .i64 (0)))⟩])
    (.cond (.t 8)
     (.skip)
     (.exit 0)))
    (.seq (.block 1 (.seq (.ops [⟨(some 11), none, .mv (.t 0)⟩,
       ⟨(some 12), none, .mv (.t 3)⟩,
       ⟨(some 13), none, .load none (.t 1)⟩,
       ⟨(some 14), none, .mv (.t 3)⟩,
       ⟨(some 15), none, .idxSl 3 (.t 13) (.t 14)⟩,
       ⟨(some 16), none, .load (some 3) (.t 15)⟩,
       ⟨(some 17), none, .call (.t 11) [(.t 12), (.t 16)]⟩,
       ⟨(some 18), none, .not (.t 17)⟩])
     (.cond (.t 18)
      (.ret)
      (.skip))))
    (.ops [⟨(some 9), none, .mv (.t 3)⟩,
      ⟨(some 10), none, .bin .sub (.t 9) (.c (.int .i64 (1)))⟩,
      ⟨(some 3), none, .mv (.t 10)⟩])))))⟩
theorem a107_ok : funcC Tryz.prog Tryz.f107 = some a107 := by kernel_rfl
/-- (*permafrost/arc.list).has -/
def a108 : AFunc := ⟨2, [.tmp 4],
  .seq (.ops [⟨(some 4), none, .mv (.c (.bool false))⟩])
  (.seq (.ops [⟨(some 5), none, .mv (.t 0)⟩,
    ⟨(some 6), none, .nilck (.t 5)⟩,
    ⟨(some 7), none, .fieldAddr 0 (.t 6)⟩,
    ⟨(some 8), none, .load none (.t 7)⟩,
    ⟨(some 9), none, .mv (.t 1)⟩,
    ⟨(some 10), none, .call (.c (.func (.func 126) [] [])) [(.t 8), (.t 9)]⟩,
    ⟨(some 4), none, .mv (.t 10)⟩])
  (.ret))⟩
theorem a108_ok : funcC Tryz.prog Tryz.f108 = some a108 := by kernel_rfl
/-- slices.ContainsFunc[[]*permafrost/arc.list,*permafrost/arc.list] -/
def a109 : AFunc := ⟨2, [.tmp 4],
  .seq (.ops [⟨(some 4), none, .mv (.c (.bool false))⟩])
  (.seq (.ops [⟨(some 5), none, .mv (.t 0)⟩,
    ⟨(some 6), none, .mv (.t 1)⟩,
    ⟨(some 7), none, .call (.c (.func (.func 127) [] [])) [(.t 5), (.t 6)]⟩,
    ⟨(some 8), none, .bin .geq (.t 7) (.c (.int .i64 (0)))⟩,
    ⟨(some 4), none, .mv (.t 8)⟩])
  (.ret))⟩
theorem a109_ok : funcC Tryz.prog Tryz.f109 = some a109 := by kernel_rfl
/-- permafrost/arc.any$1 -/
def a110 : AFunc := ⟨3, [.tmp 4],
  .seq (.ops [⟨(some 4), none, .mv (.c (.bool false))⟩])
  (.seq (.ops [⟨(some 5), none, .load none (.t 1)⟩,
    ⟨(some 6), none, .mv (.t 0)⟩,
    ⟨(some 7), none, .load none (.t 2)⟩,
    ⟨(some 8), none, .call (.t 5) [(.t 6), (.t 7)]⟩,
    ⟨(some 4), none, .mv (.t 8)⟩])
  (.ret))⟩
theorem a110_ok : funcC Tryz.prog Tryz.f110 = some a110 := by kernel_rfl
/-- slices.Index[[]string,string] -/
def a111 : AFunc := ⟨2, [.tmp 4],
  .seq (.ops [⟨(some 4), none, .mv (.c (.int .i64 (0)))⟩])
  (.seq (.seq (.ops [⟨(some 6), none, .mv (.t 0)⟩,
    ⟨(some 7), none, .lenSl (.t 6)⟩,
    ⟨(some 8), none, .mv (.c (.int .i64 (0)))⟩])
  (.block 0 (.loop (.seq (.ops [⟨(some 9), none, .bin .lss (.t 8) (.t 7)⟩])
    (.seq (.cond (.t 9)
     (.skip)
     (.exit 0))
    (.seq (.block 1 (.seq (.ops [⟨(some 10), none, .mv (.t 8)⟩,
       ⟨(some 5), none, .mv (.t 10)⟩])
     (.seq (.ops [⟨(some 11), none, .mv (.t 1)⟩,
       ⟨(some 12), none, .mv (.t 0)⟩,
       ⟨(some 13), none, .mv (.t 5)⟩,
       ⟨(some 14), none, .idxSl 1 (.t 12) (.t 13)⟩,
       ⟨(some 15), none, .load none (.t 14)⟩,
       ⟨(some 16), none, .bin .eql (.t 11) (.t 15)⟩])
     (.cond (.t 16)
      (.seq (.ops [⟨(some 17), none, .mv (.t 5)⟩,
        ⟨(some 4), none, .mv (.t 17)⟩])
      (.ret))
      (.skip)))))
    (.ops [⟨(some 18), none, .bin .add (.t 8) (.c (.int .i64 (1)))⟩,
      ⟨(some 8), none, .mv (.t 18)⟩])))))))
  (.seq (.ops [⟨(some 4), none, .mv (.c (.int .i64 (-1)))⟩])
  (.ret)))⟩
theorem a111_ok : funcC Tryz.prog Tryz.f111 = some a111 := by kernel_rfl
/-- slices.Delete[[]string,string] -/
def a112 : AFunc := ⟨3, [.tmp 6],
  .seq (.ops [⟨(some 6), none, .mv (.c (.slice none 0 0))⟩])
  (.seq (.ops [⟨(some 8), none, .mv (.t 0)⟩,
    ⟨(some 9), none, .mv (.t 1)⟩,
    ⟨(some 10), none, .mv (.t 2)⟩,
    ⟨(some 11), none, .mv (.t 0)⟩,
    ⟨(some 12), none, .lenSl (.t 11)⟩,
    ⟨(some 13), none, .sliceSl 1 (.t 8) (some (.t 9)) (some (.t 10)) (some (.t 12))⟩])
  (.seq (.seq (.ops [⟨(some 14), none, .mv (.t 1)⟩,
    ⟨(some 15), none, .mv (.t 2)⟩,
    ⟨(some 16), none, .bin .eql (.t 14) (.t 15)⟩])
  (.cond (.t 16)
   (.seq (.ops [⟨(some 17), none, .mv (.t 0)⟩,
     ⟨(some 6), none, .mv (.t 17)⟩])
   (.ret))
   (.skip)))
  (.seq (.ops [⟨(some 18), none, .mv (.t 0)⟩,
    ⟨(some 19), none, .lenSl (.t 18)⟩,
    ⟨(some 7), none, .mv (.t 19)⟩])
  (.seq (.draw [⟨⟨(some 20), none, .mv (.t 0)⟩, 0, []⟩,
    ⟨⟨(some 21), none, .mv (.t 1)⟩, 1, []⟩,
    ⟨⟨(some 22), none, .sliceSl 1 (.t 20) none (some (.t 21)) none⟩, 2, [0, 1]⟩,
    ⟨⟨(some 23), none, .mv (.t 0)⟩, 3, []⟩,
    ⟨⟨(some 24), none, .mv (.t 2)⟩, 4, []⟩,
    ⟨⟨(some 25), none, .sliceSl 1 (.t 23) (some (.t 24)) none none⟩, 5, [3, 4]⟩,
    ⟨⟨(some 26), none, .append 1 16 none (.t 22) (.t 25)⟩, 6, [0, 1, 2, 3, 4, 5]⟩,
    ⟨⟨(some 0), none, .mv (.t 26)⟩, 7, [0, 1, 2, 3, 4, 5, 6]⟩])
  (.seq (.ops [⟨(some 27), none, .mv (.t 0)⟩,
    ⟨(some 28), none, .mv (.t 0)⟩,
    ⟨(some 29), none, .lenSl (.t 28)⟩,
    ⟨(some 30), none, .mv (.t 7)⟩,
    ⟨(some 31), none, .sliceSl 1 (.t 27) (some (.t 29)) (some (.t 30)) none⟩,
    ⟨none, none, .clear 1 [(.str [])] (.t 31)⟩])
  (.seq (.ops [⟨(some 32), none, .mv (.t 0)⟩,
    ⟨(some 6), none, .mv (.t 32)⟩])
  (.ret)))))))⟩
theorem a112_ok : funcC Tryz.prog Tryz.f112 = some a112 := by kernel_rfl
/-- permafrost/clog.Check -/
def a113 : AFunc := ⟨1, [.tmp 2],
  .seq (.ops [⟨(some 1), none, .box (.t 0)⟩,
    ⟨(some 2), none, .mv (.c (.int .i64 (0)))⟩])
  (.seq (.ops [⟨(some 3), none, .mv (.c (.func (.func 128) [] []))⟩])
  (.seq (.seq (.ops [⟨(some 4), none, .fieldAddr 0 (.t 1)⟩,
    ⟨(some 5), none, .load none (.t 4)⟩,
    ⟨(some 6), none, .call (.c (.func (.func 129) [] [])) [(.t 5), (.c (.int .i64 (1099511627776)))]⟩,
    ⟨(some 7), none, .not (.t 6)⟩,
    ⟨(some 8), none, .mv (.t 7)⟩,
    ⟨(some 9), (some (8, false)), .fieldAddr 1 (.t 1)⟩,
    ⟨(some 10), (some (8, false)), .load none (.t 9)⟩,
    ⟨(some 11), (some (8, false)), .lenSl (.t 10)⟩,
    ⟨(some 12), (some (8, false)), .bin .gtr (.t 11) (.c (.int .i64 (7)))⟩,
    ⟨(some 13), none, .pick (.t 8) (.c (.bool true)) (.t 12)⟩,
    ⟨(some 14), none, .mv (.t 13)⟩,
    ⟨(some 15), (some (14, false)), .fieldAddr 1 (.t 1)⟩,
    ⟨(some 16), (some (14, false)), .load none (.t 15)⟩,
    ⟨(some 17), (some (14, false)), .mv (.t 3)⟩,
    ⟨(some 18), (some (14, false)), .call (.c (.func (.func 130) [] [])) [(.t 16), (.t 17)]⟩,
    ⟨(some 19), none, .pick (.t 14) (.c (.bool true)) (.t 18)⟩])
  (.cond (.t 19)
   (.seq (.ops [⟨(some 2), none, .mv (.c (.int .i64 (1)))⟩])
   (.ret))
   (.skip)))
  (.seq (.ops [⟨(some 2), none, .mv (.c (.int .i64 (0)))⟩])
  (.ret))))⟩
theorem a113_ok : funcC Tryz.prog Tryz.f113 = some a113 := by kernel_rfl
/-- permafrost/fixed.Text -/
def a114 : AFunc := ⟨2, [.tmp 4],
  .seq (.ops [⟨(some 4), none, .mv (.c (.str []))⟩])
  (.seq (.seq (.ops [⟨(some 5), none, .mv (.t 0)⟩,
    ⟨(some 6), none, .lenStr (.t 5)⟩,
    ⟨(some 7), none, .mv (.t 1)⟩,
    ⟨(some 8), none, .call (.c (.func (.func 62) [] [])) [(.t 7)]⟩,
    ⟨(some 9), none, .bin .gtr (.t 6) (.t 8)⟩])
  (.cond (.t 9)
   (.seq (.ops [⟨(some 4), none, .mv (.c (.str []))⟩])
   (.ret))
   (.skip)))
  (.seq (.ops [⟨(some 10), none, .mv (.t 0)⟩,
    ⟨(some 11), none, .lenStr (.t 10)⟩,
    ⟨(some 12), none, .mv (.t 1)⟩,
    ⟨(some 13), none, .call (.c (.func (.func 60) [] [])) [(.t 11), (.t 12)]⟩,
    ⟨(some 14), none, .mv (.t 0)⟩,
    ⟨(some 15), none, .bin .add (.t 13) (.t 14)⟩,
    ⟨(some 4), none, .mv (.t 15)⟩])
  (.ret)))⟩
theorem a114_ok : funcC Tryz.prog Tryz.f114 = some a114 := by kernel_rfl
/-- permafrost/dev.settle -/
def a115 : AFunc := ⟨3, [],
  .seq (.ops [⟨(some 8), none, .mv (.t 0)⟩,
    ⟨(some 9), none, .lenSl (.t 8)⟩,
    ⟨(some 10), none, .mv (.c (.int .i64 (0)))⟩])
  (.block 0 (.loop (.seq (.ops [⟨(some 11), none, .bin .lss (.t 10) (.t 9)⟩])
    (.seq (.cond (.t 11)
     (.skip)
     (.exit 0))
    (.seq (.block 1 (.seq (.ops [⟨(some 12), none, .mv (.t 10)⟩,
       ⟨(some 13), none, .idxSl 3 (.t 8) (.t 10)⟩,
       ⟨(some 14), none, .load (some 3) (.t 13)⟩,
       ⟨(some 7), none, .alloc none [(.int .i64 (0)), (.int .i64 (0)), (.str [])]⟩,
       ⟨(some 6), none, .mv (.t 12)⟩,
       ⟨none, none, .store 3 (.t 7) (.t 14)⟩])
     (.seq (.ops [⟨(some 15), none, .mv (.t 1)⟩,
       ⟨(some 16), none, .mv (.t 6)⟩,
       ⟨(some 17), none, .call (.t 15) [(.t 16)]⟩])
     (.cond (.t 17)
      (.ops [⟨(some 18), none, .mv (.t 2)⟩,
        ⟨(some 19), none, .load (some 3) (.t 7)⟩,
        ⟨(some 20), none, .call (.t 18) [(.t 19)]⟩])
      (.skip)))))
    (.ops [⟨(some 21), none, .bin .add (.t 10) (.c (.int .i64 (1)))⟩,
      ⟨(some 10), none, .mv (.t 21)⟩]))))))⟩
theorem a115_ok : funcC Tryz.prog Tryz.f115 = some a115 := by kernel_rfl
/-- (*permafrost/dev.Devs).put -/
def a116 : AFunc := ⟨2, [],
  .seq (.ops [⟨(some 3), none, .box (.t 1)⟩])
  (.draw [⟨⟨(some 4), none, .mv (.t 0)⟩, 0, []⟩,
    ⟨⟨(some 5), none, .fieldAddr 0 (.t 3)⟩, 1, []⟩,
    ⟨⟨(some 6), none, .fieldAddr 0 (.t 5)⟩, 2, [1]⟩,
    ⟨⟨(some 7), none, .load none (.t 6)⟩, 3, [1, 2]⟩,
    ⟨⟨(some 8), none, .nilck (.t 4)⟩, 4, [0]⟩,
    ⟨⟨(some 9), none, .fieldAddr 0 (.t 8)⟩, 5, [0, 4]⟩,
    ⟨⟨(some 10), none, .idxArr 2 1 (.t 9) (.t 7)⟩, 6, [0, 1, 2, 3, 4, 5]⟩,
    ⟨⟨(some 11), none, .load none (.t 10)⟩, 7, [0, 1, 2, 3, 4, 5, 6]⟩,
    ⟨⟨(some 12), none, .fieldAddr 0 (.t 3)⟩, 8, []⟩,
    ⟨⟨(some 13), none, .fieldAddr 1 (.t 12)⟩, 9, [8]⟩,
    ⟨⟨(some 14), none, .load none (.t 13)⟩, 10, [8, 9]⟩,
    ⟨⟨(some 15), none, .fieldAddr 2 (.t 3)⟩, 11, []⟩,
    ⟨⟨(some 16), none, .load none (.t 15)⟩, 12, [11]⟩,
    ⟨⟨(some 17), none, .idxSl 1 (.t 11) (.t 14)⟩, 13, [0, 1, 2, 3, 4, 5, 6, 7, 8, 9, 10, 11, 12]⟩,
    ⟨⟨none, none, .store 1 (.t 17) (.t 16)⟩, 14, [0, 1, 2, 3, 4, 5, 6, 7, 8, 9, 10, 11, 12, 13]⟩])⟩
theorem a116_ok : funcC Tryz.prog Tryz.f116 = some a116 := by kernel_rfl
/-- (*permafrost/fixed.Reader).Text -/
def a117 : AFunc := ⟨2, [.tmp 4],
  .seq (.ops [⟨(some 4), none, .mv (.c (.str []))⟩])
  (.seq (.ops [⟨(some 5), none, .mv (.t 0)⟩,
    ⟨(some 6), none, .mv (.t 0)⟩,
    ⟨(some 7), none, .mv (.t 1)⟩,
    ⟨(some 8), none, .call (.c (.func (.func 33) [] [])) [(.t 6), (.t 7)]⟩,
    ⟨(some 9), none, .call (.c (.func (.func 34) [] [])) [(.t 5), (.t 8)]⟩,
    ⟨(some 4), none, .mv (.t 9)⟩])
  (.ret))⟩
theorem a117_ok : funcC Tryz.prog Tryz.f117 = some a117 := by kernel_rfl
/-- permafrost/sum.right -/
def a118 : AFunc := ⟨2, [.tmp 4],
  .seq (.ops [⟨(some 4), none, .mv (.c (.int .u32 (0)))⟩])
  (.seq (.draw [⟨⟨(some 5), none, .mv (.t 0)⟩, 0, []⟩,
    ⟨⟨(some 6), none, .mv (.t 1)⟩, 1, []⟩,
    ⟨⟨(some 7), none, .bin .shr (.t 5) (.t 6)⟩, 2, [0, 1]⟩,
    ⟨⟨(some 8), none, .mv (.t 0)⟩, 3, []⟩,
    ⟨⟨(some 9), none, .mv (.t 1)⟩, 4, []⟩,
    ⟨⟨(some 10), none, .bin .sub (.c (.int .i64 (32))) (.t 9)⟩, 5, [4]⟩,
    ⟨⟨(some 11), none, .bin .shl (.t 8) (.t 10)⟩, 6, [3, 4, 5]⟩,
    ⟨⟨(some 12), none, .bin .or (.t 7) (.t 11)⟩, 7, [0, 1, 2, 3, 4, 5, 6]⟩,
    ⟨⟨(some 4), none, .mv (.t 12)⟩, 8, [0, 1, 2, 3, 4, 5, 6, 7]⟩])
  (.ret))⟩
theorem a118_ok : funcC Tryz.prog Tryz.f118 = some a118 := by kernel_rfl
/-- slices.Contains[[]string,string] -/
def a126 : AFunc := ⟨2, [.tmp 4],
  .seq (.ops [⟨(some 4), none, .mv (.c (.bool false))⟩])
  (.seq (.ops [⟨(some 5), none, .mv (.t 0)⟩,
    ⟨(some 6), none, .mv (.t 1)⟩,
    ⟨(some 7), none, .call (.c (.func (.func 111) [] [])) [(.t 5), (.t 6)]⟩,
    ⟨(some 8), none, .bin .geq (.t 7) (.c (.int .i64 (0)))⟩,
    ⟨(some 4), none, .mv (.t 8)⟩])
  (.ret))⟩
theorem a126_ok : funcC Tryz.prog Tryz.f126 = some a126 := by kernel_rfl
/-- slices.IndexFunc[[]*permafrost/arc.list,*permafrost/arc.list] -/
def a127 : AFunc := ⟨2, [.tmp 4],
  .seq (.ops [⟨(some 4), none, .mv (.c (.int .i64 (0)))⟩])
  (.seq (.seq (.ops [⟨(some 6), none, .mv (.t 0)⟩,
    ⟨(some 7), none, .lenSl (.t 6)⟩,
    ⟨(some 8), none, .mv (.c (.int .i64 (0)))⟩])
  (.block 0 (.loop (.seq (.ops [⟨(some 9), none, .bin .lss (.t 8) (.t 7)⟩])
    (.seq (.cond (.t 9)
     (.skip)
     (.exit 0))
    (.seq (.block 1 (.seq (.ops [⟨(some 10), none, .mv (.t 8)⟩,
       ⟨(some 5), none, .mv (.t 10)⟩])
     (.seq (.ops [⟨(some 11), none, .mv (.t 1)⟩,
       ⟨(some 12), none, .mv (.t 0)⟩,
       ⟨(some 13), none, .mv (.t 5)⟩,
       ⟨(some 14), none, .idxSl 1 (.t 12) (.t 13)⟩,
       ⟨(some 15), none, .load none (.t 14)⟩,
       ⟨(some 16), none, .call (.t 11) [(.t 15)]⟩])
     (.cond (.t 16)
      (.seq (.ops [⟨(some 17), none, .mv (.t 5)⟩,
        ⟨(some 4), none, .mv (.t 17)⟩])
      (.ret))
      (.skip)))))
    (.ops [⟨(some 18), none, .bin .add (.t 8) (.c (.int .i64 (1)))⟩,
      ⟨(some 8), none, .mv (.t 18)⟩])))))))
  (.seq (.ops [⟨(some 4), none, .mv (.c (.int .i64 (-1)))⟩])
  (.ret)))⟩
theorem a127_ok : funcC Tryz.prog Tryz.f127 = some a127 := by kernel_rfl
/-- permafrost/clog.Check$1 -/
def a128 : AFunc := ⟨1, [.tmp 2],
  .seq (.ops [⟨(some 1), none, .box (.t 0)⟩,
    ⟨(some 2), none, .mv (.c (.bool false))⟩])
  (.seq (.ops [⟨(some 3), none, .fieldAddr 0 (.t 1)⟩,
    ⟨(some 4), none, .load none (.t 3)⟩,
    ⟨(some 5), none, .bin .eql (.t 4) (.c (.str []))⟩,
    ⟨(some 6), none, .mv (.t 5)⟩,
    ⟨(some 7), (some (6, false)), .fieldAddr 0 (.t 1)⟩,
    ⟨(some 8), (some (6, false)), .load none (.t 7)⟩,
    ⟨(some 9), (some (6, false)), .lenStr (.t 8)⟩,
    ⟨(some 10), (some (6, false)), .bin .gtr (.t 9) (.c (.int .i64 (60)))⟩,
    ⟨(some 11), none, .pick (.t 6) (.c (.bool true)) (.t 10)⟩,
    ⟨(some 12), none, .mv (.t 11)⟩,
    ⟨(some 13), (some (12, false)), .fieldAddr 1 (.t 1)⟩,
    ⟨(some 14), (some (12, false)), .load none (.t 13)⟩,
    ⟨(some 15), (some (12, false)), .lenStr (.t 14)⟩,
    ⟨(some 16), (some (12, false)), .bin .neq (.t 15) (.c (.int .i64 (32)))⟩,
    ⟨(some 17), none, .pick (.t 12) (.c (.bool true)) (.t 16)⟩,
    ⟨(some 18), none, .mv (.t 17)⟩,
    ⟨(some 19), (some (18, false)), .fieldAddr 2 (.t 1)⟩,
    ⟨(some 20), (some (18, false)), .load none (.t 19)⟩,
    ⟨(some 21), (some (18, false)), .call (.c (.func (.func 129) [] [])) [(.t 20), (.c (.int .i64 (960)))]⟩,
    ⟨(some 22), (some (18, false)), .not (.t 21)⟩,
    ⟨(some 23), none, .pick (.t 18) (.c (.bool true)) (.t 22)⟩,
    ⟨(some 24), none, .mv (.t 23)⟩,
    ⟨(some 25), (some (24, false)), .fieldAddr 3 (.t 1)⟩,
    ⟨(some 26), (some (24, false)), .load none (.t 25)⟩,
    ⟨(some 27), (some (24, false)), .call (.c (.func (.func 129) [] [])) [(.t 26), (.c (.int .i64 (511)))]⟩,
    ⟨(some 28), (some (24, false)), .not (.t 27)⟩,
    ⟨(some 29), none, .pick (.t 24) (.c (.bool true)) (.t 28)⟩,
    ⟨(some 2), none, .mv (.t 29)⟩])
  (.ret))⟩
theorem a128_ok : funcC Tryz.prog Tryz.f128 = some a128 := by kernel_rfl
/-- permafrost/clog.in -/
def a129 : AFunc := ⟨2, [.tmp 4],
  .seq (.ops [⟨(some 4), none, .mv (.c (.bool false))⟩])
  (.seq (.ops [⟨(some 5), none, .mv (.t 0)⟩,
    ⟨(some 6), none, .bin .geq (.t 5) (.c (.int .i64 (0)))⟩,
    ⟨(some 7), none, .mv (.t 6)⟩,
    ⟨(some 8), (some (7, true)), .mv (.t 0)⟩,
    ⟨(some 9), (some (7, true)), .mv (.t 1)⟩,
    ⟨(some 10), (some (7, true)), .bin .leq (.t 8) (.t 9)⟩,
    ⟨(some 11), none, .pick (.t 7) (.t 10) (.c (.bool false))⟩,
    ⟨(some 4), none, .mv (.t 11)⟩])
  (.ret))⟩
theorem a129_ok : funcC Tryz.prog Tryz.f129 = some a129 := by kernel_rfl
/-- slices.ContainsFunc[[]permafrost/clog.Entry,permafrost/clog.Entry] -/
def a130 : AFunc := ⟨2, [.tmp 4],
  .seq (.ops [⟨(some 4), none, .mv (.c (.bool false))⟩])
  (.seq (.ops [⟨(some 5), none, .mv (.t 0)⟩,
    ⟨(some 6), none, .mv (.t 1)⟩,
    ⟨(some 7), none, .call (.c (.func (.func 146) [] [])) [(.t 5), (.t 6)]⟩,
    ⟨(some 8), none, .bin .geq (.t 7) (.c (.int .i64 (0)))⟩,
    ⟨(some 4), none, .mv (.t 8)⟩])
  (.ret))⟩
theorem a130_ok : funcC Tryz.prog Tryz.f130 = some a130 := by kernel_rfl
/-- slices.IndexFunc[[]permafrost/clog.Entry,permafrost/clog.Entry] -/
def a146 : AFunc := ⟨2, [.tmp 4],
  .seq (.ops [⟨(some 4), none, .mv (.c (.int .i64 (0)))⟩])
  (.seq (.seq (.ops [⟨(some 6), none, .mv (.t 0)⟩,
    ⟨(some 7), none, .lenSl (.t 6)⟩,
    ⟨(some 8), none, .mv (.c (.int .i64 (0)))⟩])
  (.block 0 (.loop (.seq (.ops [⟨(some 9), none, .bin .lss (.t 8) (.t 7)⟩])
    (.seq (.cond (.t 9)
     (.skip)
     (.exit 0))
    (.seq (.block 1 (.seq (.ops [⟨(some 10), none, .mv (.t 8)⟩,
       ⟨(some 5), none, .mv (.t 10)⟩])
     (.seq (.ops [⟨(some 11), none, .mv (.t 1)⟩,
       ⟨(some 12), none, .mv (.t 0)⟩,
       ⟨(some 13), none, .mv (.t 5)⟩,
       ⟨(some 14), none, .idxSl 4 (.t 12) (.t 13)⟩,
       ⟨(some 15), none, .load (some 4) (.t 14)⟩,
       ⟨(some 16), none, .call (.t 11) [(.t 15)]⟩])
     (.cond (.t 16)
      (.seq (.ops [⟨(some 17), none, .mv (.t 5)⟩,
        ⟨(some 4), none, .mv (.t 17)⟩])
      (.ret))
      (.skip)))))
    (.ops [⟨(some 18), none, .bin .add (.t 8) (.c (.int .i64 (1)))⟩,
      ⟨(some 8), none, .mv (.t 18)⟩])))))))
  (.seq (.ops [⟨(some 4), none, .mv (.c (.int .i64 (-1)))⟩])
  (.ret)))⟩
theorem a146_ok : funcC Tryz.prog Tryz.f146 = some a146 := by kernel_rfl
end Abs
end Go.Proofs.YtmgbcaboljilnaaGreatDoor
