/-
  Own work, printed by a program of ours (mkprog.py): the functions of this seat as code of the abstract run, and that each is the model's.
-/
import Derived.Test.YtglefgcnafoafaaGreatDoorXLaw
import Derived.Test.YtglefgcnafoafaaGreatDoorChecked
set_option maxRecDepth 100000
namespace Go.Proofs.YtglefgcnafoafaaGreatDoor.X
open Go

/-- cloisonne/room.Right -/
def x217 : XDecl := .code ⟨1, 
 (.seq (.ops [⟨(some 1), none, .box (.t 0)⟩,
   ⟨(some 2), none, .move (.c (.bool false))⟩] (some [1]))
 (.seq (.ops [⟨(some 3), none, .fieldAddr 0 (.t 1)⟩,
   ⟨(some 4), none, .load false 1 (.t 3)⟩,
   ⟨(some 5), none, .call (.c (.func (.func 175) #[] #[])) [(.t 4)]⟩,
   ⟨(some 6), none, .move (.t 5)⟩,
   ⟨(some 7), (some (6, true)), .fieldAddr 1 (.t 1)⟩,
   ⟨(some 8), (some (6, true)), .load false 1 (.t 7)⟩,
   ⟨(some 9), (some (6, true)), .call (.c (.func (.func 285) #[] #[])) [(.t 8), (.c (.int .i64 1)), (.c (.int .i64 16))]⟩,
   ⟨(some 10), none, .pick (.t 6) (.t 9) (.c (.bool false))⟩,
   ⟨(some 11), none, .move (.t 10)⟩,
   ⟨(some 12), (some (11, true)), .fieldAddr 2 (.t 1)⟩,
   ⟨(some 13), (some (11, true)), .load false 1 (.t 12)⟩,
   ⟨(some 14), (some (11, true)), .call (.c (.func (.func 285) #[] #[])) [(.t 13), (.c (.int .i64 0)), (.c (.int .i64 1048576))]⟩,
   ⟨(some 15), none, .pick (.t 11) (.t 14) (.c (.bool false))⟩,
   ⟨(some 16), none, .move (.t 15)⟩,
   ⟨(some 17), (some (16, true)), .fieldAddr 3 (.t 1)⟩,
   ⟨(some 18), (some (16, true)), .load false 1 (.t 17)⟩,
   ⟨(some 19), (some (16, true)), .call (.c (.func (.func 285) #[] #[])) [(.t 18), (.c (.int .i64 1)), (.c (.int .i64 1073741824))]⟩,
   ⟨(some 20), none, .pick (.t 16) (.t 19) (.c (.bool false))⟩,
   ⟨(some 2), none, .move (.t 20)⟩] (some [2]))
 .ret)), [.tmp 2]⟩

theorem is217 : FnIs Tryz.prog 217 x217 := ⟨Tryz.f217, _, Tryz.func217, by kernel_rfl, rfl, by kernel_rfl, by decide, by kernel_rfl⟩

/-- slices.ContainsFunc[[]cloisonne/api.Room,cloisonne/api.Room] -/
def x218 : XDecl := .code ⟨2, 
 (.seq (.ops [⟨(some 4), none, .move (.c (.bool false))⟩] (some [0, 1]))
 (.seq (.ops [⟨(some 5), none, .move (.t 0)⟩,
   ⟨(some 6), none, .move (.t 1)⟩,
   ⟨(some 7), none, .call (.c (.func (.func 286) #[] #[])) [(.t 5), (.t 6)]⟩,
   ⟨(some 8), none, .bin .geq 3 (.t 7) (.c (.int .i64 0))⟩,
   ⟨(some 4), none, .move (.t 8)⟩] (some [4]))
 .ret)), [.tmp 4]⟩

theorem is218 : FnIs Tryz.prog 218 x218 := ⟨Tryz.f218, _, Tryz.func218, by kernel_rfl, rfl, by kernel_rfl, by decide, by kernel_rfl⟩

/-- cloisonne/seglog.Open -/
def x219 : XDecl := .code ⟨2, 
 (.seq (.ops [⟨(some 4), none, .move (.c (.pointer none))⟩,
   ⟨(some 5), none, .move (.c (.slice none 0 0))⟩,
   ⟨(some 6), none, .move (.c (.int .i64 0))⟩] (some [0, 1]))
 (.seq (.block 0
  (.seq (.ops [⟨(some 14), none, .move (.t 0)⟩,
    ⟨(some 15), none, .isNil .ptr false (.t 14)⟩,
    ⟨(some 13), none, .move (.t 15)⟩] (some [0, 1, 13]))
  (.cond (.t 13)
   (.seq (.ops [⟨(some 4), none, .move (.c (.pointer none))⟩,
     ⟨(some 5), none, .move (.c (.slice none 0 0))⟩,
     ⟨(some 6), none, .move (.c (.int .i64 2))⟩] (some [4, 5, 6]))
   .ret)
   (.seq (.ops [⟨(some 17), none, .move (.t 0)⟩,
     ⟨(some 18), none, .call (.c (.func (.func 97) #[] #[])) [(.t 17)]⟩,
     ⟨(some 19), none, .un .not (.t 18)⟩,
     ⟨(some 16), none, .move (.t 19)⟩] (some [0, 1, 16]))
   (.cond (.t 16)
    (.seq (.ops [⟨(some 4), none, .move (.c (.pointer none))⟩,
      ⟨(some 5), none, .move (.c (.slice none 0 0))⟩,
      ⟨(some 6), none, .move (.c (.int .i64 6))⟩] (some [4, 5, 6]))
    .ret)
    (.seq (.ops [⟨(some 21), none, .move (.t 1)⟩,
      ⟨(some 22), none, .bin .lss 3 (.t 21) (.c (.int .i64 0))⟩,
      ⟨(some 23), none, .move (.t 22)⟩,
      ⟨(some 24), (some (23, false)), .move (.t 1)⟩,
      ⟨(some 25), (some (23, false)), .move (.t 0)⟩,
      ⟨(some 26), (some (23, false)), .call (.c (.func (.func 155) #[] #[])) [(.t 25)]⟩,
      ⟨(some 27), (some (23, false)), .bin .sub 3 (.t 26) (.c (.int .i64 1))⟩,
      ⟨(some 28), (some (23, false)), .bin .geq 3 (.t 24) (.t 27)⟩,
      ⟨(some 29), none, .pick (.t 23) (.c (.bool true)) (.t 28)⟩,
      ⟨(some 20), none, .move (.t 29)⟩] (some [0, 1, 20]))
    (.cond (.t 20)
     (.seq (.ops [⟨(some 4), none, .move (.c (.pointer none))⟩,
       ⟨(some 5), none, .move (.c (.slice none 0 0))⟩,
       ⟨(some 6), none, .move (.c (.int .i64 1))⟩] (some [4, 5, 6]))
     .ret)
     .skip)))))))
 (.seq (.ops [⟨(some 30), none, .move (.t 0)⟩,
   ⟨(some 31), none, .move (.t 1)⟩,
   ⟨(some 32), none, .move (.t 1)⟩,
   ⟨(some 33), none, .bin .add 3 (.t 32) (.c (.int .i64 1))⟩,
   ⟨(some 34), none, .build [(.pointer none), (.int .i64 0), (.int .i64 0), (.int .i64 0), (.int .i64 0), (.int .i64 0), (.pointer none)] [(0, 1), (1, 1), (2, 1), (3, 1), (4, 1), (5, 1), (6, 1)] [(0, (.t 30)), (1, (.t 31)), (2, (.t 33))]⟩,
   ⟨(some 35), none, .box (.t 34)⟩,
   ⟨(some 7), none, .move (.t 35)⟩] (some [0, 1, 7]))
 (.seq (.ops [⟨(some 8), none, .move (.c (.slice none 0 0))⟩] (some [0, 1, 7, 8]))
 (.seq (.seq (.ops [⟨(some 36), none, .move (.t 1)⟩,
   ⟨(some 9), none, .move (.t 36)⟩] (some [0, 1, 7, 8, 9]))
 (.block 1
  (.loop
   (.seq (.seq (.ops [⟨(some 37), none, .move (.t 9)⟩,
     ⟨(some 38), none, .move (.t 1)⟩,
     ⟨(some 39), none, .bin .add 3 (.t 38) (.c (.int .i64 1))⟩,
     ⟨(some 40), none, .bin .leq 3 (.t 37) (.t 39)⟩] (some [0, 1, 7, 8, 9, 40]))
   (.cond (.t 40)
    .skip
    (.exit 1)))
   (.seq (.block 2
    (.seq (.ops [⟨(some 43), none, .move (.t 0)⟩,
      ⟨(some 44), none, .move (.t 9)⟩,
      ⟨(some 45), none, .call (.c (.func (.func 287) #[] #[])) [(.t 43), (.t 44)]⟩,
      ⟨(some 10), none, .alloc [(.slice none 0 0), (.slice none 0 0), (.slice none 0 0), (.int .i64 0)]⟩,
      ⟨none, none, .store 4 (.t 10) (.t 45)⟩] (some [0, 1, 7, 8, 9, 10]))
    (.seq (.opsd [(0, 0, ⟨(some 46), none, .move (.t 7)⟩),
      (1, 0, ⟨(some 47), none, .move (.t 7)⟩),
      (2, 2, ⟨(some 48), none, .nilCheck (.t 47)⟩),
      (3, 6, ⟨(some 49), none, .fieldAddr 5 (.t 48)⟩),
      (4, 14, ⟨(some 50), none, .load false 1 (.t 49)⟩),
      (5, 0, ⟨(some 51), none, .fieldAddr 3 (.t 10)⟩),
      (6, 32, ⟨(some 52), none, .load false 1 (.t 51)⟩),
      (7, 126, ⟨(some 53), none, .calcB .max [3, 3] 3 [(.t 50), (.t 52)]⟩),
      (8, 255, ⟨(some 54), none, .nilCheck (.t 46)⟩),
      (9, 511, ⟨(some 55), none, .fieldAddr 5 (.t 54)⟩),
      (10, 1023, ⟨none, none, .store 1 (.t 55) (.t 53)⟩)] (some [0, 1, 7, 8, 9, 10]))
    (.seq (.seq (.opsr [⟨(some 56), none, .fieldAddr 2 (.t 10)⟩,
      ⟨(some 57), none, .load false 1 (.t 56)⟩,
      ⟨(some 58), none, .indexAddr 1 (.t 57) (.c (.int .i64 0))⟩,
      ⟨(some 59), none, .load false 1 (.t 58)⟩,
      ⟨(some 60), none, .un .not (.t 59)⟩,
      ⟨(some 61), none, .move (.t 60)⟩,
      ⟨(some 62), (some (61, false)), .fieldAddr 0 (.t 10)⟩,
      ⟨(some 63), (some (61, false)), .load false 1 (.t 62)⟩,
      ⟨(some 64), (some (61, false)), .indexAddr 5 (.t 63) (.c (.int .i64 0))⟩,
      ⟨(some 65), (some (61, false)), .fieldAddr 0 (.t 64)⟩,
      ⟨(some 66), (some (61, false)), .load false 1 (.t 65)⟩,
      ⟨(some 67), (some (61, false)), .move (.t 7)⟩,
      ⟨(some 68), (some (61, false)), .nilCheck (.t 67)⟩,
      ⟨(some 69), (some (61, false)), .fieldAddr 3 (.t 68)⟩,
      ⟨(some 70), (some (61, false)), .load false 1 (.t 69)⟩,
      ⟨(some 71), (some (61, false)), .bin .leq 3 (.t 66) (.t 70)⟩,
      ⟨(some 72), none, .pick (.t 61) (.c (.bool true)) (.t 71)⟩] (some [0, 1, 7, 8, 9, 10, 72]))
    (.cond (.t 72)
     (.exit 2)
     .skip))
    (.seq (.ops [⟨(some 74), none, .load true 4 (.t 10)⟩,
      ⟨(some 75), none, .call (.c (.func (.func 288) #[] #[])) [(.t 74)]⟩,
      ⟨(some 73), none, .move (.t 75)⟩,
      ⟨(some 76), none, .extract (.t 73) 0⟩,
      ⟨(some 77), none, .extract (.t 73) 1⟩,
      ⟨(some 11), none, .move (.t 76)⟩,
      ⟨(some 12), none, .move (.t 77)⟩] (some [0, 1, 7, 8, 9, 10, 11, 12]))
    (.seq (.ops [⟨(some 78), none, .move (.t 12)⟩,
      ⟨(some 79), none, .bin .gtr 3 (.t 78) (.c (.int .i64 0))⟩] (some [0, 1, 7, 8, 9, 10, 11, 12, 79]))
    (.cond (.t 79)
     (.ops [⟨(some 80), none, .move (.t 7)⟩,
       ⟨(some 81), none, .move (.t 7)⟩,
       ⟨(some 82), none, .move (.t 7)⟩,
       ⟨(some 83), none, .move (.t 9)⟩,
       ⟨(some 84), none, .fieldAddr 0 (.t 10)⟩,
       ⟨(some 85), none, .load false 1 (.t 84)⟩,
       ⟨(some 86), none, .indexAddr 5 (.t 85) (.c (.int .i64 0))⟩,
       ⟨(some 87), none, .fieldAddr 0 (.t 86)⟩,
       ⟨(some 88), none, .load false 1 (.t 87)⟩,
       ⟨(some 89), none, .move (.t 12)⟩,
       ⟨(some 90), none, .move (.t 11)⟩,
       ⟨(some 91), none, .nilCheck (.t 80)⟩,
       ⟨(some 92), none, .fieldAddr 2 (.t 91)⟩,
       ⟨none, none, .store 1 (.t 92) (.t 83)⟩,
       ⟨(some 93), none, .nilCheck (.t 81)⟩,
       ⟨(some 94), none, .fieldAddr 3 (.t 93)⟩,
       ⟨none, none, .store 1 (.t 94) (.t 88)⟩,
       ⟨(some 95), none, .nilCheck (.t 82)⟩,
       ⟨(some 96), none, .fieldAddr 4 (.t 95)⟩,
       ⟨none, none, .store 1 (.t 96) (.t 89)⟩,
       ⟨(some 8), none, .move (.t 90)⟩] (some [0, 1, 7, 8, 9]))
     .skip)))))))
   (.ops [⟨(some 41), none, .move (.t 9)⟩,
     ⟨(some 42), none, .bin .add 3 (.t 41) (.c (.int .i64 1))⟩,
     ⟨(some 9), none, .move (.t 42)⟩] (some [0, 1, 7, 8, 9])))))))
 (.seq (.ops [⟨(some 97), none, .move (.t 7)⟩,
   ⟨(some 98), none, .nilCheck (.t 97)⟩,
   ⟨(some 99), none, .fieldAddr 5 (.t 98)⟩,
   ⟨(some 100), none, .load false 1 (.t 99)⟩,
   ⟨(some 101), none, .bin .add 3 (.t 100) (.c (.int .i64 1))⟩,
   ⟨(some 102), none, .nilCheck (.t 97)⟩,
   ⟨(some 103), none, .fieldAddr 5 (.t 102)⟩,
   ⟨none, none, .store 1 (.t 103) (.t 101)⟩] (some [7, 8]))
 (.seq (.ops [⟨(some 104), none, .move (.t 7)⟩,
   ⟨(some 105), none, .move (.t 8)⟩,
   ⟨(some 4), none, .move (.t 104)⟩,
   ⟨(some 5), none, .move (.t 105)⟩,
   ⟨(some 6), none, .move (.c (.int .i64 0))⟩] (some [4, 5, 6]))
 .ret))))))), [.tmp 4, .tmp 5, .tmp 6]⟩

theorem is219 : FnIs Tryz.prog 219 x219 := ⟨Tryz.f219, _, Tryz.func219, by kernel_rfl, rfl, by kernel_rfl, by decide, by kernel_rfl⟩

/-- (*cloisonne/seglog.Log).Gen -/
def x220 : XDecl := .code ⟨1, 
 (.seq (.ops [⟨(some 2), none, .move (.c (.int .i64 0))⟩] (some [0]))
 (.seq (.seq (.ops [⟨(some 3), none, .move (.t 0)⟩,
   ⟨(some 4), none, .isNil .ptr false (.t 3)⟩] (some [0, 4]))
 (.cond (.t 4)
  (.seq (.ops [⟨(some 2), none, .move (.c (.int .i64 0))⟩] (some [2]))
  .ret)
  .skip))
 (.seq (.ops [⟨(some 5), none, .move (.t 0)⟩,
   ⟨(some 6), none, .nilCheck (.t 5)⟩,
   ⟨(some 7), none, .fieldAddr 3 (.t 6)⟩,
   ⟨(some 8), none, .load false 1 (.t 7)⟩,
   ⟨(some 2), none, .move (.t 8)⟩] (some [2]))
 .ret))), [.tmp 2]⟩

theorem is220 : FnIs Tryz.prog 220 x220 := ⟨Tryz.f220, _, Tryz.func220, by kernel_rfl, rfl, by kernel_rfl, by decide, by kernel_rfl⟩

/-- cloisonne/caps.New -/
def x221 : XDecl := .code ⟨1, 
 (.seq (.ops [⟨(some 2), none, .move (.c (.pointer none))⟩,
   ⟨(some 3), none, .move (.c (.int .i64 0))⟩] (some [0]))
 (.seq (.seq (.ops [⟨(some 4), none, .move (.t 0)⟩,
   ⟨(some 5), none, .bin .lss 3 (.t 4) (.c (.int .i64 1))⟩,
   ⟨(some 6), none, .move (.t 5)⟩,
   ⟨(some 7), (some (6, false)), .move (.t 0)⟩,
   ⟨(some 8), (some (6, false)), .bin .gtr 3 (.t 7) (.c (.int .i64 8))⟩,
   ⟨(some 9), none, .pick (.t 6) (.c (.bool true)) (.t 8)⟩] (some [0, 9]))
 (.cond (.t 9)
  (.seq (.ops [⟨(some 2), none, .move (.c (.pointer none))⟩,
    ⟨(some 3), none, .move (.c (.int .i64 1))⟩] (some [2, 3]))
  .ret)
  .skip))
 (.seq (.ops [⟨(some 10), none, .move (.t 0)⟩,
   ⟨(some 11), none, .makeSlice [(.int .u64 0), (.int .u64 0)] 16 (.t 10) (.t 10)⟩,
   ⟨(some 12), none, .build [(.int .i64 0), (.slice none 0 0)] [(0, 1), (1, 1)] [(1, (.t 11))]⟩,
   ⟨(some 13), none, .box (.t 12)⟩,
   ⟨(some 2), none, .move (.t 13)⟩,
   ⟨(some 3), none, .move (.c (.int .i64 0))⟩] (some [2, 3]))
 .ret))), [.tmp 2, .tmp 3]⟩

theorem is221 : FnIs Tryz.prog 221 x221 := ⟨Tryz.f221, _, Tryz.func221, by kernel_rfl, rfl, by kernel_rfl, by decide, by kernel_rfl⟩

/-- cloisonne/record.Rights -/
def x222 : XDecl := .code ⟨1, 
 (.seq (.ops [⟨(some 2), none, .move (.c (.string .empty))⟩,
   ⟨(some 3), none, .alloc [(.int .i64 0)]⟩] (some [0, 3]))
 (.seq (.seq (.ops [⟨(some 8), none, .move (.t 0)⟩,
   ⟨(some 9), none, .isNil .ptr false (.t 8)⟩] (some [0, 3, 9]))
 (.cond (.t 9)
  (.seq (.ops [⟨(some 2), none, .move (.c (.string .empty))⟩,
    ⟨none, none, .store 1 (.t 3) (.c (.int .i64 2))⟩] (some [2, 3]))
  .ret)
  .skip))
 (.seq (.ops [⟨none, none, .dfr [(.t 3), (.c (.int .i64 1))]⟩] (some [0, 3]))
 (.seq (.ops [⟨(some 10), none, .call (.c (.func (.func 291) #[] #[])) [(.c (.int .i64 5))]⟩,
   ⟨(some 11), none, .move (.t 0)⟩,
   ⟨(some 12), none, .call (.c (.func (.func 292) #[] #[])) [(.t 11)]⟩,
   ⟨(some 13), none, .call (.c (.func (.func 291) #[] #[])) [(.t 12)]⟩,
   ⟨(some 14), none, .buildSlice [(.int .u64 0), (.string .empty), (.slice none 0 0), (.slice none 0 0)] 4 2 [(0, (.t 10)), (1, (.t 13))]⟩,
   ⟨(some 15), none, .call (.c (.func (.func 290) #[] #[])) [(.c (.string ⟨#[98, 110]⟩)), (.t 14)]⟩,
   ⟨(some 4), none, .move (.t 15)⟩] (some [0, 3, 4]))
 (.seq (.ops [⟨(some 17), none, .move (.t 0)⟩,
   ⟨(some 18), none, .call (.c (.func (.func 293) #[] #[])) [(.t 17)]⟩,
   ⟨(some 16), none, .move (.t 18)⟩,
   ⟨(some 19), none, .extract (.t 16) 0⟩,
   ⟨(some 20), none, .extract (.t 16) 1⟩,
   ⟨(some 5), none, .move (.t 19)⟩,
   ⟨(some 6), none, .move (.t 20)⟩] (some [3, 4, 5, 6]))
 (.seq (.seq (.ops [⟨(some 21), none, .move (.t 5)⟩,
   ⟨(some 22), none, .len (.t 21)⟩,
   ⟨(some 23), none, .move (.c (.int .i64 0))⟩] (some [3, 4, 5, 6, 22, 23]))
 (.block 0
  (.loop
   (.seq (.ops [⟨(some 24), none, .bin .lss 3 (.t 23) (.t 22)⟩] (some [3, 4, 5, 6, 22, 23, 24]))
   (.seq (.cond (.t 24)
    .skip
    (.exit 0))
   (.seq (.block 1
    (.seq (.ops [⟨(some 25), none, .move (.t 23)⟩,
      ⟨(some 7), none, .move (.t 25)⟩] (some [3, 4, 5, 6, 7, 22, 23]))
    (.opsd [(0, 0, ⟨(some 26), none, .move (.t 4)⟩),
      (1, 0, ⟨(some 27), none, .move (.t 5)⟩),
      (2, 0, ⟨(some 28), none, .move (.t 7)⟩),
      (3, 6, ⟨(some 29), none, .indexAddr 1 (.t 27) (.t 28)⟩),
      (4, 14, ⟨(some 30), none, .load false 1 (.t 29)⟩),
      (5, 30, ⟨(some 31), none, .build [(.int .u64 0), (.string .empty), (.slice none 0 0), (.slice none 0 0)] [(0, 1), (1, 1), (2, 1), (3, 1)] [(0, (.t 30))]⟩),
      (6, 0, ⟨(some 32), none, .move (.t 6)⟩),
      (7, 0, ⟨(some 33), none, .move (.t 7)⟩),
      (8, 192, ⟨(some 34), none, .indexAddr 1 (.t 32) (.t 33)⟩),
      (9, 448, ⟨(some 35), none, .load false 1 (.t 34)⟩),
      (10, 960, ⟨(some 36), none, .build [(.int .u64 0), (.string .empty), (.slice none 0 0), (.slice none 0 0)] [(0, 1), (1, 1), (2, 1), (3, 1)] [(0, (.t 35))]⟩),
      (11, 2046, ⟨(some 37), none, .buildSlice [(.int .u64 0), (.string .empty), (.slice none 0 0), (.slice none 0 0)] 4 2 [(0, (.t 31)), (1, (.t 36))]⟩),
      (12, 4094, ⟨(some 38), none, .call (.c (.func (.func 290) #[] #[])) [(.c (.string ⟨#[110, 110]⟩)), (.t 37)]⟩),
      (13, 8191, ⟨(some 39), none, .bin .add 9 (.t 26) (.t 38)⟩),
      (14, 16383, ⟨(some 4), none, .move (.t 39)⟩)] (some [3, 4, 5, 6, 22, 23]))))
   (.ops [⟨(some 40), none, .bin .add 3 (.t 23) (.c (.int .i64 1))⟩,
     ⟨(some 23), none, .move (.t 40)⟩] (some [3, 4, 5, 6, 22, 23]))))))))
 (.seq (.ops [⟨(some 41), none, .move (.t 4)⟩,
   ⟨(some 2), none, .move (.t 41)⟩,
   ⟨none, none, .store 1 (.t 3) (.c (.int .i64 0))⟩] (some [2, 3]))
 .ret))))))), [.tmp 2, .cell false 1 3]⟩

theorem is222 : FnIs Tryz.prog 222 x222 := ⟨Tryz.f222, _, Tryz.func222, by kernel_rfl, rfl, by kernel_rfl, by decide, by kernel_rfl⟩

/-- cloisonne/vault.found -/
def x223 : XDecl := .code ⟨2, 
 (.seq (.ops [⟨(some 4), none, .move (.c (.int .i64 0))⟩] (some [0, 1]))
 (.seq (.ops [⟨(some 9), none, .move (.t 0)⟩,
   ⟨(some 10), none, .move (.t 1)⟩,
   ⟨(some 11), none, .call (.c (.func (.func 294) #[] #[])) [(.t 9), (.t 10)]⟩,
   ⟨(some 8), none, .move (.t 11)⟩,
   ⟨(some 12), none, .extract (.t 8) 0⟩,
   ⟨(some 13), none, .extract (.t 8) 1⟩,
   ⟨(some 5), none, .move (.t 12)⟩,
   ⟨(some 6), none, .move (.t 13)⟩] (some [5, 6]))
 (.seq (.seq (.ops [⟨(some 7), none, .move (.c (.int .i64 1))⟩] (some [5, 6, 7]))
 (.block 0
  (.loop
   (.seq (.seq (.ops [⟨(some 14), none, .move (.t 6)⟩,
     ⟨(some 15), none, .bin .eql 32 (.t 14) (.c (.int .i64 0))⟩,
     ⟨(some 16), none, .move (.t 15)⟩,
     ⟨(some 17), (some (16, true)), .move (.t 7)⟩,
     ⟨(some 18), (some (16, true)), .bin .eql 3 (.t 17) (.c (.int .i64 1))⟩,
     ⟨(some 19), none, .pick (.t 16) (.t 18) (.c (.bool false))⟩] (some [5, 6, 19]))
   (.cond (.t 19)
    .skip
    (.exit 0)))
   (.block 1
    (.ops [⟨(some 21), none, .move (.t 5)⟩,
      ⟨(some 22), none, .call (.c (.func (.func 213) #[] #[])) [(.t 21)]⟩,
      ⟨(some 20), none, .move (.t 22)⟩,
      ⟨(some 23), none, .extract (.t 20) 0⟩,
      ⟨(some 24), none, .extract (.t 20) 1⟩,
      ⟨(some 7), none, .move (.t 23)⟩,
      ⟨(some 6), none, .move (.t 24)⟩] (some [5, 6, 7])))))))
 (.seq (.seq (.ops [⟨(some 25), none, .move (.t 6)⟩,
   ⟨(some 26), none, .bin .neq 32 (.t 25) (.c (.int .i64 0))⟩] (some [26]))
 (.cond (.t 26)
  (.seq (.ops [⟨(some 4), none, .move (.c (.int .i64 19))⟩] (some [4]))
  .ret)
  .skip))
 (.seq (.ops [⟨(some 4), none, .move (.c (.int .i64 0))⟩] (some [4]))
 .ret))))), [.tmp 4]⟩

theorem is223 : FnIs Tryz.prog 223 x223 := ⟨Tryz.f223, _, Tryz.func223, by kernel_rfl, rfl, by kernel_rfl, by decide, by kernel_rfl⟩

/-- cloisonne/room.New -/
def x225 : XDecl := .code ⟨1, 
 (.seq (.ops [⟨(some 1), none, .box (.t 0)⟩,
   ⟨(some 2), none, .move (.c (.pointer none))⟩,
   ⟨(some 3), none, .move (.c (.int .i64 0))⟩] (some [1]))
 (.seq (.ops [⟨(some 4), none, .load true 4 (.t 1)⟩,
   ⟨(some 5), none, .call (.c (.func (.func 299) #[] #[])) [(.t 4), (.c (.int .i64 0))]⟩,
   ⟨(some 6), none, .extract (.t 5) 0⟩,
   ⟨(some 7), none, .extract (.t 5) 1⟩,
   ⟨(some 2), none, .move (.t 6)⟩,
   ⟨(some 3), none, .move (.t 7)⟩] (some [2, 3]))
 .ret)), [.tmp 2, .tmp 3]⟩

theorem is225 : FnIs Tryz.prog 225 x225 := ⟨Tryz.f225, _, Tryz.func225, by kernel_rfl, rfl, by kernel_rfl, by decide, by kernel_rfl⟩

/-- cloisonne/record.Base -/
def x226 : XDecl := .code ⟨2, 
 (.seq (.ops [⟨(some 4), none, .move (.c (.string .empty))⟩,
   ⟨(some 5), none, .alloc [(.int .i64 0)]⟩] (some [0, 1, 5]))
 (.seq (.ops [⟨none, none, .dfr [(.t 5), (.c (.int .i64 1))]⟩] (some [0, 1, 5]))
 (.seq (.ops [⟨(some 9), none, .move (.t 0)⟩,
   ⟨(some 10), none, .move (.t 1)⟩,
   ⟨(some 11), none, .call (.c (.func (.func 301) #[] #[])) [(.t 9), (.t 10)]⟩,
   ⟨(some 12), none, .call (.c (.func (.func 300) #[] #[])) [(.t 11)]⟩] (some [0, 1, 5]))
 (.seq (.ops [⟨(some 13), none, .call (.c (.func (.func 291) #[] #[])) [(.c (.int .i64 2))]⟩,
   ⟨(some 14), none, .move (.t 0)⟩,
   ⟨(some 15), none, .call (.c (.func (.func 291) #[] #[])) [(.t 14)]⟩,
   ⟨(some 16), none, .buildSlice [(.int .u64 0), (.string .empty), (.slice none 0 0), (.slice none 0 0)] 4 2 [(0, (.t 13)), (1, (.t 15))]⟩,
   ⟨(some 17), none, .call (.c (.func (.func 290) #[] #[])) [(.c (.string ⟨#[98, 110]⟩)), (.t 16)]⟩,
   ⟨(some 6), none, .move (.t 17)⟩] (some [1, 5, 6]))
 (.seq (.seq (.ops [⟨(some 18), none, .move (.t 1)⟩,
   ⟨(some 19), none, .len (.t 18)⟩,
   ⟨(some 20), none, .move (.c (.int .i64 0))⟩] (some [5, 6, 18, 19, 20]))
 (.block 0
  (.loop
   (.seq (.ops [⟨(some 21), none, .bin .lss 3 (.t 20) (.t 19)⟩] (some [5, 6, 18, 19, 20, 21]))
   (.seq (.cond (.t 21)
    .skip
    (.exit 0))
   (.seq (.block 1
    (.seq (.ops [⟨(some 22), none, .indexAddr 5 (.t 18) (.t 20)⟩,
      ⟨(some 23), none, .load true 5 (.t 22)⟩,
      ⟨(some 8), none, .alloc [(.string .empty), (.int .i64 0), (.bool false), (.string .empty), (.int .u64 0)]⟩,
      ⟨none, none, .store 5 (.t 8) (.t 23)⟩] (some [5, 6, 8, 18, 19, 20]))
    (.opsd [(0, 0, ⟨(some 24), none, .move (.t 6)⟩),
      (1, 0, ⟨(some 25), none, .fieldAddr 1 (.t 8)⟩),
      (2, 2, ⟨(some 26), none, .load false 1 (.t 25)⟩),
      (4, 0, ⟨(some 28), none, .fieldAddr 0 (.t 8)⟩),
      (5, 16, ⟨(some 29), none, .load false 1 (.t 28)⟩),
      (6, 48, ⟨(some 30), none, .build [(.int .u64 0), (.string .empty), (.slice none 0 0), (.slice none 0 0)] [(0, 1), (1, 1), (2, 1), (3, 1)] [(1, (.t 29))]⟩),
      (7, 0, ⟨(some 31), none, .fieldAddr 2 (.t 8)⟩),
      (8, 128, ⟨(some 32), none, .load true 3 (.t 31)⟩),
      (3, 6, ⟨(some 27), none, .call (.c (.func (.func 291) #[] #[])) [(.t 26)]⟩),
      (9, 398, ⟨(some 33), none, .call (.c (.func (.func 302) #[] #[])) [(.t 32), (.c (.bool false))]⟩),
      (10, 910, ⟨(some 34), none, .build [(.int .u64 0), (.string .empty), (.slice none 0 0), (.slice none 0 0)] [(0, 1), (1, 1), (2, 1), (3, 1)] [(1, (.t 33))]⟩),
      (11, 2046, ⟨(some 35), none, .buildSlice [(.int .u64 0), (.string .empty), (.slice none 0 0), (.slice none 0 0)] 4 3 [(0, (.t 27)), (1, (.t 30)), (2, (.t 34))]⟩),
      (12, 4094, ⟨(some 36), none, .call (.c (.func (.func 290) #[] #[])) [(.c (.string ⟨#[110, 116, 116]⟩)), (.t 35)]⟩),
      (13, 8191, ⟨(some 37), none, .bin .add 9 (.t 24) (.t 36)⟩),
      (14, 16383, ⟨(some 6), none, .move (.t 37)⟩)] (some [5, 6, 18, 19, 20]))))
   (.ops [⟨(some 38), none, .bin .add 3 (.t 20) (.c (.int .i64 1))⟩,
     ⟨(some 20), none, .move (.t 38)⟩] (some [5, 6, 18, 19, 20]))))))))
 (.seq (.ops [⟨(some 39), none, .move (.t 6)⟩,
   ⟨(some 4), none, .move (.t 39)⟩,
   ⟨none, none, .store 1 (.t 5) (.c (.int .i64 0))⟩] (some [4, 5]))
 .ret)))))), [.tmp 4, .cell false 1 5]⟩

theorem is226 : FnIs Tryz.prog 226 x226 := ⟨Tryz.f226, _, Tryz.func226, by kernel_rfl, rfl, by kernel_rfl, by decide, by kernel_rfl⟩

/-- (*cloisonne/room.Room).Setting -/
def x230 : XDecl := .code ⟨1, 
 (.seq (.ops [⟨(some 2), none, .alloc [(.slice none 0 0), (.int .i64 0), (.int .i64 0), (.int .i64 0)]⟩] (some [0, 2]))
 (.seq (.seq (.ops [⟨(some 4), none, .move (.t 0)⟩,
   ⟨(some 5), none, .isNil .ptr false (.t 4)⟩] (some [0, 2, 5]))
 (.cond (.t 5)
  (.seq (.ops [⟨(some 6), none, .build [(.slice none 0 0), (.int .i64 0), (.int .i64 0), (.int .i64 0)] [(0, 1), (1, 1), (2, 1), (3, 1)] []⟩,
    ⟨none, none, .store 4 (.t 2) (.t 6)⟩] (some [2]))
  .ret)
  .skip))
 (.seq (.ops [⟨(some 7), none, .move (.t 0)⟩,
   ⟨(some 8), none, .nilCheck (.t 7)⟩,
   ⟨(some 9), none, .fieldAddr 0 (.t 8)⟩,
   ⟨(some 10), none, .load true 4 (.t 9)⟩,
   ⟨(some 3), none, .alloc [(.slice none 0 0), (.int .i64 0), (.int .i64 0), (.int .i64 0)]⟩,
   ⟨none, none, .store 4 (.t 3) (.t 10)⟩] (some [2, 3]))
 (.seq (.ops [⟨(some 11), none, .fieldAddr 0 (.t 3)⟩,
   ⟨(some 12), none, .load false 1 (.t 11)⟩,
   ⟨(some 13), none, .call (.c (.func (.func 136) #[] #[])) [(.t 12)]⟩,
   ⟨(some 14), none, .fieldAddr 0 (.t 3)⟩,
   ⟨none, none, .store 1 (.t 14) (.t 13)⟩] (some [2, 3]))
 (.seq (.ops [⟨(some 15), none, .load true 4 (.t 3)⟩,
   ⟨none, none, .store 4 (.t 2) (.t 15)⟩] (some [2]))
 .ret))))), [.cell true 4 2]⟩

theorem is230 : FnIs Tryz.prog 230 x230 := ⟨Tryz.f230, _, Tryz.func230, by kernel_rfl, rfl, by kernel_rfl, by decide, by kernel_rfl⟩

/-- cloisonne/wire.letter -/
def x239 : XDecl := .code ⟨1, 
 (.seq (.ops [⟨(some 2), none, .move (.c (.bool false))⟩] (some [0]))
 (.seq (.ops [⟨(some 3), none, .move (.t 0)⟩,
   ⟨(some 4), none, .call (.c (.func (.func 324) #[] #[])) [(.c (.string ⟨#[98, 110, 116, 102, 108]⟩)), (.t 3)]⟩,
   ⟨(some 5), none, .bin .geq 3 (.t 4) (.c (.int .i64 0))⟩,
   ⟨(some 2), none, .move (.t 5)⟩] (some [2]))
 .ret)), [.tmp 2]⟩

theorem is239 : FnIs Tryz.prog 239 x239 := ⟨Tryz.f239, _, Tryz.func239, by kernel_rfl, rfl, by kernel_rfl, by decide, by kernel_rfl⟩

/-- cloisonne/wire.empty -/
def x240 : XDecl := .code ⟨4, 
 (.seq (.ops [⟨(some 4), none, .box (.t 0)⟩,
   ⟨(some 8), none, .move (.c (.bool false))⟩] (some [1, 2, 3, 4]))
 (.seq (.ops [⟨(some 9), none, .move (.t 1)⟩,
   ⟨(some 10), none, .move (.t 9)⟩,
   ⟨(some 11), (some (10, false)), .fieldAddr 0 (.t 4)⟩,
   ⟨(some 12), (some (10, false)), .load false 1 (.t 11)⟩,
   ⟨(some 13), (some (10, false)), .bin .eql 77 (.t 12) (.c (.int .u64 0))⟩,
   ⟨(some 14), none, .pick (.t 10) (.c (.bool true)) (.t 13)⟩,
   ⟨(some 15), none, .move (.t 14)⟩,
   ⟨(some 16), (some (15, true)), .move (.t 2)⟩,
   ⟨(some 17), (some (15, true)), .move (.t 16)⟩,
   ⟨(some 18), (some (17, false)), .fieldAddr 1 (.t 4)⟩,
   ⟨(some 19), (some (17, false)), .load false 1 (.t 18)⟩,
   ⟨(some 20), (some (17, false)), .bin .eql 9 (.t 19) (.c (.string .empty))⟩,
   ⟨(some 21), (some (15, true)), .pick (.t 17) (.c (.bool true)) (.t 20)⟩,
   ⟨(some 22), none, .pick (.t 15) (.t 21) (.c (.bool false))⟩,
   ⟨(some 23), none, .move (.t 22)⟩,
   ⟨(some 24), (some (23, true)), .move (.t 3)⟩,
   ⟨(some 25), (some (23, true)), .move (.t 24)⟩,
   ⟨(some 26), (some (25, false)), .fieldAddr 2 (.t 4)⟩,
   ⟨(some 27), (some (25, false)), .load false 1 (.t 26)⟩,
   ⟨(some 28), (some (25, false)), .len (.t 27)⟩,
   ⟨(some 29), (some (25, false)), .bin .eql 3 (.t 28) (.c (.int .i64 0))⟩,
   ⟨(some 30), (some (23, true)), .pick (.t 25) (.c (.bool true)) (.t 29)⟩,
   ⟨(some 31), none, .pick (.t 23) (.t 30) (.c (.bool false))⟩,
   ⟨(some 8), none, .move (.t 31)⟩] (some [8]))
 .ret)), [.tmp 8]⟩

theorem is240 : FnIs Tryz.prog 240 x240 := ⟨Tryz.f240, _, Tryz.func240, by kernel_rfl, rfl, by kernel_rfl, by decide, by kernel_rfl⟩

/-- (*cloisonne/wire.printer).number -/
def x241 : XDecl := .code ⟨2, 
 (.seq (.block 0
  (.loop
   (.seq (.seq (.ops [⟨(some 4), none, .move (.t 1)⟩,
     ⟨(some 5), none, .bin .geq 77 (.t 4) (.c (.int .u64 128))⟩] (some [0, 1, 5]))
   (.cond (.t 5)
    .skip
    (.exit 0)))
   (.block 1
    (.seq (.ops [⟨(some 6), none, .move (.t 0)⟩,
      ⟨(some 7), none, .move (.t 0)⟩,
      ⟨(some 8), none, .nilCheck (.t 7)⟩,
      ⟨(some 9), none, .fieldAddr 0 (.t 8)⟩,
      ⟨(some 10), none, .load false 1 (.t 9)⟩,
      ⟨(some 11), none, .move (.t 1)⟩,
      ⟨(some 12), none, .bin .rem 77 (.t 11) (.c (.int .u64 128))⟩,
      ⟨(some 13), none, .conv 77 5 (.t 12)⟩,
      ⟨(some 14), none, .bin .or 5 (.t 13) (.c (.int .u8 128))⟩,
      ⟨(some 15), none, .buildSlice [(.int .u8 0)] 1 1 [(0, (.t 14))]⟩,
      ⟨(some 16), none, .append 1 1 [(.int .u8 0)] (.t 10) (.t 15)⟩,
      ⟨(some 17), none, .nilCheck (.t 6)⟩,
      ⟨(some 18), none, .fieldAddr 0 (.t 17)⟩,
      ⟨none, none, .store 1 (.t 18) (.t 16)⟩] (some [0, 1]))
    (.ops [⟨(some 19), none, .move (.t 1)⟩,
      ⟨(some 20), none, .bin .quo 77 (.t 19) (.c (.int .u64 128))⟩,
      ⟨(some 1), none, .move (.t 20)⟩] (some [0, 1])))))))
 (.ops [⟨(some 21), none, .move (.t 0)⟩,
   ⟨(some 22), none, .move (.t 0)⟩,
   ⟨(some 23), none, .nilCheck (.t 22)⟩,
   ⟨(some 24), none, .fieldAddr 0 (.t 23)⟩,
   ⟨(some 25), none, .load false 1 (.t 24)⟩,
   ⟨(some 26), none, .move (.t 1)⟩,
   ⟨(some 27), none, .conv 77 5 (.t 26)⟩,
   ⟨(some 28), none, .buildSlice [(.int .u8 0)] 1 1 [(0, (.t 27))]⟩,
   ⟨(some 29), none, .append 1 1 [(.int .u8 0)] (.t 25) (.t 28)⟩,
   ⟨(some 30), none, .nilCheck (.t 21)⟩,
   ⟨(some 31), none, .fieldAddr 0 (.t 30)⟩,
   ⟨none, none, .store 1 (.t 31) (.t 29)⟩] (some []))), []⟩

theorem is241 : FnIs Tryz.prog 241 x241 := ⟨Tryz.f241, _, Tryz.func241, by kernel_rfl, rfl, by kernel_rfl, by decide, by kernel_rfl⟩

/-- cloisonne/wire.Begin$1 -/
def x244 : XDecl := .code ⟨3, 
 (.seq (.ops [⟨(some 3), none, .load false 1 (.t 0)⟩,
   ⟨(some 4), none, .bin .neq 32 (.t 3) (.c (.int .i64 0))⟩] (some [1, 2, 4]))
 (.cond (.t 4)
  (.ops [⟨none, none, .store 1 (.t 1) (.c (.slice none 0 0))⟩,
    ⟨none, none, .store 1 (.t 2) (.c (.int .i64 0))⟩] (some []))
  .skip)), []⟩

theorem is244 : FnIs Tryz.prog 244 x244 := ⟨Tryz.f244, _, Tryz.func244, by kernel_rfl, rfl, by kernel_rfl, by decide, by kernel_rfl⟩

/-- (*cloisonne/wire.parser).one -/
def x246 : XDecl := .code ⟨2, 
 (.seq (.ops [⟨(some 4), none, .alloc [(.int .u64 0), (.string .empty), (.slice none 0 0), (.slice none 0 0)]⟩] (some [0, 1, 4]))
 (.seq (.seq (.ops [⟨(some 10), none, .move (.t 1)⟩] (some [0, 4, 10]))
 (.block 0
  (.seq (.ops [⟨(some 12), none, .bin .eql 5 (.t 10) (.c (.int .u8 98))⟩,
    ⟨(some 11), none, .move (.t 12)⟩] (some [0, 4, 10, 11]))
  (.cond (.t 11)
   (.seq (.ops [⟨(some 13), none, .move (.t 0)⟩,
     ⟨(some 14), none, .call (.c (.func (.func 327) #[] #[])) [(.t 13), (.c (.int .i64 1))]⟩,
     ⟨(some 15), none, .index 9 (.t 14) (.c (.int .i64 0))⟩,
     ⟨(some 16), none, .conv 5 77 (.t 15)⟩,
     ⟨(some 17), none, .build [(.int .u64 0), (.string .empty), (.slice none 0 0), (.slice none 0 0)] [(0, 1), (1, 1), (2, 1), (3, 1)] [(0, (.t 16))]⟩,
     ⟨none, none, .store 4 (.t 4) (.t 17)⟩] (some [4]))
   .ret)
   (.seq (.ops [⟨(some 19), none, .bin .eql 5 (.t 10) (.c (.int .u8 110))⟩,
     ⟨(some 18), none, .move (.t 19)⟩] (some [0, 4, 10, 18]))
   (.cond (.t 18)
    (.seq (.ops [⟨(some 20), none, .move (.t 0)⟩,
      ⟨(some 21), none, .call (.c (.func (.func 328) #[] #[])) [(.t 20)]⟩,
      ⟨(some 22), none, .build [(.int .u64 0), (.string .empty), (.slice none 0 0), (.slice none 0 0)] [(0, 1), (1, 1), (2, 1), (3, 1)] [(0, (.t 21))]⟩,
      ⟨none, none, .store 4 (.t 4) (.t 22)⟩] (some [4]))
    .ret)
    (.seq (.ops [⟨(some 24), none, .bin .eql 5 (.t 10) (.c (.int .u8 116))⟩,
      ⟨(some 23), none, .move (.t 24)⟩] (some [0, 4, 10, 23]))
    (.cond (.t 23)
     (.seq (.ops [⟨(some 25), none, .move (.t 0)⟩,
       ⟨(some 26), none, .move (.t 0)⟩,
       ⟨(some 27), none, .call (.c (.func (.func 326) #[] #[])) [(.t 26), (.c (.int .i64 200))]⟩,
       ⟨(some 28), none, .call (.c (.func (.func 327) #[] #[])) [(.t 25), (.t 27)]⟩,
       ⟨(some 29), none, .build [(.int .u64 0), (.string .empty), (.slice none 0 0), (.slice none 0 0)] [(0, 1), (1, 1), (2, 1), (3, 1)] [(1, (.t 28))]⟩,
       ⟨none, none, .store 4 (.t 4) (.t 29)⟩] (some [4]))
     .ret)
     (.seq (.ops [⟨(some 31), none, .bin .eql 5 (.t 10) (.c (.int .u8 102))⟩,
       ⟨(some 30), none, .move (.t 31)⟩] (some [0, 4, 30]))
     (.cond (.t 30)
      (.seq (.ops [⟨(some 33), none, .move (.t 0)⟩,
        ⟨(some 34), none, .call (.c (.func (.func 327) #[] #[])) [(.t 33), (.c (.int .i64 8))]⟩,
        ⟨(some 35), none, .call (.c (.func (.func 250) #[] #[])) [(.t 34)]⟩,
        ⟨(some 32), none, .move (.t 35)⟩,
        ⟨(some 36), none, .extract (.t 32) 0⟩,
        ⟨(some 37), none, .extract (.t 32) 1⟩,
        ⟨(some 5), none, .move (.t 36)⟩,
        ⟨(some 6), none, .move (.t 37)⟩] (some [4, 5, 6]))
      (.seq (.ops [⟨(some 38), none, .move (.t 6)⟩,
        ⟨(some 39), none, .bin .eql 32 (.t 38) (.c (.int .i64 0))⟩,
        ⟨(some 40), none, .move (.t 6)⟩,
        ⟨(some 41), none, .call (.c (.func (.func 180) #[] #[])) [(.t 39), (.t 40)]⟩] (some [4, 5]))
      (.seq (.ops [⟨(some 42), none, .move (.t 5)⟩,
        ⟨(some 43), none, .call (.c (.func (.func 167) #[] #[])) [(.t 42)]⟩,
        ⟨(some 44), none, .build [(.int .u64 0), (.string .empty), (.slice none 0 0), (.slice none 0 0)] [(0, 1), (1, 1), (2, 1), (3, 1)] [(0, (.t 43))]⟩,
        ⟨none, none, .store 4 (.t 4) (.t 44)⟩] (some [4]))
      .ret)))
      .skip))))))))))
 (.seq (.ops [⟨(some 46), none, .move (.t 0)⟩,
   ⟨(some 47), none, .nilCheck (.t 46)⟩,
   ⟨(some 48), none, .fieldAddr 0 (.t 47)⟩,
   ⟨(some 49), none, .load false 1 (.t 48)⟩,
   ⟨(some 50), none, .call (.c (.func (.func 329) #[] #[])) [(.t 49)]⟩,
   ⟨(some 45), none, .move (.t 50)⟩,
   ⟨(some 51), none, .extract (.t 45) 0⟩,
   ⟨(some 52), none, .extract (.t 45) 1⟩,
   ⟨(some 53), none, .extract (.t 45) 2⟩,
   ⟨(some 7), none, .move (.t 51)⟩,
   ⟨(some 8), none, .move (.t 52)⟩,
   ⟨(some 9), none, .move (.t 53)⟩] (some [0, 4, 7, 8, 9]))
 (.seq (.ops [⟨(some 54), none, .move (.t 9)⟩,
   ⟨(some 55), none, .bin .eql 32 (.t 54) (.c (.int .i64 0))⟩,
   ⟨(some 56), none, .move (.t 9)⟩,
   ⟨(some 57), none, .call (.c (.func (.func 180) #[] #[])) [(.t 55), (.t 56)]⟩] (some [0, 4, 7, 8]))
 (.seq (.ops [⟨(some 58), none, .move (.t 0)⟩,
   ⟨(some 59), none, .move (.t 8)⟩,
   ⟨(some 60), none, .call (.c (.func (.func 327) #[] #[])) [(.t 58), (.t 59)]⟩] (some [4, 7]))
 (.seq (.ops [⟨(some 61), none, .move (.t 7)⟩,
   ⟨(some 62), none, .build [(.int .u64 0), (.string .empty), (.slice none 0 0), (.slice none 0 0)] [(0, 1), (1, 1), (2, 1), (3, 1)] [(2, (.t 61))]⟩,
   ⟨none, none, .store 4 (.t 4) (.t 62)⟩] (some [4]))
 .ret)))))), [.cell true 4 4]⟩

theorem is246 : FnIs Tryz.prog 246 x246 := ⟨Tryz.f246, _, Tryz.func246, by kernel_rfl, rfl, by kernel_rfl, by decide, by kernel_rfl⟩

/-- slices.Equal[[]cloisonne/api.Row,cloisonne/api.Row] -/
def x247 : XDecl := .code ⟨2, 
 (.seq (.ops [⟨(some 4), none, .move (.c (.bool false))⟩] (some [0, 1]))
 (.seq (.seq (.ops [⟨(some 6), none, .move (.t 0)⟩,
   ⟨(some 7), none, .len (.t 6)⟩,
   ⟨(some 8), none, .move (.t 1)⟩,
   ⟨(some 9), none, .len (.t 8)⟩,
   ⟨(some 10), none, .bin .neq 3 (.t 7) (.t 9)⟩] (some [0, 1, 10]))
 (.cond (.t 10)
  (.seq (.ops [⟨(some 4), none, .move (.c (.bool false))⟩] (some [4]))
  .ret)
  .skip))
 (.seq (.seq (.ops [⟨(some 11), none, .move (.t 0)⟩,
   ⟨(some 12), none, .len (.t 11)⟩,
   ⟨(some 13), none, .move (.c (.int .i64 0))⟩] (some [0, 1, 12, 13]))
 (.block 0
  (.loop
   (.seq (.ops [⟨(some 14), none, .bin .lss 3 (.t 13) (.t 12)⟩] (some [0, 1, 12, 13, 14]))
   (.seq (.cond (.t 14)
    .skip
    (.exit 0))
   (.seq (.block 1
    (.seq (.ops [⟨(some 15), none, .move (.t 13)⟩,
      ⟨(some 5), none, .move (.t 15)⟩] (some [0, 1, 5, 12, 13]))
    (.seq (.opsr [⟨(some 16), none, .move (.t 0)⟩,
      ⟨(some 17), none, .move (.t 5)⟩,
      ⟨(some 18), none, .indexAddr 5 (.t 16) (.t 17)⟩,
      ⟨(some 19), none, .load true 5 (.t 18)⟩,
      ⟨(some 20), none, .move (.t 1)⟩,
      ⟨(some 21), none, .move (.t 5)⟩,
      ⟨(some 22), none, .indexAddr 5 (.t 20) (.t 21)⟩,
      ⟨(some 23), none, .load true 5 (.t 22)⟩,
      ⟨(some 24), none, .bin .neq 209 (.t 19) (.t 23)⟩] (some [0, 1, 12, 13, 24]))
    (.cond (.t 24)
     (.seq (.ops [⟨(some 4), none, .move (.c (.bool false))⟩] (some [4]))
     .ret)
     .skip))))
   (.ops [⟨(some 25), none, .bin .add 3 (.t 13) (.c (.int .i64 1))⟩,
     ⟨(some 13), none, .move (.t 25)⟩] (some [0, 1, 12, 13]))))))))
 (.seq (.ops [⟨(some 4), none, .move (.c (.bool true))⟩] (some [4]))
 .ret)))), [.tmp 4]⟩

theorem is247 : FnIs Tryz.prog 247 x247 := ⟨Tryz.f247, _, Tryz.func247, by kernel_rfl, rfl, by kernel_rfl, by decide, by kernel_rfl⟩

/-- slices.IndexFunc[[]cloisonne/api.Row,cloisonne/api.Row] -/
def x248 : XDecl := .code ⟨2, 
 (.seq (.ops [⟨(some 4), none, .move (.c (.int .i64 0))⟩] (some [0, 1]))
 (.seq (.seq (.ops [⟨(some 6), none, .move (.t 0)⟩,
   ⟨(some 7), none, .len (.t 6)⟩,
   ⟨(some 8), none, .move (.c (.int .i64 0))⟩] (some [0, 1, 7, 8]))
 (.block 0
  (.loop
   (.seq (.ops [⟨(some 9), none, .bin .lss 3 (.t 8) (.t 7)⟩] (some [0, 1, 7, 8, 9]))
   (.seq (.cond (.t 9)
    .skip
    (.exit 0))
   (.seq (.block 1
    (.seq (.ops [⟨(some 10), none, .move (.t 8)⟩,
      ⟨(some 5), none, .move (.t 10)⟩] (some [0, 1, 5, 7, 8]))
    (.seq (.ops [⟨(some 11), none, .move (.t 1)⟩,
      ⟨(some 12), none, .move (.t 0)⟩,
      ⟨(some 13), none, .move (.t 5)⟩,
      ⟨(some 14), none, .indexAddr 5 (.t 12) (.t 13)⟩,
      ⟨(some 15), none, .load true 5 (.t 14)⟩,
      ⟨(some 16), none, .call (.t 11) [(.t 15)]⟩] (some [0, 1, 5, 7, 8, 16]))
    (.cond (.t 16)
     (.seq (.ops [⟨(some 17), none, .move (.t 5)⟩,
       ⟨(some 4), none, .move (.t 17)⟩] (some [4]))
     .ret)
     .skip))))
   (.ops [⟨(some 18), none, .bin .add 3 (.t 8) (.c (.int .i64 1))⟩,
     ⟨(some 8), none, .move (.t 18)⟩] (some [0, 1, 7, 8]))))))))
 (.seq (.ops [⟨(some 4), none, .move (.c (.int .i64 (-1)))⟩] (some [4]))
 .ret))), [.tmp 4]⟩

theorem is248 : FnIs Tryz.prog 248 x248 := ⟨Tryz.f248, _, Tryz.func248, by kernel_rfl, rfl, by kernel_rfl, by decide, by kernel_rfl⟩

/-- strings.CutPrefix -/
def x249 : XDecl := .code ⟨2, 
 (.seq (.ops [⟨(some 4), none, .move (.c (.string .empty))⟩,
   ⟨(some 5), none, .move (.c (.bool false))⟩] (some [0, 1]))
 (.seq (.ops [⟨(some 6), none, .move (.t 0)⟩,
   ⟨(some 7), none, .move (.t 1)⟩,
   ⟨(some 8), none, .call (.c (.func (.func 330) #[] #[])) [(.t 6), (.t 7)]⟩,
   ⟨(some 9), none, .extract (.t 8) 0⟩,
   ⟨(some 10), none, .extract (.t 8) 1⟩,
   ⟨(some 4), none, .move (.t 9)⟩,
   ⟨(some 5), none, .move (.t 10)⟩] (some [4, 5]))
 .ret)), [.tmp 4, .tmp 5]⟩

theorem is249 : FnIs Tryz.prog 249 x249 := ⟨Tryz.f249, _, Tryz.func249, by kernel_rfl, rfl, by kernel_rfl, by decide, by kernel_rfl⟩

/-- (*cloisonne/sess.Session).login -/
def x252 : XDecl := .code ⟨2, 
 (.seq (.ops [⟨(some 3), none, .box (.t 1)⟩,
   ⟨(some 4), none, .alloc [(.int .i64 0), (.int .u64 0), (.bool false), (.bool false), (.string .empty), (.int .u64 0), (.slice none 0 0), (.int .i64 0), (.int .u64 0), (.int .u64 0), (.int .u64 0), (.int .u64 0)]⟩] (some [0, 3, 4]))
 (.seq (.block 0
  (.seq (.ops [⟨(some 6), none, .move (.t 0)⟩,
    ⟨(some 7), none, .nilCheck (.t 6)⟩,
    ⟨(some 8), none, .fieldAddr 2 (.t 7)⟩,
    ⟨(some 9), none, .load false 1 (.t 8)⟩,
    ⟨(some 5), none, .move (.t 9)⟩] (some [0, 3, 4, 5]))
  (.cond (.t 5)
   (.seq (.ops [⟨(some 10), none, .call (.c (.func (.func 191) #[] #[])) [(.c (.int .i64 8))]⟩,
     ⟨none, none, .store 12 (.t 4) (.t 10)⟩] (some [4]))
   .ret)
   (.seq (.opsd [(0, 0, ⟨(some 12), none, .fieldAddr 1 (.t 3)⟩),
     (1, 1, ⟨(some 13), none, .load false 1 (.t 12)⟩),
     (2, 0, ⟨(some 14), none, .move (.t 0)⟩),
     (3, 4, ⟨(some 15), none, .nilCheck (.t 14)⟩),
     (4, 12, ⟨(some 16), none, .fieldAddr 0 (.t 15)⟩),
     (5, 28, ⟨(some 17), none, .load false 1 (.t 16)⟩),
     (6, 60, ⟨(some 18), none, .call (.c (.func (.func 332) #[] #[])) [(.t 17)]⟩),
     (7, 124, ⟨(some 19), none, .call (.c (.func (.func 296) #[] #[])) [(.t 18)]⟩),
     (8, 255, ⟨(some 20), none, .bin .geq 3 (.t 13) (.t 19)⟩),
     (9, 511, ⟨(some 11), none, .move (.t 20)⟩)] (some [0, 3, 4, 11]))
   (.cond (.t 11)
    (.seq (.ops [⟨(some 21), none, .call (.c (.func (.func 191) #[] #[])) [(.c (.int .i64 1))]⟩,
      ⟨none, none, .store 12 (.t 4) (.t 21)⟩] (some [4]))
    .ret)
    .skip)))))
 (.seq (.opsd [(0, 0, ⟨(some 22), none, .move (.t 0)⟩),
   (1, 0, ⟨(some 23), none, .move (.t 0)⟩),
   (2, 0, ⟨(some 24), none, .move (.t 0)⟩),
   (3, 0, ⟨(some 25), none, .move (.t 0)⟩),
   (4, 0, ⟨(some 26), none, .fieldAddr 1 (.t 3)⟩),
   (5, 16, ⟨(some 27), none, .load false 1 (.t 26)⟩),
   (6, 1, ⟨(some 28), none, .nilCheck (.t 22)⟩),
   (7, 65, ⟨(some 29), none, .fieldAddr 3 (.t 28)⟩),
   (8, 193, ⟨none, none, .store 1 (.t 29) (.c (.bool true))⟩),
   (9, 451, ⟨(some 30), none, .nilCheck (.t 23)⟩),
   (10, 963, ⟨(some 31), none, .fieldAddr 2 (.t 30)⟩),
   (11, 1987, ⟨none, none, .store 1 (.t 31) (.c (.bool true))⟩),
   (12, 4087, ⟨(some 32), none, .nilCheck (.t 24)⟩),
   (13, 8183, ⟨(some 33), none, .fieldAddr 4 (.t 32)⟩),
   (14, 16375, ⟨none, none, .store 1 (.t 33) (.t 27)⟩),
   (15, 32767, ⟨(some 34), none, .nilCheck (.t 25)⟩),
   (16, 65535, ⟨(some 35), none, .fieldAddr 5 (.t 34)⟩),
   (17, 131071, ⟨none, none, .store 1 (.t 35) (.c (.slice none 0 0))⟩)] (some [4]))
 (.seq (.ops [⟨(some 36), none, .call (.c (.func (.func 191) #[] #[])) [(.c (.int .i64 0))]⟩,
   ⟨none, none, .store 12 (.t 4) (.t 36)⟩] (some [4]))
 .ret)))), [.cell true 12 4]⟩

theorem is252 : FnIs Tryz.prog 252 x252 := ⟨Tryz.f252, _, Tryz.func252, by kernel_rfl, rfl, by kernel_rfl, by decide, by kernel_rfl⟩

/-- (*cloisonne/vault.Vault).Stamp -/
def x255 : XDecl := .code ⟨1, 
 (.seq (.ops [⟨(some 2), none, .move (.c (.int .u64 0))⟩] (some [0]))
 (.seq (.seq (.ops [⟨(some 3), none, .move (.t 0)⟩,
   ⟨(some 4), none, .isNil .ptr false (.t 3)⟩] (some [0, 4]))
 (.cond (.t 4)
  (.seq (.ops [⟨(some 2), none, .move (.c (.int .u64 0))⟩] (some [2]))
  .ret)
  .skip))
 (.seq (.ops [⟨(some 5), none, .move (.t 0)⟩,
   ⟨(some 6), none, .nilCheck (.t 5)⟩,
   ⟨(some 7), none, .fieldAddr 9 (.t 6)⟩,
   ⟨(some 8), none, .load false 1 (.t 7)⟩,
   ⟨(some 2), none, .move (.t 8)⟩] (some [2]))
 .ret))), [.tmp 2]⟩

theorem is255 : FnIs Tryz.prog 255 x255 := ⟨Tryz.f255, _, Tryz.func255, by kernel_rfl, rfl, by kernel_rfl, by decide, by kernel_rfl⟩

/-- cloisonne/wset.New -/
def x256 : XDecl := .code ⟨0, 
 (.seq (.ops [⟨(some 0), none, .move (.c (.pointer none))⟩] (some []))
 (.seq (.ops [⟨(some 1), none, .build [(.slice none 0 0), (.slice none 0 0), (.slice none 0 0)] [(0, 1), (1, 1), (2, 1)] []⟩,
   ⟨(some 2), none, .box (.t 1)⟩,
   ⟨(some 0), none, .move (.t 2)⟩] (some [0]))
 .ret)), [.tmp 0]⟩

theorem is256 : FnIs Tryz.prog 256 x256 := ⟨Tryz.f256, _, Tryz.func256, by kernel_rfl, rfl, by kernel_rfl, by decide, by kernel_rfl⟩

/-- (*cloisonne/sess.Session).start -/
def x257 : XDecl := .code ⟨2, 
 (.seq (.ops [⟨(some 3), none, .box (.t 1)⟩,
   ⟨(some 4), none, .move (.c (.pointer none))⟩,
   ⟨(some 5), none, .alloc [(.int .i64 0), (.int .u64 0), (.bool false), (.bool false), (.string .empty), (.int .u64 0), (.slice none 0 0), (.int .i64 0), (.int .u64 0), (.int .u64 0), (.int .u64 0), (.int .u64 0)]⟩] (some [0, 3, 5]))
 (.seq (.ops [⟨(some 6), none, .move (.c (.pointer none))⟩] (some [0, 3, 5, 6]))
 (.seq (.ops [⟨(some 7), none, .move (.c (.int .i64 0))⟩] (some [0, 3, 5, 6]))
 (.seq (.block 0
  (.seq (.ops [⟨(some 32), none, .fieldAddr 0 (.t 3)⟩,
    ⟨(some 33), none, .load false 1 (.t 32)⟩,
    ⟨(some 34), none, .bin .eql 3 (.t 33) (.c (.int .i64 14))⟩,
    ⟨(some 35), none, .move (.t 34)⟩,
    ⟨(some 36), (some (35, true)), .move (.t 0)⟩,
    ⟨(some 37), (some (35, true)), .nilCheck (.t 36)⟩,
    ⟨(some 38), (some (35, true)), .fieldAddr 6 (.t 37)⟩,
    ⟨(some 39), (some (35, true)), .load false 1 (.t 38)⟩,
    ⟨(some 40), (some (35, true)), .nilCheck (.t 39)⟩,
    ⟨(some 41), (some (35, true)), .fieldAddr 1 (.t 40)⟩,
    ⟨(some 42), (some (35, true)), .load false 1 (.t 41)⟩,
    ⟨(some 43), (some (35, true)), .call (.c (.func (.func 340) #[] #[])) [(.t 42)]⟩,
    ⟨(some 44), (some (35, true)), .bin .eql 3 (.t 43) (.c (.int .i64 0))⟩,
    ⟨(some 45), none, .pick (.t 35) (.t 44) (.c (.bool false))⟩,
    ⟨(some 31), none, .move (.t 45)⟩] (some [0, 3, 5, 6, 31]))
  (.cond (.t 31)
   (.seq (.ops [⟨(some 46), none, .call (.c (.func (.func 191) #[] #[])) [(.c (.int .i64 0))]⟩,
     ⟨(some 4), none, .move (.c (.pointer none))⟩,
     ⟨none, none, .store 12 (.t 5) (.t 46)⟩] (some [4, 5]))
   .ret)
   (.seq (.ops [⟨(some 48), none, .fieldAddr 0 (.t 3)⟩,
     ⟨(some 49), none, .load false 1 (.t 48)⟩,
     ⟨(some 50), none, .bin .eql 3 (.t 49) (.c (.int .i64 14))⟩,
     ⟨(some 47), none, .move (.t 50)⟩] (some [0, 3, 5, 6, 47]))
   (.cond (.t 47)
    (.opsd [(0, 0, ⟨(some 52), none, .move (.t 0)⟩),
      (1, 1, ⟨(some 53), none, .nilCheck (.t 52)⟩),
      (2, 3, ⟨(some 54), none, .fieldAddr 0 (.t 53)⟩),
      (3, 7, ⟨(some 55), none, .load false 1 (.t 54)⟩),
      (4, 0, ⟨(some 56), none, .move (.t 0)⟩),
      (5, 16, ⟨(some 57), none, .nilCheck (.t 56)⟩),
      (6, 48, ⟨(some 58), none, .fieldAddr 1 (.t 57)⟩),
      (7, 112, ⟨(some 59), none, .load false 1 (.t 58)⟩),
      (8, 0, ⟨(some 60), none, .move (.t 0)⟩),
      (9, 256, ⟨(some 61), none, .nilCheck (.t 60)⟩),
      (10, 768, ⟨(some 62), none, .fieldAddr 6 (.t 61)⟩),
      (11, 1792, ⟨(some 63), none, .load false 1 (.t 62)⟩),
      (12, 3840, ⟨(some 64), none, .nilCheck (.t 63)⟩),
      (13, 7936, ⟨(some 65), none, .fieldAddr 2 (.t 64)⟩),
      (14, 16128, ⟨(some 66), none, .load false 1 (.t 65)⟩),
      (15, 0, ⟨(some 67), none, .move (.t 0)⟩),
      (16, 32768, ⟨(some 68), none, .nilCheck (.t 67)⟩),
      (17, 98304, ⟨(some 69), none, .fieldAddr 6 (.t 68)⟩),
      (18, 229376, ⟨(some 70), none, .load false 1 (.t 69)⟩),
      (19, 491520, ⟨(some 71), none, .nilCheck (.t 70)⟩),
      (20, 1015808, ⟨(some 72), none, .fieldAddr 1 (.t 71)⟩),
      (21, 2064384, ⟨(some 73), none, .load false 1 (.t 72)⟩),
      (23, 0, ⟨(some 75), none, .move (.t 0)⟩),
      (24, 8388608, ⟨(some 76), none, .nilCheck (.t 75)⟩),
      (25, 25165824, ⟨(some 77), none, .fieldAddr 6 (.t 76)⟩),
      (26, 58720256, ⟨(some 78), none, .load false 1 (.t 77)⟩),
      (27, 125829120, ⟨(some 79), none, .nilCheck (.t 78)⟩),
      (28, 260046848, ⟨(some 80), none, .fieldAddr 0 (.t 79)⟩),
      (29, 528482304, ⟨(some 81), none, .load false 1 (.t 80)⟩),
      (22, 4161536, ⟨(some 74), none, .call (.c (.func (.func 342) #[] #[])) [(.t 73)]⟩),
      (30, 1073741823, ⟨(some 82), none, .call (.c (.func (.func 341) #[] #[])) [(.t 55), (.t 59), (.t 66), (.t 74), (.t 81)]⟩),
      (31, 2147483647, ⟨(some 51), none, .move (.t 82)⟩),
      (32, 4294967295, ⟨(some 83), none, .extract (.t 51) 0⟩),
      (33, 4294967295, ⟨(some 84), none, .extract (.t 51) 1⟩),
      (34, 8589934591, ⟨(some 6), none, .move (.t 83)⟩),
      (35, 34359738367, ⟨(some 7), none, .move (.t 84)⟩)] (some [5, 6, 7]))
    (.seq (.ops [⟨(some 86), none, .move (.t 0)⟩,
      ⟨(some 87), none, .nilCheck (.t 86)⟩,
      ⟨(some 88), none, .fieldAddr 6 (.t 87)⟩,
      ⟨(some 89), none, .load false 1 (.t 88)⟩,
      ⟨(some 90), none, .isNil .ptr true (.t 89)⟩,
      ⟨(some 85), none, .move (.t 90)⟩] (some [0, 3, 5, 6, 85]))
    (.cond (.t 85)
     (.ops [⟨(some 7), none, .move (.c (.int .i64 9))⟩] (some [5, 6, 7]))
     (.seq (.ops [⟨(some 92), none, .move (.t 0)⟩,
       ⟨(some 93), none, .nilCheck (.t 92)⟩,
       ⟨(some 94), none, .fieldAddr 5 (.t 93)⟩,
       ⟨(some 95), none, .load false 1 (.t 94)⟩,
       ⟨(some 96), none, .len (.t 95)⟩,
       ⟨(some 97), none, .bin .gtr 3 (.t 96) (.c (.int .i64 0))⟩,
       ⟨(some 91), none, .move (.t 97)⟩] (some [0, 3, 5, 6, 91]))
     (.cond (.t 91)
      (.ops [⟨(some 7), none, .move (.c (.int .i64 11))⟩] (some [5, 6, 7]))
      (.seq (.ops [⟨(some 99), none, .fieldAddr 0 (.t 3)⟩,
        ⟨(some 100), none, .load false 1 (.t 99)⟩,
        ⟨(some 101), none, .bin .eql 3 (.t 100) (.c (.int .i64 5))⟩,
        ⟨(some 98), none, .move (.t 101)⟩] (some [0, 3, 5, 98]))
      (.cond (.t 98)
       (.opsd [(0, 0, ⟨(some 103), none, .move (.t 0)⟩),
         (1, 1, ⟨(some 104), none, .nilCheck (.t 103)⟩),
         (2, 3, ⟨(some 105), none, .fieldAddr 0 (.t 104)⟩),
         (3, 7, ⟨(some 106), none, .load false 1 (.t 105)⟩),
         (4, 0, ⟨(some 107), none, .move (.t 0)⟩),
         (5, 16, ⟨(some 108), none, .nilCheck (.t 107)⟩),
         (6, 48, ⟨(some 109), none, .fieldAddr 1 (.t 108)⟩),
         (7, 112, ⟨(some 110), none, .load false 1 (.t 109)⟩),
         (8, 0, ⟨(some 111), none, .move (.t 0)⟩),
         (9, 256, ⟨(some 112), none, .nilCheck (.t 111)⟩),
         (10, 768, ⟨(some 113), none, .fieldAddr 4 (.t 112)⟩),
         (11, 1792, ⟨(some 114), none, .load false 1 (.t 113)⟩),
         (12, 3840, ⟨(some 115), none, .build [(.int .i64 0), (.int .i64 0), (.int .i64 0), (.int .u64 0), (.bool false)] [(0, 1), (1, 1), (2, 1), (3, 1), (4, 1)] [(0, (.c (.int .i64 1))), (1, (.t 114))]⟩),
         (13, 8191, ⟨(some 116), none, .call (.c (.func (.func 343) #[] #[])) [(.t 106), (.t 110), (.t 115)]⟩),
         (14, 16383, ⟨(some 102), none, .move (.t 116)⟩),
         (15, 32767, ⟨(some 117), none, .extract (.t 102) 0⟩),
         (16, 32767, ⟨(some 118), none, .extract (.t 102) 1⟩),
         (17, 65535, ⟨(some 6), none, .move (.t 117)⟩),
         (18, 262143, ⟨(some 7), none, .move (.t 118)⟩)] (some [5, 6, 7]))
       (.opsd [(0, 0, ⟨(some 9), none, .move (.t 0)⟩),
         (1, 1, ⟨(some 10), none, .nilCheck (.t 9)⟩),
         (2, 3, ⟨(some 11), none, .fieldAddr 0 (.t 10)⟩),
         (3, 7, ⟨(some 12), none, .load false 1 (.t 11)⟩),
         (4, 0, ⟨(some 13), none, .move (.t 0)⟩),
         (5, 16, ⟨(some 14), none, .nilCheck (.t 13)⟩),
         (6, 48, ⟨(some 15), none, .fieldAddr 1 (.t 14)⟩),
         (7, 112, ⟨(some 16), none, .load false 1 (.t 15)⟩),
         (8, 0, ⟨(some 17), none, .move (.t 0)⟩),
         (9, 256, ⟨(some 18), none, .nilCheck (.t 17)⟩),
         (10, 768, ⟨(some 19), none, .fieldAddr 4 (.t 18)⟩),
         (11, 1792, ⟨(some 20), none, .load false 1 (.t 19)⟩),
         (12, 0, ⟨(some 21), none, .fieldAddr 1 (.t 3)⟩),
         (13, 4096, ⟨(some 22), none, .load false 1 (.t 21)⟩),
         (14, 0, ⟨(some 23), none, .fieldAddr 3 (.t 3)⟩),
         (15, 16384, ⟨(some 24), none, .load false 1 (.t 23)⟩),
         (16, 0, ⟨(some 25), none, .fieldAddr 4 (.t 3)⟩),
         (17, 65536, ⟨(some 26), none, .load false 1 (.t 25)⟩),
         (18, 261888, ⟨(some 27), none, .build [(.int .i64 0), (.int .i64 0), (.int .i64 0), (.int .u64 0), (.bool false)] [(0, 1), (1, 1), (2, 1), (3, 1), (4, 1)] [(0, (.c (.int .i64 2))), (1, (.t 20)), (2, (.t 22)), (3, (.t 24)), (4, (.t 26))]⟩),
         (19, 524287, ⟨(some 28), none, .call (.c (.func (.func 343) #[] #[])) [(.t 12), (.t 16), (.t 27)]⟩),
         (20, 1048575, ⟨(some 8), none, .move (.t 28)⟩),
         (21, 2097151, ⟨(some 29), none, .extract (.t 8) 0⟩),
         (22, 2097151, ⟨(some 30), none, .extract (.t 8) 1⟩),
         (23, 4194303, ⟨(some 6), none, .move (.t 29)⟩),
         (24, 16777215, ⟨(some 7), none, .move (.t 30)⟩)] (some [5, 6, 7])))))))))))))
 (.seq (.ops [⟨(some 119), none, .move (.t 6)⟩,
   ⟨(some 120), none, .move (.t 7)⟩,
   ⟨(some 121), none, .call (.c (.func (.func 191) #[] #[])) [(.t 120)]⟩,
   ⟨(some 4), none, .move (.t 119)⟩,
   ⟨none, none, .store 12 (.t 5) (.t 121)⟩] (some [4, 5]))
 .ret))))), [.tmp 4, .cell true 12 5]⟩

theorem is257 : FnIs Tryz.prog 257 x257 := ⟨Tryz.f257, _, Tryz.func257, by kernel_rfl, rfl, by kernel_rfl, by decide, by kernel_rfl⟩

/-- (*cloisonne/sess.Session).write -/
def x263 : XDecl := .code ⟨2, 
 (.seq (.ops [⟨(some 3), none, .box (.t 1)⟩,
   ⟨(some 4), none, .alloc [(.int .i64 0), (.int .u64 0), (.bool false), (.bool false), (.string .empty), (.int .u64 0), (.slice none 0 0), (.int .i64 0), (.int .u64 0), (.int .u64 0), (.int .u64 0), (.int .u64 0)]⟩] (some [0, 3, 4]))
 (.seq (.seq (.ops [⟨(some 6), none, .move (.t 0)⟩,
   ⟨(some 7), none, .fieldAddr 5 (.t 3)⟩,
   ⟨(some 8), none, .load false 1 (.t 7)⟩,
   ⟨(some 9), none, .call (.c (.func (.func 351) #[] #[])) [(.t 6), (.t 8)]⟩,
   ⟨(some 5), none, .move (.t 9)⟩] (some [0, 3, 4, 5]))
 (.seq (.ops [⟨(some 10), none, .move (.t 5)⟩,
   ⟨(some 11), none, .bin .neq 32 (.t 10) (.c (.int .i64 0))⟩] (some [0, 3, 4, 5, 11]))
 (.cond (.t 11)
  (.seq (.ops [⟨(some 12), none, .move (.t 5)⟩,
    ⟨(some 13), none, .call (.c (.func (.func 191) #[] #[])) [(.t 12)]⟩,
    ⟨none, none, .store 12 (.t 4) (.t 13)⟩] (some [4]))
  .ret)
  .skip)))
 (.seq (.seq (.ops [⟨(some 14), none, .fieldAddr 0 (.t 3)⟩,
   ⟨(some 15), none, .load false 1 (.t 14)⟩,
   ⟨(some 16), none, .bin .eql 3 (.t 15) (.c (.int .i64 10))⟩] (some [0, 3, 4, 16]))
 (.cond (.t 16)
  (.seq (.opsd [(0, 0, ⟨(some 17), none, .move (.t 0)⟩),
    (1, 1, ⟨(some 18), none, .nilCheck (.t 17)⟩),
    (2, 3, ⟨(some 19), none, .fieldAddr 6 (.t 18)⟩),
    (3, 7, ⟨(some 20), none, .load false 1 (.t 19)⟩),
    (4, 15, ⟨(some 21), none, .nilCheck (.t 20)⟩),
    (5, 31, ⟨(some 22), none, .fieldAddr 1 (.t 21)⟩),
    (6, 63, ⟨(some 23), none, .load false 1 (.t 22)⟩),
    (7, 0, ⟨(some 24), none, .fieldAddr 6 (.t 3)⟩),
    (8, 128, ⟨(some 25), none, .load false 1 (.t 24)⟩),
    (9, 511, ⟨(some 26), none, .call (.c (.func (.func 352) #[] #[])) [(.t 23), (.t 25)]⟩),
    (10, 1023, ⟨(some 27), none, .call (.c (.func (.func 191) #[] #[])) [(.t 26)]⟩),
    (11, 2047, ⟨none, none, .store 12 (.t 4) (.t 27)⟩)] (some [4]))
  .ret)
  .skip))
 (.seq (.opsd [(0, 0, ⟨(some 28), none, .move (.t 0)⟩),
   (1, 1, ⟨(some 29), none, .nilCheck (.t 28)⟩),
   (2, 3, ⟨(some 30), none, .fieldAddr 6 (.t 29)⟩),
   (3, 7, ⟨(some 31), none, .load false 1 (.t 30)⟩),
   (4, 15, ⟨(some 32), none, .nilCheck (.t 31)⟩),
   (5, 31, ⟨(some 33), none, .fieldAddr 1 (.t 32)⟩),
   (6, 63, ⟨(some 34), none, .load false 1 (.t 33)⟩),
   (7, 0, ⟨(some 35), none, .fieldAddr 6 (.t 3)⟩),
   (8, 128, ⟨(some 36), none, .load false 1 (.t 35)⟩),
   (9, 0, ⟨(some 37), none, .fieldAddr 7 (.t 3)⟩),
   (10, 512, ⟨(some 38), none, .load true 3 (.t 37)⟩),
   (11, 2047, ⟨(some 39), none, .call (.c (.func (.func 353) #[] #[])) [(.t 34), (.t 36), (.t 38)]⟩),
   (12, 4095, ⟨(some 40), none, .call (.c (.func (.func 191) #[] #[])) [(.t 39)]⟩),
   (13, 8191, ⟨none, none, .store 12 (.t 4) (.t 40)⟩)] (some [4]))
 .ret)))), [.cell true 12 4]⟩

theorem is263 : FnIs Tryz.prog 263 x263 := ⟨Tryz.f263, _, Tryz.func263, by kernel_rfl, rfl, by kernel_rfl, by decide, by kernel_rfl⟩

/-- slices.BinarySearch[[]string,string] -/
def x269 : XDecl := .code ⟨2, 
 (.seq (.ops [⟨(some 4), none, .move (.c (.int .i64 0))⟩,
   ⟨(some 5), none, .move (.c (.bool false))⟩] (some [0, 1]))
 (.seq (.ops [⟨(some 10), none, .move (.t 0)⟩,
   ⟨(some 11), none, .len (.t 10)⟩,
   ⟨(some 6), none, .move (.t 11)⟩] (some [0, 1, 6]))
 (.seq (.ops [⟨(some 12), none, .move (.t 6)⟩,
   ⟨(some 7), none, .move (.c (.int .i64 0))⟩,
   ⟨(some 8), none, .move (.t 12)⟩] (some [0, 1, 6, 7, 8]))
 (.seq (.block 0
  (.loop
   (.seq (.seq (.ops [⟨(some 13), none, .move (.t 7)⟩,
     ⟨(some 14), none, .move (.t 8)⟩,
     ⟨(some 15), none, .bin .lss 3 (.t 13) (.t 14)⟩] (some [0, 1, 6, 7, 8, 15]))
   (.cond (.t 15)
    .skip
    (.exit 0)))
   (.block 1
    (.seq (.ops [⟨(some 16), none, .move (.t 7)⟩,
      ⟨(some 17), none, .move (.t 8)⟩,
      ⟨(some 18), none, .bin .add 3 (.t 16) (.t 17)⟩,
      ⟨(some 19), none, .conv 3 356 (.t 18)⟩,
      ⟨(some 20), none, .bin .shr 356 (.t 19) (.c (.int .u64 1))⟩,
      ⟨(some 21), none, .conv 356 3 (.t 20)⟩,
      ⟨(some 9), none, .move (.t 21)⟩] (some [0, 1, 6, 7, 8, 9]))
    (.seq (.ops [⟨(some 22), none, .move (.t 0)⟩,
      ⟨(some 23), none, .move (.t 9)⟩,
      ⟨(some 24), none, .indexAddr 1 (.t 22) (.t 23)⟩,
      ⟨(some 25), none, .load false 1 (.t 24)⟩,
      ⟨(some 26), none, .move (.t 1)⟩,
      ⟨(some 27), none, .call (.c (.func (.func 318) #[] #[])) [(.t 25), (.t 26)]⟩] (some [0, 1, 6, 7, 8, 9, 27]))
    (.cond (.t 27)
     (.ops [⟨(some 28), none, .move (.t 9)⟩,
       ⟨(some 29), none, .bin .add 3 (.t 28) (.c (.int .i64 1))⟩,
       ⟨(some 7), none, .move (.t 29)⟩] (some [0, 1, 6, 7, 8]))
     (.ops [⟨(some 30), none, .move (.t 9)⟩,
       ⟨(some 8), none, .move (.t 30)⟩] (some [0, 1, 6, 7, 8])))))))))
 (.seq (.ops [⟨(some 31), none, .move (.t 7)⟩,
   ⟨(some 32), none, .move (.t 7)⟩,
   ⟨(some 33), none, .move (.t 6)⟩,
   ⟨(some 34), none, .bin .lss 3 (.t 32) (.t 33)⟩,
   ⟨(some 35), none, .move (.t 34)⟩,
   ⟨(some 36), (some (35, true)), .move (.t 0)⟩,
   ⟨(some 37), (some (35, true)), .move (.t 7)⟩,
   ⟨(some 38), (some (35, true)), .indexAddr 1 (.t 36) (.t 37)⟩,
   ⟨(some 39), (some (35, true)), .load false 1 (.t 38)⟩,
   ⟨(some 40), (some (35, true)), .move (.t 1)⟩,
   ⟨(some 41), (some (35, true)), .bin .eql 9 (.t 39) (.t 40)⟩,
   ⟨(some 42), (some (35, true)), .move (.t 41)⟩,
   ⟨(some 43), (some (42, false)), .move (.t 0)⟩,
   ⟨(some 44), (some (42, false)), .move (.t 7)⟩,
   ⟨(some 45), (some (42, false)), .indexAddr 1 (.t 43) (.t 44)⟩,
   ⟨(some 46), (some (42, false)), .load false 1 (.t 45)⟩,
   ⟨(some 47), (some (42, false)), .call (.c (.func (.func 359) #[] #[])) [(.t 46)]⟩,
   ⟨(some 48), (some (42, false)), .move (.t 47)⟩,
   ⟨(some 49), (some (48, true)), .move (.t 1)⟩,
   ⟨(some 50), (some (48, true)), .call (.c (.func (.func 359) #[] #[])) [(.t 49)]⟩,
   ⟨(some 51), (some (42, false)), .pick (.t 48) (.t 50) (.c (.bool false))⟩,
   ⟨(some 52), (some (35, true)), .pick (.t 42) (.c (.bool true)) (.t 51)⟩,
   ⟨(some 53), none, .pick (.t 35) (.t 52) (.c (.bool false))⟩,
   ⟨(some 4), none, .move (.t 31)⟩,
   ⟨(some 5), none, .move (.t 53)⟩] (some [4, 5]))
 .ret))))), [.tmp 4, .tmp 5]⟩

theorem is269 : FnIs Tryz.prog 269 x269 := ⟨Tryz.f269, _, Tryz.func269, by kernel_rfl, rfl, by kernel_rfl, by decide, by kernel_rfl⟩

/-- cloisonne/chain.Last -/
def x270 : XDecl := .code ⟨1, 
 (.seq (.ops [⟨(some 2), none, .alloc [(.int .i64 0), (.bool false), (.bool false), (.string .empty), (.int .u64 0)]⟩,
   ⟨(some 3), none, .move (.c (.bool false))⟩] (some [0, 2]))
 (.seq (.seq (.ops [⟨(some 4), none, .move (.t 0)⟩,
   ⟨(some 5), none, .call (.c (.func (.func 142) #[] #[])) [(.t 4)]⟩,
   ⟨(some 6), none, .un .not (.t 5)⟩,
   ⟨(some 7), none, .move (.t 6)⟩,
   ⟨(some 8), (some (7, false)), .move (.t 0)⟩,
   ⟨(some 9), (some (7, false)), .len (.t 8)⟩,
   ⟨(some 10), (some (7, false)), .bin .eql 3 (.t 9) (.c (.int .i64 0))⟩,
   ⟨(some 11), none, .pick (.t 7) (.c (.bool true)) (.t 10)⟩] (some [0, 2, 11]))
 (.cond (.t 11)
  (.seq (.ops [⟨(some 12), none, .build [(.int .i64 0), (.bool false), (.bool false), (.string .empty), (.int .u64 0)] [(0, 1), (1, 1), (2, 3)] []⟩,
    ⟨none, none, .store 5 (.t 2) (.t 12)⟩,
    ⟨(some 3), none, .move (.c (.bool false))⟩] (some [2, 3]))
  .ret)
  .skip))
 (.seq (.ops [⟨(some 13), none, .move (.t 0)⟩,
   ⟨(some 14), none, .move (.t 0)⟩,
   ⟨(some 15), none, .len (.t 14)⟩,
   ⟨(some 16), none, .bin .sub 3 (.t 15) (.c (.int .i64 1))⟩,
   ⟨(some 17), none, .indexAddr 5 (.t 13) (.t 16)⟩,
   ⟨(some 18), none, .load true 5 (.t 17)⟩,
   ⟨none, none, .store 5 (.t 2) (.t 18)⟩,
   ⟨(some 3), none, .move (.c (.bool true))⟩] (some [2, 3]))
 .ret))), [.cell true 5 2, .tmp 3]⟩

theorem is270 : FnIs Tryz.prog 270 x270 := ⟨Tryz.f270, _, Tryz.func270, by kernel_rfl, rfl, by kernel_rfl, by decide, by kernel_rfl⟩

/-- cloisonne/value.Weight -/
def x271 : XDecl := .code ⟨1, 
 (.seq (.ops [⟨(some 1), none, .box (.t 0)⟩,
   ⟨(some 2), none, .move (.c (.int .i64 0))⟩] (some [1]))
 (.seq (.ops [⟨(some 6), none, .load true 3 (.t 1)⟩,
   ⟨(some 7), none, .call (.c (.func (.func 183) #[] #[])) [(.t 6)]⟩,
   ⟨(some 5), none, .move (.t 7)⟩,
   ⟨(some 8), none, .extract (.t 5) 0⟩,
   ⟨(some 9), none, .extract (.t 5) 1⟩,
   ⟨(some 3), none, .move (.t 8)⟩,
   ⟨(some 4), none, .move (.t 9)⟩] (some [3]))
 (.seq (.ops [⟨(some 10), none, .move (.t 3)⟩,
   ⟨(some 11), none, .calcB .len [9] 3 [(.t 10)]⟩,
   ⟨(some 2), none, .move (.t 11)⟩] (some [2]))
 .ret))), [.tmp 2]⟩

theorem is271 : FnIs Tryz.prog 271 x271 := ⟨Tryz.f271, _, Tryz.func271, by kernel_rfl, rfl, by kernel_rfl, by decide, by kernel_rfl⟩

/-- (*cloisonne/vault.Vault).Free -/
def x279 : XDecl := .code ⟨2, 
 (.seq (.ops [⟨(some 4), none, .move (.t 0)⟩,
   ⟨(some 5), none, .isNil .ptr true (.t 4)⟩] (some [0, 1, 5]))
 (.cond (.t 5)
  (.ops [⟨(some 6), none, .move (.t 0)⟩,
    ⟨(some 7), none, .nilCheck (.t 6)⟩,
    ⟨(some 8), none, .fieldAddr 8 (.t 7)⟩,
    ⟨(some 9), none, .load false 1 (.t 8)⟩,
    ⟨(some 10), none, .move (.t 1)⟩,
    ⟨none, none, .mapDel true (.t 9) (.t 10)⟩] (some []))
  .skip)), []⟩

theorem is279 : FnIs Tryz.prog 279 x279 := ⟨Tryz.f279, _, Tryz.func279, by kernel_rfl, rfl, by kernel_rfl, by decide, by kernel_rfl⟩

/-- (*cloisonne/seglog.Writer).sector -/
def x280 : XDecl := .code ⟨1, 
 (.seq (.ops [⟨(some 2), none, .move (.c (.int .i64 0))⟩] (some [0]))
 (.seq (.opsd [(0, 0, ⟨(some 6), none, .move (.t 0)⟩),
   (1, 1, ⟨(some 7), none, .nilCheck (.t 6)⟩),
   (2, 3, ⟨(some 8), none, .fieldAddr 2 (.t 7)⟩),
   (3, 7, ⟨(some 9), none, .load false 1 (.t 8)⟩),
   (4, 0, ⟨(some 10), none, .move (.t 0)⟩),
   (5, 16, ⟨(some 11), none, .nilCheck (.t 10)⟩),
   (6, 48, ⟨(some 12), none, .fieldAddr 3 (.t 11)⟩),
   (7, 112, ⟨(some 13), none, .load false 1 (.t 12)⟩),
   (8, 0, ⟨(some 14), none, .move (.t 0)⟩),
   (9, 256, ⟨(some 15), none, .nilCheck (.t 14)⟩),
   (10, 768, ⟨(some 16), none, .fieldAddr 5 (.t 15)⟩),
   (11, 1792, ⟨(some 17), none, .load false 1 (.t 16)⟩),
   (12, 4080, ⟨(some 18), none, .bin .add 3 (.t 13) (.t 17)⟩),
   (13, 0, ⟨(some 19), none, .move (.t 0)⟩),
   (14, 8192, ⟨(some 20), none, .nilCheck (.t 19)⟩),
   (15, 24576, ⟨(some 21), none, .fieldAddr 0 (.t 20)⟩),
   (16, 57344, ⟨(some 22), none, .load false 1 (.t 21)⟩),
   (17, 122880, ⟨(some 23), none, .nilCheck (.t 22)⟩),
   (18, 253952, ⟨(some 24), none, .fieldAddr 5 (.t 23)⟩),
   (19, 516096, ⟨(some 25), none, .load false 1 (.t 24)⟩),
   (20, 0, ⟨(some 26), none, .move (.t 0)⟩),
   (21, 1048576, ⟨(some 27), none, .nilCheck (.t 26)⟩),
   (22, 3145728, ⟨(some 28), none, .fieldAddr 5 (.t 27)⟩),
   (23, 7340032, ⟨(some 29), none, .load false 1 (.t 28)⟩),
   (24, 0, ⟨(some 30), none, .move (.t 0)⟩),
   (25, 16777216, ⟨(some 31), none, .nilCheck (.t 30)⟩),
   (26, 50331648, ⟨(some 32), none, .fieldAddr 4 (.t 31)⟩),
   (27, 117440512, ⟨(some 33), none, .load false 1 (.t 32)⟩),
   (28, 251658240, ⟨(some 34), none, .len (.t 33)⟩),
   (29, 536870911, ⟨(some 35), none, .build [(.int .i64 0), (.int .i64 0), (.int .i64 0), (.int .i64 0), (.int .i64 0)] [(0, 1), (1, 1), (2, 1), (3, 1), (4, 1)] [(0, (.t 9)), (1, (.t 18)), (2, (.t 25)), (3, (.t 29)), (4, (.t 34))]⟩),
   (30, 0, ⟨(some 3), none, .alloc [(.int .i64 0), (.int .i64 0), (.int .i64 0), (.int .i64 0), (.int .i64 0)]⟩),
   (31, 2147483647, ⟨none, none, .store 5 (.t 3) (.t 35)⟩)] (some [0, 3]))
 (.seq (.opsd [(0, 0, ⟨(some 37), none, .load true 5 (.t 3)⟩),
   (1, 0, ⟨(some 38), none, .move (.t 0)⟩),
   (2, 2, ⟨(some 39), none, .nilCheck (.t 38)⟩),
   (3, 6, ⟨(some 40), none, .fieldAddr 4 (.t 39)⟩),
   (4, 14, ⟨(some 41), none, .load false 1 (.t 40)⟩),
   (5, 0, ⟨(some 42), none, .move (.t 0)⟩),
   (6, 32, ⟨(some 43), none, .nilCheck (.t 42)⟩),
   (7, 96, ⟨(some 44), none, .fieldAddr 5 (.t 43)⟩),
   (8, 224, ⟨(some 45), none, .load false 1 (.t 44)⟩),
   (9, 510, ⟨(some 46), none, .indexAddr 1 (.t 41) (.t 45)⟩),
   (10, 1022, ⟨(some 47), none, .load false 1 (.t 46)⟩),
   (11, 2047, ⟨(some 48), none, .call (.c (.func (.func 367) #[] #[])) [(.t 37), (.t 47)]⟩),
   (12, 4095, ⟨(some 36), none, .move (.t 48)⟩),
   (13, 8191, ⟨(some 49), none, .extract (.t 36) 0⟩),
   (14, 8191, ⟨(some 50), none, .extract (.t 36) 1⟩),
   (15, 16383, ⟨(some 4), none, .move (.t 49)⟩),
   (16, 65535, ⟨(some 5), none, .move (.t 50)⟩)] (some [0, 3, 4, 5]))
 (.seq (.seq (.ops [⟨(some 51), none, .move (.t 5)⟩,
   ⟨(some 52), none, .bin .neq 32 (.t 51) (.c (.int .i64 0))⟩] (some [0, 3, 4, 5, 52]))
 (.cond (.t 52)
  (.seq (.ops [⟨(some 53), none, .move (.t 5)⟩,
    ⟨(some 2), none, .move (.t 53)⟩] (some [2]))
  .ret)
  .skip))
 (.seq (.opsd [(0, 0, ⟨(some 54), none, .move (.t 0)⟩),
   (1, 1, ⟨(some 55), none, .nilCheck (.t 54)⟩),
   (2, 3, ⟨(some 56), none, .fieldAddr 0 (.t 55)⟩),
   (3, 7, ⟨(some 57), none, .load false 1 (.t 56)⟩),
   (4, 15, ⟨(some 58), none, .nilCheck (.t 57)⟩),
   (5, 31, ⟨(some 59), none, .fieldAddr 0 (.t 58)⟩),
   (6, 63, ⟨(some 60), none, .load false 1 (.t 59)⟩),
   (7, 0, ⟨(some 61), none, .move (.t 0)⟩),
   (8, 128, ⟨(some 62), none, .nilCheck (.t 61)⟩),
   (9, 384, ⟨(some 63), none, .fieldAddr 1 (.t 62)⟩),
   (10, 896, ⟨(some 64), none, .load false 1 (.t 63)⟩),
   (11, 0, ⟨(some 65), none, .fieldAddr 1 (.t 3)⟩),
   (12, 2048, ⟨(some 66), none, .load false 1 (.t 65)⟩),
   (13, 0, ⟨(some 67), none, .move (.t 4)⟩),
   (14, 16383, ⟨(some 68), none, .call (.c (.func (.func 368) #[] #[])) [(.t 60), (.t 64), (.t 66), (.t 67)]⟩),
   (15, 32767, ⟨(some 2), none, .move (.t 68)⟩)] (some [2]))
 .ret))))), [.tmp 2]⟩

theorem is280 : FnIs Tryz.prog 280 x280 := ⟨Tryz.f280, _, Tryz.func280, by kernel_rfl, rfl, by kernel_rfl, by decide, by kernel_rfl⟩

/-- (*cloisonne/extent.World).Flush -/
def x281 : XDecl := .code ⟨2, 
 (.seq (.ops [⟨(some 4), none, .move (.c (.int .i64 0))⟩] (some [0, 1]))
 (.seq (.seq (.ops [⟨(some 8), none, .move (.t 0)⟩,
   ⟨(some 9), none, .move (.t 1)⟩,
   ⟨(some 10), none, .call (.c (.func (.func 369) #[] #[])) [(.t 8), (.t 9), (.c (.int .i64 0))]⟩,
   ⟨(some 5), none, .move (.t 10)⟩] (some [0, 1, 5]))
 (.seq (.ops [⟨(some 11), none, .move (.t 5)⟩,
   ⟨(some 12), none, .bin .neq 32 (.t 11) (.c (.int .i64 0))⟩] (some [0, 1, 5, 12]))
 (.cond (.t 12)
  (.seq (.ops [⟨(some 13), none, .move (.t 5)⟩,
    ⟨(some 4), none, .move (.t 13)⟩] (some [4]))
  .ret)
  .skip)))
 (.seq (.seq (.ops [⟨(some 14), none, .move (.t 0)⟩,
   ⟨(some 15), none, .nilCheck (.t 14)⟩,
   ⟨(some 16), none, .fieldAddr 3 (.t 15)⟩,
   ⟨(some 17), none, .load false 1 (.t 16)⟩,
   ⟨(some 18), none, .move (.t 1)⟩,
   ⟨(some 19), none, .indexAddr 1 (.t 17) (.t 18)⟩,
   ⟨(some 20), none, .load false 1 (.t 19)⟩,
   ⟨(some 21), none, .mapRange (.t 20)⟩] (some [0, 1, 21]))
 (.block 0
  (.loop
   (.seq (.ops [⟨(some 22), none, .mapNext (.t 21)⟩,
     ⟨(some 23), none, .extract (.t 22) 0⟩] (some [0, 1, 21, 23]))
   (.seq (.cond (.t 23)
    .skip
    (.exit 0))
   (.block 1
    (.seq (.ops [⟨(some 24), none, .mapEntry (.t 21)⟩,
      ⟨(some 25), none, .extract (.t 24) 0⟩,
      ⟨(some 26), none, .extract (.t 24) 1⟩,
      ⟨(some 6), none, .move (.t 25)⟩,
      ⟨(some 7), none, .move (.t 26)⟩] (some [0, 1, 6, 7, 21]))
    (.ops [⟨(some 27), none, .move (.t 0)⟩,
      ⟨(some 28), none, .nilCheck (.t 27)⟩,
      ⟨(some 29), none, .fieldAddr 2 (.t 28)⟩,
      ⟨(some 30), none, .load false 1 (.t 29)⟩,
      ⟨(some 31), none, .move (.t 1)⟩,
      ⟨(some 32), none, .indexAddr 1 (.t 30) (.t 31)⟩,
      ⟨(some 33), none, .load false 1 (.t 32)⟩,
      ⟨(some 34), none, .move (.t 6)⟩,
      ⟨(some 35), none, .move (.t 7)⟩,
      ⟨(some 36), none, .indexAddr 1 (.t 33) (.t 34)⟩,
      ⟨none, none, .store 1 (.t 36) (.t 35)⟩] (some [0, 1, 21])))))))))
 (.seq (.ops [⟨(some 37), none, .move (.t 0)⟩,
   ⟨(some 38), none, .nilCheck (.t 37)⟩,
   ⟨(some 39), none, .fieldAddr 3 (.t 38)⟩,
   ⟨(some 40), none, .load false 1 (.t 39)⟩,
   ⟨(some 41), none, .move (.t 1)⟩,
   ⟨(some 42), none, .indexAddr 1 (.t 40) (.t 41)⟩,
   ⟨(some 43), none, .load false 1 (.t 42)⟩,
   ⟨none, none, .mapClear (.t 43)⟩] (some []))
 (.seq (.ops [⟨(some 4), none, .move (.c (.int .i64 0))⟩] (some [4]))
 .ret))))), [.tmp 4]⟩

theorem is281 : FnIs Tryz.prog 281 x281 := ⟨Tryz.f281, _, Tryz.func281, by kernel_rfl, rfl, by kernel_rfl, by decide, by kernel_rfl⟩

/-- (*cloisonne/seglog.Writer).install -/
def x282 : XDecl := .code ⟨1, 
 (.seq (.ops [⟨(some 2), none, .move (.t 0)⟩,
   ⟨(some 3), none, .nilCheck (.t 2)⟩,
   ⟨(some 4), none, .fieldAddr 6 (.t 3)⟩,
   ⟨none, none, .store 1 (.t 4) (.c (.bool true))⟩] (some [0]))
 (.seq (.ops [⟨(some 5), none, .move (.t 0)⟩,
   ⟨(some 6), none, .nilCheck (.t 5)⟩,
   ⟨(some 7), none, .fieldAddr 0 (.t 6)⟩,
   ⟨(some 8), none, .load false 1 (.t 7)⟩,
   ⟨(some 9), none, .nilCheck (.t 8)⟩,
   ⟨(some 10), none, .fieldAddr 6 (.t 9)⟩,
   ⟨none, none, .store 1 (.t 10) (.c (.pointer none))⟩] (some [0]))
 (.opsd [(0, 0, ⟨(some 11), none, .move (.t 0)⟩),
   (1, 1, ⟨(some 12), none, .nilCheck (.t 11)⟩),
   (2, 3, ⟨(some 13), none, .fieldAddr 0 (.t 12)⟩),
   (3, 7, ⟨(some 14), none, .load false 1 (.t 13)⟩),
   (4, 0, ⟨(some 15), none, .move (.t 0)⟩),
   (5, 16, ⟨(some 16), none, .nilCheck (.t 15)⟩),
   (6, 48, ⟨(some 17), none, .fieldAddr 0 (.t 16)⟩),
   (7, 112, ⟨(some 18), none, .load false 1 (.t 17)⟩),
   (8, 0, ⟨(some 19), none, .move (.t 0)⟩),
   (9, 256, ⟨(some 20), none, .nilCheck (.t 19)⟩),
   (10, 768, ⟨(some 21), none, .fieldAddr 0 (.t 20)⟩),
   (11, 1792, ⟨(some 22), none, .load false 1 (.t 21)⟩),
   (12, 0, ⟨(some 23), none, .move (.t 0)⟩),
   (13, 4096, ⟨(some 24), none, .nilCheck (.t 23)⟩),
   (14, 12288, ⟨(some 25), none, .fieldAddr 1 (.t 24)⟩),
   (15, 28672, ⟨(some 26), none, .load false 1 (.t 25)⟩),
   (16, 0, ⟨(some 27), none, .move (.t 0)⟩),
   (17, 65536, ⟨(some 28), none, .nilCheck (.t 27)⟩),
   (18, 196608, ⟨(some 29), none, .fieldAddr 2 (.t 28)⟩),
   (19, 458752, ⟨(some 30), none, .load false 1 (.t 29)⟩),
   (20, 0, ⟨(some 31), none, .move (.t 0)⟩),
   (21, 1048576, ⟨(some 32), none, .nilCheck (.t 31)⟩),
   (22, 3145728, ⟨(some 33), none, .fieldAddr 3 (.t 32)⟩),
   (23, 7340032, ⟨(some 34), none, .load false 1 (.t 33)⟩),
   (24, 0, ⟨(some 35), none, .move (.t 0)⟩),
   (25, 16777216, ⟨(some 36), none, .nilCheck (.t 35)⟩),
   (26, 50331648, ⟨(some 37), none, .fieldAddr 4 (.t 36)⟩),
   (27, 117440512, ⟨(some 38), none, .load false 1 (.t 37)⟩),
   (28, 251658240, ⟨(some 39), none, .len (.t 38)⟩),
   (29, 535822336, ⟨(some 40), none, .bin .add 3 (.t 34) (.t 39)⟩),
   (30, 268435455, ⟨(some 41), none, .nilCheck (.t 14)⟩),
   (31, 1342177279, ⟨(some 42), none, .fieldAddr 2 (.t 41)⟩),
   (32, 3489660927, ⟨none, none, .store 1 (.t 42) (.t 26)⟩),
   (33, 7784628223, ⟨(some 43), none, .nilCheck (.t 18)⟩),
   (34, 16374562815, ⟨(some 44), none, .fieldAddr 3 (.t 43)⟩),
   (35, 33554431999, ⟨none, none, .store 1 (.t 44) (.t 30)⟩),
   (36, 68719476735, ⟨(some 45), none, .nilCheck (.t 22)⟩),
   (37, 137438953471, ⟨(some 46), none, .fieldAddr 4 (.t 45)⟩),
   (38, 274877906943, ⟨none, none, .store 1 (.t 46) (.t 40)⟩)] (some [])))), []⟩

theorem is282 : FnIs Tryz.prog 282 x282 := ⟨Tryz.f282, _, Tryz.func282, by kernel_rfl, rfl, by kernel_rfl, by decide, by kernel_rfl⟩

/-- cmp.Or[int] -/
def x283 : XDecl := .code ⟨1, 
 (.seq (.ops [⟨(some 2), none, .move (.c (.int .i64 0))⟩] (some [0]))
 (.seq (.ops [⟨(some 3), none, .move (.c (.int .i64 0))⟩] (some [0, 3]))
 (.seq (.seq (.ops [⟨(some 6), none, .move (.t 0)⟩,
   ⟨(some 7), none, .len (.t 6)⟩,
   ⟨(some 8), none, .move (.c (.int .i64 0))⟩] (some [3, 6, 7, 8]))
 (.block 0
  (.loop
   (.seq (.ops [⟨(some 9), none, .bin .lss 3 (.t 8) (.t 7)⟩] (some [3, 6, 7, 8, 9]))
   (.seq (.cond (.t 9)
    .skip
    (.exit 0))
   (.seq (.block 1
    (.seq (.ops [⟨(some 10), none, .indexAddr 1 (.t 6) (.t 8)⟩,
      ⟨(some 11), none, .load false 1 (.t 10)⟩,
      ⟨(some 5), none, .move (.t 11)⟩] (some [3, 5, 6, 7, 8]))
    (.seq (.ops [⟨(some 12), none, .move (.t 5)⟩,
      ⟨(some 13), none, .move (.t 3)⟩,
      ⟨(some 14), none, .bin .neq 3 (.t 12) (.t 13)⟩] (some [3, 5, 6, 7, 8, 14]))
    (.cond (.t 14)
     (.seq (.ops [⟨(some 15), none, .move (.t 5)⟩,
       ⟨(some 2), none, .move (.t 15)⟩] (some [2]))
     .ret)
     .skip))))
   (.ops [⟨(some 16), none, .bin .add 3 (.t 8) (.c (.int .i64 1))⟩,
     ⟨(some 8), none, .move (.t 16)⟩] (some [3, 6, 7, 8]))))))))
 (.seq (.ops [⟨(some 17), none, .move (.t 3)⟩,
   ⟨(some 2), none, .move (.t 17)⟩] (some [2]))
 .ret)))), [.tmp 2]⟩

theorem is283 : FnIs Tryz.prog 283 x283 := ⟨Tryz.f283, _, Tryz.func283, by kernel_rfl, rfl, by kernel_rfl, by decide, by kernel_rfl⟩

/-- slices.Compare[[]uint64,uint64] -/
def x284 : XDecl := .code ⟨2, 
 (.seq (.ops [⟨(some 4), none, .move (.c (.int .i64 0))⟩] (some [0, 1]))
 (.seq (.seq (.ops [⟨(some 9), none, .move (.t 0)⟩,
   ⟨(some 10), none, .len (.t 9)⟩,
   ⟨(some 11), none, .move (.c (.int .i64 0))⟩] (some [0, 1, 9, 10, 11]))
 (.block 0
  (.loop
   (.seq (.ops [⟨(some 12), none, .bin .lss 3 (.t 11) (.t 10)⟩] (some [0, 1, 9, 10, 11, 12]))
   (.seq (.cond (.t 12)
    .skip
    (.exit 0))
   (.seq (.block 1
    (.seq (.ops [⟨(some 13), none, .move (.t 11)⟩,
      ⟨(some 14), none, .indexAddr 1 (.t 9) (.t 11)⟩,
      ⟨(some 15), none, .load false 1 (.t 14)⟩,
      ⟨(some 5), none, .move (.t 13)⟩,
      ⟨(some 6), none, .move (.t 15)⟩] (some [0, 1, 5, 6, 9, 10, 11]))
    (.seq (.seq (.ops [⟨(some 16), none, .move (.t 5)⟩,
      ⟨(some 17), none, .move (.t 1)⟩,
      ⟨(some 18), none, .len (.t 17)⟩,
      ⟨(some 19), none, .bin .geq 3 (.t 16) (.t 18)⟩] (some [0, 1, 5, 6, 9, 10, 11, 19]))
    (.cond (.t 19)
     (.seq (.ops [⟨(some 4), none, .move (.c (.int .i64 1))⟩] (some [4]))
     .ret)
     .skip))
    (.seq (.ops [⟨(some 20), none, .move (.t 1)⟩,
      ⟨(some 21), none, .move (.t 5)⟩,
      ⟨(some 22), none, .indexAddr 1 (.t 20) (.t 21)⟩,
      ⟨(some 23), none, .load false 1 (.t 22)⟩,
      ⟨(some 7), none, .move (.t 23)⟩] (some [0, 1, 6, 7, 9, 10, 11]))
    (.seq (.ops [⟨(some 24), none, .move (.t 6)⟩,
      ⟨(some 25), none, .move (.t 7)⟩,
      ⟨(some 26), none, .call (.c (.func (.func 370) #[] #[])) [(.t 24), (.t 25)]⟩,
      ⟨(some 8), none, .move (.t 26)⟩] (some [0, 1, 8, 9, 10, 11]))
    (.seq (.ops [⟨(some 27), none, .move (.t 8)⟩,
      ⟨(some 28), none, .bin .neq 3 (.t 27) (.c (.int .i64 0))⟩] (some [0, 1, 8, 9, 10, 11, 28]))
    (.cond (.t 28)
     (.seq (.ops [⟨(some 29), none, .move (.t 8)⟩,
       ⟨(some 4), none, .move (.t 29)⟩] (some [4]))
     .ret)
     .skip)))))))
   (.ops [⟨(some 30), none, .bin .add 3 (.t 11) (.c (.int .i64 1))⟩,
     ⟨(some 11), none, .move (.t 30)⟩] (some [0, 1, 9, 10, 11]))))))))
 (.seq (.seq (.ops [⟨(some 31), none, .move (.t 0)⟩,
   ⟨(some 32), none, .len (.t 31)⟩,
   ⟨(some 33), none, .move (.t 1)⟩,
   ⟨(some 34), none, .len (.t 33)⟩,
   ⟨(some 35), none, .bin .lss 3 (.t 32) (.t 34)⟩] (some [35]))
 (.cond (.t 35)
  (.seq (.ops [⟨(some 4), none, .move (.c (.int .i64 (-1)))⟩] (some [4]))
  .ret)
  .skip))
 (.seq (.ops [⟨(some 4), none, .move (.c (.int .i64 0))⟩] (some [4]))
 .ret)))), [.tmp 4]⟩

theorem is284 : FnIs Tryz.prog 284 x284 := ⟨Tryz.f284, _, Tryz.func284, by kernel_rfl, rfl, by kernel_rfl, by decide, by kernel_rfl⟩

/-- cloisonne/room.within -/
def x285 : XDecl := .code ⟨3, 
 (.seq (.ops [⟨(some 6), none, .move (.c (.bool false))⟩] (some [0, 1, 2]))
 (.seq (.ops [⟨(some 7), none, .move (.t 0)⟩,
   ⟨(some 8), none, .move (.t 1)⟩,
   ⟨(some 9), none, .bin .geq 3 (.t 7) (.t 8)⟩,
   ⟨(some 10), none, .move (.t 9)⟩,
   ⟨(some 11), (some (10, true)), .move (.t 0)⟩,
   ⟨(some 12), (some (10, true)), .move (.t 2)⟩,
   ⟨(some 13), (some (10, true)), .bin .leq 3 (.t 11) (.t 12)⟩,
   ⟨(some 14), none, .pick (.t 10) (.t 13) (.c (.bool false))⟩,
   ⟨(some 6), none, .move (.t 14)⟩] (some [6]))
 .ret)), [.tmp 6]⟩

theorem is285 : FnIs Tryz.prog 285 x285 := ⟨Tryz.f285, _, Tryz.func285, by kernel_rfl, rfl, by kernel_rfl, by decide, by kernel_rfl⟩

/-- slices.IndexFunc[[]cloisonne/api.Room,cloisonne/api.Room] -/
def x286 : XDecl := .code ⟨2, 
 (.seq (.ops [⟨(some 4), none, .move (.c (.int .i64 0))⟩] (some [0, 1]))
 (.seq (.seq (.ops [⟨(some 6), none, .move (.t 0)⟩,
   ⟨(some 7), none, .len (.t 6)⟩,
   ⟨(some 8), none, .move (.c (.int .i64 0))⟩] (some [0, 1, 7, 8]))
 (.block 0
  (.loop
   (.seq (.ops [⟨(some 9), none, .bin .lss 3 (.t 8) (.t 7)⟩] (some [0, 1, 7, 8, 9]))
   (.seq (.cond (.t 9)
    .skip
    (.exit 0))
   (.seq (.block 1
    (.seq (.ops [⟨(some 10), none, .move (.t 8)⟩,
      ⟨(some 5), none, .move (.t 10)⟩] (some [0, 1, 5, 7, 8]))
    (.seq (.ops [⟨(some 11), none, .move (.t 1)⟩,
      ⟨(some 12), none, .move (.t 0)⟩,
      ⟨(some 13), none, .move (.t 5)⟩,
      ⟨(some 14), none, .indexAddr 4 (.t 12) (.t 13)⟩,
      ⟨(some 15), none, .load true 4 (.t 14)⟩,
      ⟨(some 16), none, .call (.t 11) [(.t 15)]⟩] (some [0, 1, 5, 7, 8, 16]))
    (.cond (.t 16)
     (.seq (.ops [⟨(some 17), none, .move (.t 5)⟩,
       ⟨(some 4), none, .move (.t 17)⟩] (some [4]))
     .ret)
     .skip))))
   (.ops [⟨(some 18), none, .bin .add 3 (.t 8) (.c (.int .i64 1))⟩,
     ⟨(some 8), none, .move (.t 18)⟩] (some [0, 1, 7, 8]))))))))
 (.seq (.ops [⟨(some 4), none, .move (.c (.int .i64 (-1)))⟩] (some [4]))
 .ret))), [.tmp 4]⟩

theorem is286 : FnIs Tryz.prog 286 x286 := ⟨Tryz.f286, _, Tryz.func286, by kernel_rfl, rfl, by kernel_rfl, by decide, by kernel_rfl⟩

/-- cloisonne/seglog.look -/
def x287 : XDecl := .code ⟨2, 
 (.seq (.ops [⟨(some 4), none, .alloc [(.slice none 0 0), (.slice none 0 0), (.slice none 0 0), (.int .i64 0)]⟩] (some [0, 1, 4]))
 (.seq (.ops [⟨(some 5), none, .alloc [(.slice none 0 0), (.slice none 0 0), (.slice none 0 0), (.int .i64 0)]⟩] (some [0, 1, 4, 5]))
 (.seq (.seq (.ops [⟨(some 12), none, .move (.t 0)⟩,
   ⟨(some 13), none, .call (.c (.func (.func 156) #[] #[])) [(.t 12)]⟩,
   ⟨(some 14), none, .move (.c (.int .i64 0))⟩] (some [0, 1, 4, 5, 13, 14]))
 (.block 0
  (.loop
   (.seq (.ops [⟨(some 15), none, .bin .lss 3 (.t 14) (.t 13)⟩] (some [0, 1, 4, 5, 13, 14, 15]))
   (.seq (.cond (.t 15)
    .skip
    (.exit 0))
   (.seq (.block 1
    (.seq (.ops [⟨(some 16), none, .move (.t 14)⟩,
      ⟨(some 6), none, .move (.t 16)⟩] (some [0, 1, 4, 5, 6, 13, 14]))
    (.seq (.ops [⟨(some 18), none, .move (.t 0)⟩,
      ⟨(some 19), none, .move (.t 1)⟩,
      ⟨(some 20), none, .move (.t 6)⟩,
      ⟨(some 21), none, .call (.c (.func (.func 371) #[] #[])) [(.t 18), (.t 19), (.t 20)]⟩,
      ⟨(some 17), none, .move (.t 21)⟩,
      ⟨(some 22), none, .extract (.t 17) 0⟩,
      ⟨(some 23), none, .extract (.t 17) 1⟩,
      ⟨(some 7), none, .move (.t 22)⟩,
      ⟨(some 8), none, .move (.t 23)⟩] (some [0, 1, 4, 5, 7, 13, 14]))
    (.seq (.ops [⟨(some 25), none, .move (.t 7)⟩,
      ⟨(some 26), none, .call (.c (.func (.func 372) #[] #[])) [(.t 25)]⟩,
      ⟨(some 24), none, .move (.t 26)⟩,
      ⟨(some 27), none, .extract (.t 24) 0⟩,
      ⟨(some 28), none, .extract (.t 24) 1⟩,
      ⟨(some 29), none, .extract (.t 24) 2⟩,
      ⟨(some 9), none, .alloc [(.int .i64 0), (.int .i64 0), (.int .i64 0), (.int .i64 0), (.int .i64 0)]⟩,
      ⟨none, none, .store 5 (.t 9) (.t 27)⟩,
      ⟨(some 10), none, .move (.t 28)⟩,
      ⟨(some 11), none, .move (.t 29)⟩] (some [0, 1, 4, 5, 9, 10, 11, 13, 14]))
    (.seq (.ops [⟨(some 30), none, .fieldAddr 0 (.t 5)⟩,
      ⟨(some 31), none, .load false 1 (.t 30)⟩,
      ⟨(some 32), none, .load true 5 (.t 9)⟩,
      ⟨(some 33), none, .buildSlice [(.int .i64 0), (.int .i64 0), (.int .i64 0), (.int .i64 0), (.int .i64 0)] 5 1 [(0, (.t 32))]⟩,
      ⟨(some 34), none, .append 5 40 [(.int .i64 0), (.int .i64 0), (.int .i64 0), (.int .i64 0), (.int .i64 0)] (.t 31) (.t 33)⟩,
      ⟨(some 35), none, .fieldAddr 0 (.t 5)⟩,
      ⟨none, none, .store 1 (.t 35) (.t 34)⟩] (some [0, 1, 4, 5, 9, 10, 11, 13, 14]))
    (.seq (.ops [⟨(some 36), none, .fieldAddr 1 (.t 5)⟩,
      ⟨(some 37), none, .load false 1 (.t 36)⟩,
      ⟨(some 38), none, .move (.t 10)⟩,
      ⟨(some 39), none, .buildSlice [(.string .empty)] 1 1 [(0, (.t 38))]⟩,
      ⟨(some 40), none, .append 1 16 [(.string .empty)] (.t 37) (.t 39)⟩,
      ⟨(some 41), none, .fieldAddr 1 (.t 5)⟩,
      ⟨none, none, .store 1 (.t 41) (.t 40)⟩] (some [0, 1, 4, 5, 9, 11, 13, 14]))
    (.seq (.ops [⟨(some 42), none, .fieldAddr 2 (.t 5)⟩,
      ⟨(some 43), none, .load false 1 (.t 42)⟩,
      ⟨(some 44), none, .move (.t 11)⟩,
      ⟨(some 45), none, .bin .eql 32 (.t 44) (.c (.int .i64 0))⟩,
      ⟨(some 46), none, .buildSlice [(.bool false)] 1 1 [(0, (.t 45))]⟩,
      ⟨(some 47), none, .append 1 1 [(.bool false)] (.t 43) (.t 46)⟩,
      ⟨(some 48), none, .fieldAddr 2 (.t 5)⟩,
      ⟨none, none, .store 1 (.t 48) (.t 47)⟩] (some [0, 1, 4, 5, 9, 13, 14]))
    (.ops [⟨(some 49), none, .fieldAddr 3 (.t 5)⟩,
      ⟨(some 50), none, .load false 1 (.t 49)⟩,
      ⟨(some 51), none, .fieldAddr 2 (.t 9)⟩,
      ⟨(some 52), none, .load false 1 (.t 51)⟩,
      ⟨(some 53), none, .calcB .max [3, 3] 3 [(.t 50), (.t 52)]⟩,
      ⟨(some 54), none, .fieldAddr 3 (.t 5)⟩,
      ⟨none, none, .store 1 (.t 54) (.t 53)⟩] (some [0, 1, 4, 5, 13, 14])))))))))
   (.ops [⟨(some 55), none, .bin .add 3 (.t 14) (.c (.int .i64 1))⟩,
     ⟨(some 14), none, .move (.t 55)⟩] (some [0, 1, 4, 5, 13, 14]))))))))
 (.seq (.ops [⟨(some 56), none, .load true 4 (.t 5)⟩,
   ⟨none, none, .store 4 (.t 4) (.t 56)⟩] (some [4]))
 .ret)))), [.cell true 4 4]⟩

theorem is287 : FnIs Tryz.prog 287 x287 := ⟨Tryz.f287, _, Tryz.func287, by kernel_rfl, rfl, by kernel_rfl, by decide, by kernel_rfl⟩

/-- cloisonne/record.tell -/
def x290 : XDecl := .code ⟨2, 
 (.seq (.ops [⟨(some 4), none, .move (.c (.string .empty))⟩] (some [0, 1]))
 (.seq (.ops [⟨(some 8), none, .move (.t 0)⟩,
   ⟨(some 9), none, .move (.t 1)⟩,
   ⟨(some 10), none, .call (.c (.func (.func 126) #[] #[])) [(.t 8), (.t 9)]⟩,
   ⟨(some 7), none, .move (.t 10)⟩,
   ⟨(some 11), none, .extract (.t 7) 0⟩,
   ⟨(some 12), none, .extract (.t 7) 1⟩,
   ⟨(some 5), none, .move (.t 11)⟩,
   ⟨(some 6), none, .move (.t 12)⟩] (some [5, 6]))
 (.seq (.ops [⟨(some 13), none, .move (.t 6)⟩,
   ⟨(some 14), none, .bin .eql 32 (.t 13) (.c (.int .i64 0))⟩,
   ⟨(some 15), none, .call (.c (.func (.func 300) #[] #[])) [(.t 14)]⟩] (some [5]))
 (.seq (.ops [⟨(some 16), none, .move (.t 5)⟩,
   ⟨(some 4), none, .move (.t 16)⟩] (some [4]))
 .ret)))), [.tmp 4]⟩

theorem is290 : FnIs Tryz.prog 290 x290 := ⟨Tryz.f290, _, Tryz.func290, by kernel_rfl, rfl, by kernel_rfl, by decide, by kernel_rfl⟩

/-- cloisonne/record.number -/
def x291 : XDecl := .code ⟨1, 
 (.seq (.ops [⟨(some 2), none, .alloc [(.int .u64 0), (.string .empty), (.slice none 0 0), (.slice none 0 0)]⟩] (some [0, 2]))
 (.seq (.ops [⟨(some 3), none, .move (.t 0)⟩,
   ⟨(some 4), none, .conv 3 77 (.t 3)⟩,
   ⟨(some 5), none, .build [(.int .u64 0), (.string .empty), (.slice none 0 0), (.slice none 0 0)] [(0, 1), (1, 1), (2, 1), (3, 1)] [(0, (.t 4))]⟩,
   ⟨none, none, .store 4 (.t 2) (.t 5)⟩] (some [2]))
 .ret)), [.cell true 4 2]⟩

theorem is291 : FnIs Tryz.prog 291 x291 := ⟨Tryz.f291, _, Tryz.func291, by kernel_rfl, rfl, by kernel_rfl, by decide, by kernel_rfl⟩

/-- (*cloisonne/caps.Table).Tags -/
def x292 : XDecl := .code ⟨1, 
 (.seq (.ops [⟨(some 2), none, .move (.c (.int .i64 0))⟩] (some [0]))
 (.seq (.seq (.ops [⟨(some 3), none, .move (.t 0)⟩,
   ⟨(some 4), none, .isNil .ptr false (.t 3)⟩] (some [0, 4]))
 (.cond (.t 4)
  (.seq (.ops [⟨(some 2), none, .move (.c (.int .i64 0))⟩] (some [2]))
  .ret)
  .skip))
 (.seq (.ops [⟨(some 5), none, .move (.t 0)⟩,
   ⟨(some 6), none, .nilCheck (.t 5)⟩,
   ⟨(some 7), none, .fieldAddr 0 (.t 6)⟩,
   ⟨(some 8), none, .load false 1 (.t 7)⟩,
   ⟨(some 2), none, .move (.t 8)⟩] (some [2]))
 .ret))), [.tmp 2]⟩

theorem is292 : FnIs Tryz.prog 292 x292 := ⟨Tryz.f292, _, Tryz.func292, by kernel_rfl, rfl, by kernel_rfl, by decide, by kernel_rfl⟩

/-- (*cloisonne/caps.Table).Masks -/
def x293 : XDecl := .code ⟨1, 
 (.seq (.ops [⟨(some 2), none, .move (.c (.slice none 0 0))⟩,
   ⟨(some 3), none, .move (.c (.slice none 0 0))⟩] (some [0]))
 (.seq (.seq (.ops [⟨(some 8), none, .move (.t 0)⟩,
   ⟨(some 9), none, .isNil .ptr false (.t 8)⟩] (some [0, 9]))
 (.cond (.t 9)
  (.seq (.ops [⟨(some 2), none, .move (.c (.slice none 0 0))⟩,
    ⟨(some 3), none, .move (.c (.slice none 0 0))⟩] (some [2, 3]))
  .ret)
  .skip))
 (.seq (.ops [⟨(some 4), none, .move (.c (.slice none 0 0))⟩,
   ⟨(some 5), none, .move (.c (.slice none 0 0))⟩] (some [0, 4, 5]))
 (.seq (.seq (.ops [⟨(some 10), none, .move (.t 0)⟩,
   ⟨(some 11), none, .nilCheck (.t 10)⟩,
   ⟨(some 12), none, .fieldAddr 1 (.t 11)⟩,
   ⟨(some 13), none, .load false 1 (.t 12)⟩,
   ⟨(some 14), none, .len (.t 13)⟩,
   ⟨(some 15), none, .move (.c (.int .i64 0))⟩] (some [4, 5, 13, 14, 15]))
 (.block 0
  (.loop
   (.seq (.ops [⟨(some 16), none, .bin .lss 3 (.t 15) (.t 14)⟩] (some [4, 5, 13, 14, 15, 16]))
   (.seq (.cond (.t 16)
    .skip
    (.exit 0))
   (.seq (.block 1
    (.seq (.ops [⟨(some 17), none, .indexAddr 2 (.t 13) (.t 15)⟩,
      ⟨(some 18), none, .load true 2 (.t 17)⟩,
      ⟨(some 7), none, .alloc [(.int .u64 0), (.int .u64 0)]⟩,
      ⟨none, none, .store 2 (.t 7) (.t 18)⟩] (some [4, 5, 7, 13, 14, 15]))
    (.seq (.ops [⟨(some 19), none, .move (.t 4)⟩,
      ⟨(some 20), none, .fieldAddr 0 (.t 7)⟩,
      ⟨(some 21), none, .load false 1 (.t 20)⟩,
      ⟨(some 22), none, .buildSlice [(.int .u64 0)] 1 1 [(0, (.t 21))]⟩,
      ⟨(some 23), none, .append 1 8 [(.int .u64 0)] (.t 19) (.t 22)⟩,
      ⟨(some 4), none, .move (.t 23)⟩] (some [4, 5, 7, 13, 14, 15]))
    (.ops [⟨(some 24), none, .move (.t 5)⟩,
      ⟨(some 25), none, .fieldAddr 1 (.t 7)⟩,
      ⟨(some 26), none, .load false 1 (.t 25)⟩,
      ⟨(some 27), none, .buildSlice [(.int .u64 0)] 1 1 [(0, (.t 26))]⟩,
      ⟨(some 28), none, .append 1 8 [(.int .u64 0)] (.t 24) (.t 27)⟩,
      ⟨(some 5), none, .move (.t 28)⟩] (some [4, 5, 13, 14, 15])))))
   (.ops [⟨(some 29), none, .bin .add 3 (.t 15) (.c (.int .i64 1))⟩,
     ⟨(some 15), none, .move (.t 29)⟩] (some [4, 5, 13, 14, 15]))))))))
 (.seq (.ops [⟨(some 30), none, .move (.t 4)⟩,
   ⟨(some 31), none, .move (.t 5)⟩,
   ⟨(some 2), none, .move (.t 30)⟩,
   ⟨(some 3), none, .move (.t 31)⟩] (some [2, 3]))
 .ret))))), [.tmp 2, .tmp 3]⟩

theorem is293 : FnIs Tryz.prog 293 x293 := ⟨Tryz.f293, _, Tryz.func293, by kernel_rfl, rfl, by kernel_rfl, by decide, by kernel_rfl⟩

/-- (*cloisonne/seglog.Log).Base -/
def x294 : XDecl := .code ⟨2, 
 (.seq (.ops [⟨(some 4), none, .move (.c (.pointer none))⟩,
   ⟨(some 5), none, .move (.c (.int .i64 0))⟩] (some [0, 1]))
 (.seq (.block 0
  (.seq (.ops [⟨(some 7), none, .move (.t 0)⟩,
    ⟨(some 8), none, .isNil .ptr false (.t 7)⟩,
    ⟨(some 6), none, .move (.t 8)⟩] (some [0, 1, 6]))
  (.cond (.t 6)
   (.seq (.ops [⟨(some 4), none, .move (.c (.pointer none))⟩,
     ⟨(some 5), none, .move (.c (.int .i64 2))⟩] (some [4, 5]))
   .ret)
   (.seq (.ops [⟨(some 10), none, .move (.t 0)⟩,
     ⟨(some 11), none, .call (.c (.func (.func 374) #[] #[])) [(.t 10)]⟩,
     ⟨(some 9), none, .move (.t 11)⟩] (some [0, 1, 9]))
   (.cond (.t 9)
    (.seq (.ops [⟨(some 4), none, .move (.c (.pointer none))⟩,
      ⟨(some 5), none, .move (.c (.int .i64 9))⟩] (some [4, 5]))
    .ret)
    (.seq (.ops [⟨(some 13), none, .move (.t 0)⟩,
      ⟨(some 14), none, .move (.t 1)⟩,
      ⟨(some 15), none, .calcB .len [9] 3 [(.t 14)]⟩,
      ⟨(some 16), none, .call (.c (.func (.func 375) #[] #[])) [(.t 13), (.t 15), (.c (.int .i64 0))]⟩,
      ⟨(some 17), none, .un .not (.t 16)⟩,
      ⟨(some 12), none, .move (.t 17)⟩] (some [0, 1, 12]))
    (.cond (.t 12)
     (.seq (.ops [⟨(some 4), none, .move (.c (.pointer none))⟩,
       ⟨(some 5), none, .move (.c (.int .i64 16))⟩] (some [4, 5]))
     .ret)
     .skip)))))))
 (.seq (.opsd [(0, 0, ⟨(some 18), none, .move (.t 0)⟩),
   (1, 0, ⟨(some 19), none, .move (.t 0)⟩),
   (2, 2, ⟨(some 20), none, .nilCheck (.t 19)⟩),
   (3, 6, ⟨(some 21), none, .fieldAddr 1 (.t 20)⟩),
   (4, 14, ⟨(some 22), none, .load false 1 (.t 21)⟩),
   (5, 30, ⟨(some 23), none, .bin .mul 3 (.c (.int .i64 2)) (.t 22)⟩),
   (6, 62, ⟨(some 24), none, .bin .add 3 (.t 23) (.c (.int .i64 1))⟩),
   (7, 0, ⟨(some 25), none, .move (.t 0)⟩),
   (8, 128, ⟨(some 26), none, .nilCheck (.t 25)⟩),
   (9, 384, ⟨(some 27), none, .fieldAddr 2 (.t 26)⟩),
   (10, 896, ⟨(some 28), none, .load false 1 (.t 27)⟩),
   (11, 2046, ⟨(some 29), none, .bin .sub 3 (.t 24) (.t 28)⟩),
   (12, 0, ⟨(some 30), none, .move (.t 0)⟩),
   (13, 4096, ⟨(some 31), none, .nilCheck (.t 30)⟩),
   (14, 12288, ⟨(some 32), none, .fieldAddr 3 (.t 31)⟩),
   (15, 28672, ⟨(some 33), none, .load false 1 (.t 32)⟩),
   (16, 61440, ⟨(some 34), none, .bin .add 3 (.t 33) (.c (.int .i64 1))⟩),
   (17, 0, ⟨(some 35), none, .move (.t 1)⟩),
   (18, 131072, ⟨(some 36), none, .call (.c (.func (.func 377) #[] #[])) [(.t 35)]⟩),
   (19, 524286, ⟨(some 37), none, .build [(.pointer none), (.int .i64 0), (.int .i64 0), (.int .i64 0), (.slice none 0 0), (.int .i64 0), (.bool false)] [(0, 1), (1, 1), (2, 1), (3, 1), (4, 1), (5, 1), (6, 1)] [(1, (.t 29)), (2, (.t 34)), (4, (.t 36))]⟩),
   (20, 1048574, ⟨(some 38), none, .box (.t 37)⟩),
   (21, 2097151, ⟨(some 39), none, .call (.c (.func (.func 376) #[] #[])) [(.t 18), (.t 38)]⟩),
   (22, 4194303, ⟨(some 40), none, .extract (.t 39) 0⟩),
   (23, 4194303, ⟨(some 41), none, .extract (.t 39) 1⟩),
   (24, 16777215, ⟨(some 4), none, .move (.t 40)⟩),
   (25, 33554431, ⟨(some 5), none, .move (.t 41)⟩)] (some [4, 5]))
 .ret))), [.tmp 4, .tmp 5]⟩

theorem is294 : FnIs Tryz.prog 294 x294 := ⟨Tryz.f294, _, Tryz.func294, by kernel_rfl, rfl, by kernel_rfl, by decide, by kernel_rfl⟩

/-- (*cloisonne/caps.Table).People -/
def x296 : XDecl := .code ⟨1, 
 (.seq (.ops [⟨(some 2), none, .move (.c (.int .i64 0))⟩] (some [0]))
 (.seq (.seq (.ops [⟨(some 3), none, .move (.t 0)⟩,
   ⟨(some 4), none, .isNil .ptr false (.t 3)⟩] (some [0, 4]))
 (.cond (.t 4)
  (.seq (.ops [⟨(some 2), none, .move (.c (.int .i64 0))⟩] (some [2]))
  .ret)
  .skip))
 (.seq (.ops [⟨(some 5), none, .move (.t 0)⟩,
   ⟨(some 6), none, .nilCheck (.t 5)⟩,
   ⟨(some 7), none, .fieldAddr 1 (.t 6)⟩,
   ⟨(some 8), none, .load false 1 (.t 7)⟩,
   ⟨(some 9), none, .len (.t 8)⟩,
   ⟨(some 2), none, .move (.t 9)⟩] (some [2]))
 .ret))), [.tmp 2]⟩

theorem is296 : FnIs Tryz.prog 296 x296 := ⟨Tryz.f296, _, Tryz.func296, by kernel_rfl, rfl, by kernel_rfl, by decide, by kernel_rfl⟩

/-- cloisonne/room.open -/
def x299 : XDecl := .code ⟨2, 
 (.seq (.ops [⟨(some 2), none, .box (.t 0)⟩,
   ⟨(some 4), none, .move (.c (.pointer none))⟩,
   ⟨(some 5), none, .move (.c (.int .i64 0))⟩] (some [1, 2]))
 (.seq (.seq (.ops [⟨(some 8), none, .load true 4 (.t 2)⟩,
   ⟨(some 9), none, .call (.c (.func (.func 217) #[] #[])) [(.t 8)]⟩,
   ⟨(some 10), none, .un .not (.t 9)⟩,
   ⟨(some 11), none, .move (.t 10)⟩,
   ⟨(some 12), (some (11, false)), .move (.t 1)⟩,
   ⟨(some 13), (some (11, false)), .fieldAddr 3 (.t 2)⟩,
   ⟨(some 14), (some (11, false)), .load false 1 (.t 13)⟩,
   ⟨(some 15), (some (11, false)), .call (.c (.func (.func 285) #[] #[])) [(.t 12), (.c (.int .i64 0)), (.t 14)]⟩,
   ⟨(some 16), (some (11, false)), .un .not (.t 15)⟩,
   ⟨(some 17), none, .pick (.t 11) (.c (.bool true)) (.t 16)⟩] (some [1, 2, 17]))
 (.cond (.t 17)
  (.seq (.ops [⟨(some 4), none, .move (.c (.pointer none))⟩,
    ⟨(some 5), none, .move (.c (.int .i64 1))⟩] (some [4, 5]))
  .ret)
  .skip))
 (.seq (.ops [⟨(some 19), none, .fieldAddr 1 (.t 2)⟩,
   ⟨(some 20), none, .load false 1 (.t 19)⟩,
   ⟨(some 21), none, .move (.t 1)⟩,
   ⟨(some 22), none, .call (.c (.func (.func 383) #[] #[])) [(.t 20), (.t 21)]⟩,
   ⟨(some 18), none, .move (.t 22)⟩,
   ⟨(some 23), none, .extract (.t 18) 0⟩,
   ⟨(some 24), none, .extract (.t 18) 1⟩,
   ⟨(some 6), none, .move (.t 23)⟩,
   ⟨(some 7), none, .move (.t 24)⟩] (some [2, 6, 7]))
 (.seq (.seq (.ops [⟨(some 25), none, .move (.t 7)⟩,
   ⟨(some 26), none, .bin .neq 32 (.t 25) (.c (.int .i64 0))⟩] (some [2, 6, 7, 26]))
 (.cond (.t 26)
  (.seq (.ops [⟨(some 27), none, .move (.t 7)⟩,
    ⟨(some 4), none, .move (.c (.pointer none))⟩,
    ⟨(some 5), none, .move (.t 27)⟩] (some [4, 5]))
  .ret)
  .skip))
 (.seq (.ops [⟨(some 28), none, .fieldAddr 0 (.t 2)⟩,
   ⟨(some 29), none, .load false 1 (.t 28)⟩,
   ⟨(some 30), none, .call (.c (.func (.func 136) #[] #[])) [(.t 29)]⟩,
   ⟨(some 31), none, .fieldAddr 0 (.t 2)⟩,
   ⟨none, none, .store 1 (.t 31) (.t 30)⟩] (some [2, 6]))
 (.seq (.opsd [(0, 0, ⟨(some 32), none, .load true 4 (.t 2)⟩),
   (1, 0, ⟨(some 33), none, .move (.t 6)⟩),
   (2, 0, ⟨(some 34), none, .call (.c (.func (.func 384) #[] #[])) []⟩),
   (3, 7, ⟨(some 35), none, .build [(.slice none 0 0), (.int .i64 0), (.int .i64 0), (.int .i64 0), (.pointer none), (.pointer none), (.slice none 0 0), (.slice none 0 0), (.int .i64 0), (.int .i64 0), (.int .i64 0)] [(0, 4), (4, 1), (5, 1), (6, 1), (7, 1), (8, 1), (9, 1), (10, 1)] [(0, (.t 32)), (1, (.t 33)), (2, (.t 34))]⟩),
   (4, 15, ⟨(some 36), none, .box (.t 35)⟩),
   (5, 31, ⟨(some 4), none, .move (.t 36)⟩),
   (6, 63, ⟨(some 5), none, .move (.c (.int .i64 0))⟩)] (some [4, 5]))
 .ret)))))), [.tmp 4, .tmp 5]⟩

theorem is299 : FnIs Tryz.prog 299 x299 := ⟨Tryz.f299, _, Tryz.func299, by kernel_rfl, rfl, by kernel_rfl, by decide, by kernel_rfl⟩

/-- cloisonne/record.must -/
def x300 : XDecl := .code ⟨1, 
 (.seq (.ops [⟨(some 2), none, .move (.t 0)⟩,
   ⟨(some 3), none, .un .not (.t 2)⟩] (some [3]))
 (.cond (.t 3)
  (.ops [⟨(some 4), none, .build [] [] []⟩,
    ⟨(some 5), none, .makeIface 507 (.t 4)⟩,
    ⟨none, none, .fail⟩] (some []))
  .skip)), []⟩

theorem is300 : FnIs Tryz.prog 300 x300 := ⟨Tryz.f300, _, Tryz.func300, by kernel_rfl, rfl, by kernel_rfl, by decide, by kernel_rfl⟩

/-- cloisonne/record.based -/
def x301 : XDecl := .code ⟨2, 
 (.seq (.ops [⟨(some 4), none, .move (.c (.bool false))⟩] (some [0, 1]))
 (.seq (.seq (.ops [⟨(some 7), none, .move (.t 1)⟩,
   ⟨(some 8), none, .len (.t 7)⟩,
   ⟨(some 9), none, .move (.c (.int .i64 0))⟩] (some [0, 1, 7, 8, 9]))
 (.block 0
  (.loop
   (.seq (.ops [⟨(some 10), none, .bin .lss 3 (.t 9) (.t 8)⟩] (some [0, 1, 7, 8, 9, 10]))
   (.seq (.cond (.t 10)
    .skip
    (.exit 0))
   (.seq (.block 1
    (.seq (.ops [⟨(some 11), none, .move (.t 9)⟩,
      ⟨(some 12), none, .indexAddr 5 (.t 7) (.t 9)⟩,
      ⟨(some 13), none, .load true 5 (.t 12)⟩,
      ⟨(some 6), none, .alloc [(.string .empty), (.int .i64 0), (.bool false), (.string .empty), (.int .u64 0)]⟩,
      ⟨(some 5), none, .move (.t 11)⟩,
      ⟨none, none, .store 5 (.t 6) (.t 13)⟩] (some [0, 1, 5, 6, 7, 8, 9]))
    (.seq (.opsd [(0, 0, ⟨(some 14), none, .fieldAddr 0 (.t 6)⟩),
      (1, 1, ⟨(some 15), none, .load false 1 (.t 14)⟩),
      (2, 3, ⟨(some 16), none, .bin .eql 9 (.t 15) (.c (.string .empty))⟩),
      (3, 7, ⟨(some 17), none, .move (.t 16)⟩),
      (4, 15, ⟨(some 18), (some (17, false)), .fieldAddr 0 (.t 6)⟩),
      (5, 31, ⟨(some 19), (some (17, false)), .load false 1 (.t 18)⟩),
      (6, 63, ⟨(some 20), (some (17, false)), .calcB .len [9] 3 [(.t 19)]⟩),
      (7, 127, ⟨(some 21), (some (17, false)), .bin .gtr 3 (.t 20) (.c (.int .i64 32))⟩),
      (8, 255, ⟨(some 22), none, .pick (.t 17) (.c (.bool true)) (.t 21)⟩),
      (9, 511, ⟨(some 23), none, .move (.t 22)⟩),
      (10, 1023, ⟨(some 24), (some (23, false)), .fieldAddr 1 (.t 6)⟩),
      (11, 2047, ⟨(some 25), (some (23, false)), .load false 1 (.t 24)⟩),
      (12, 4095, ⟨(some 26), (some (23, false)), .bin .lss 3 (.t 25) (.c (.int .i64 1))⟩),
      (13, 8191, ⟨(some 27), none, .pick (.t 23) (.c (.bool true)) (.t 26)⟩),
      (14, 16383, ⟨(some 28), none, .move (.t 27)⟩),
      (15, 32767, ⟨(some 29), (some (28, false)), .fieldAddr 1 (.t 6)⟩),
      (16, 65535, ⟨(some 30), (some (28, false)), .load false 1 (.t 29)⟩),
      (17, 32767, ⟨(some 31), (some (28, false)), .move (.t 0)⟩),
      (18, 262143, ⟨(some 32), (some (28, false)), .bin .gtr 3 (.t 30) (.t 31)⟩),
      (19, 524287, ⟨(some 33), none, .pick (.t 28) (.c (.bool true)) (.t 32)⟩),
      (20, 1048575, ⟨(some 34), none, .move (.t 33)⟩),
      (21, 2097151, ⟨(some 35), (some (34, false)), .fieldAddr 2 (.t 6)⟩),
      (22, 4194303, ⟨(some 36), (some (34, false)), .load true 3 (.t 35)⟩),
      (23, 8388607, ⟨(some 37), (some (34, false)), .call (.c (.func (.func 116) #[] #[])) [(.t 36)]⟩),
      (24, 16777215, ⟨(some 38), (some (34, false)), .un .not (.t 37)⟩),
      (25, 33554431, ⟨(some 39), none, .pick (.t 34) (.c (.bool true)) (.t 38)⟩),
      (26, 67108863, ⟨(some 40), none, .move (.t 39)⟩),
      (27, 134217727, ⟨(some 41), (some (40, false)), .move (.t 5)⟩),
      (28, 268435455, ⟨(some 42), (some (40, false)), .bin .gtr 3 (.t 41) (.c (.int .i64 0))⟩),
      (29, 536870911, ⟨(some 43), (some (40, false)), .move (.t 42)⟩),
      (30, 1073741823, ⟨(some 44), (some (43, true)), .move (.t 1)⟩),
      (31, 1073741823, ⟨(some 45), (some (43, true)), .move (.t 5)⟩),
      (32, 3221225471, ⟨(some 46), (some (43, true)), .bin .sub 3 (.t 45) (.c (.int .i64 1))⟩),
      (33, 8589934591, ⟨(some 47), (some (43, true)), .indexAddr 5 (.t 44) (.t 46)⟩),
      (34, 17179869183, ⟨(some 48), (some (43, true)), .fieldAddr 0 (.t 47)⟩),
      (35, 34359738367, ⟨(some 49), (some (43, true)), .load false 1 (.t 48)⟩),
      (36, 1073741823, ⟨(some 50), (some (43, true)), .fieldAddr 0 (.t 6)⟩),
      (37, 69793218559, ⟨(some 51), (some (43, true)), .load false 1 (.t 50)⟩),
      (38, 274877906943, ⟨(some 52), (some (43, true)), .bin .geq 9 (.t 49) (.t 51)⟩),
      (39, 549755813887, ⟨(some 53), (some (40, false)), .pick (.t 43) (.t 52) (.c (.bool false))⟩),
      (40, 1099511627775, ⟨(some 54), none, .pick (.t 40) (.c (.bool true)) (.t 53)⟩)] (some [0, 1, 7, 8, 9, 54]))
    (.cond (.t 54)
     (.seq (.ops [⟨(some 4), none, .move (.c (.bool false))⟩] (some [4]))
     .ret)
     .skip))))
   (.ops [⟨(some 55), none, .bin .add 3 (.t 9) (.c (.int .i64 1))⟩,
     ⟨(some 9), none, .move (.t 55)⟩] (some [0, 1, 7, 8, 9]))))))))
 (.seq (.ops [⟨(some 56), none, .move (.t 0)⟩,
   ⟨(some 57), none, .bin .geq 3 (.t 56) (.c (.int .i64 0))⟩,
   ⟨(some 58), none, .move (.t 57)⟩,
   ⟨(some 59), (some (58, true)), .move (.t 0)⟩,
   ⟨(some 60), (some (58, true)), .bin .leq 3 (.t 59) (.c (.int .i64 1073741824))⟩,
   ⟨(some 61), none, .pick (.t 58) (.t 60) (.c (.bool false))⟩,
   ⟨(some 4), none, .move (.t 61)⟩] (some [4]))
 .ret))), [.tmp 4]⟩

theorem is301 : FnIs Tryz.prog 301 x301 := ⟨Tryz.f301, _, Tryz.func301, by kernel_rfl, rfl, by kernel_rfl, by decide, by kernel_rfl⟩

/-- cloisonne/record.bytes -/
def x302 : XDecl := .code ⟨2, 
 (.seq (.ops [⟨(some 2), none, .box (.t 0)⟩,
   ⟨(some 4), none, .move (.c (.string .empty))⟩] (some [1, 2]))
 (.seq (.seq (.ops [⟨(some 7), none, .move (.t 1)⟩] (some [2, 7]))
 (.cond (.t 7)
  (.seq (.ops [⟨(some 4), none, .move (.c (.string .empty))⟩] (some [4]))
  .ret)
  .skip))
 (.seq (.ops [⟨(some 9), none, .load true 3 (.t 2)⟩,
   ⟨(some 10), none, .call (.c (.func (.func 183) #[] #[])) [(.t 9)]⟩,
   ⟨(some 8), none, .move (.t 10)⟩,
   ⟨(some 11), none, .extract (.t 8) 0⟩,
   ⟨(some 12), none, .extract (.t 8) 1⟩,
   ⟨(some 5), none, .move (.t 11)⟩,
   ⟨(some 6), none, .move (.t 12)⟩] (some [5, 6]))
 (.seq (.ops [⟨(some 13), none, .move (.t 6)⟩,
   ⟨(some 14), none, .bin .eql 32 (.t 13) (.c (.int .i64 0))⟩,
   ⟨(some 15), none, .call (.c (.func (.func 300) #[] #[])) [(.t 14)]⟩] (some [5]))
 (.seq (.ops [⟨(some 16), none, .move (.t 5)⟩,
   ⟨(some 4), none, .move (.t 16)⟩] (some [4]))
 .ret))))), [.tmp 4]⟩

theorem is302 : FnIs Tryz.prog 302 x302 := ⟨Tryz.f302, _, Tryz.func302, by kernel_rfl, rfl, by kernel_rfl, by decide, by kernel_rfl⟩

/-- (*cloisonne/room.Room).Seq -/
def x306 : XDecl := .code ⟨1, 
 (.seq (.ops [⟨(some 2), none, .move (.c (.int .i64 0))⟩] (some [0]))
 (.seq (.seq (.ops [⟨(some 3), none, .move (.t 0)⟩,
   ⟨(some 4), none, .isNil .ptr false (.t 3)⟩] (some [0, 4]))
 (.cond (.t 4)
  (.seq (.ops [⟨(some 2), none, .move (.c (.int .i64 0))⟩] (some [2]))
  .ret)
  .skip))
 (.seq (.ops [⟨(some 5), none, .move (.t 0)⟩,
   ⟨(some 6), none, .nilCheck (.t 5)⟩,
   ⟨(some 7), none, .fieldAddr 4 (.t 6)⟩,
   ⟨(some 8), none, .load false 1 (.t 7)⟩,
   ⟨(some 9), none, .call (.c (.func (.func 389) #[] #[])) [(.t 8)]⟩,
   ⟨(some 2), none, .move (.t 9)⟩] (some [2]))
 .ret))), [.tmp 2]⟩

theorem is306 : FnIs Tryz.prog 306 x306 := ⟨Tryz.f306, _, Tryz.func306, by kernel_rfl, rfl, by kernel_rfl, by decide, by kernel_rfl⟩

/-- (*cloisonne/room.Room).Commit -/
def x307 : XDecl := .code ⟨3, 
 (.seq (.ops [⟨(some 6), none, .move (.c (.int .i64 0))⟩,
   ⟨(some 7), none, .move (.c (.int .i64 0))⟩] (some [0, 1, 2]))
 (.seq (.block 0
  (.seq (.ops [⟨(some 15), none, .move (.t 0)⟩,
    ⟨(some 16), none, .isNil .ptr false (.t 15)⟩,
    ⟨(some 14), none, .move (.t 16)⟩] (some [0, 1, 2, 14]))
  (.cond (.t 14)
   (.seq (.ops [⟨(some 6), none, .move (.c (.int .i64 0))⟩,
     ⟨(some 7), none, .move (.c (.int .i64 2))⟩] (some [6, 7]))
   .ret)
   (.seq (.ops [⟨(some 18), none, .move (.t 1)⟩,
     ⟨(some 19), none, .call (.c (.func (.func 390) #[] #[])) [(.t 18)]⟩,
     ⟨(some 20), none, .un .not (.t 19)⟩,
     ⟨(some 17), none, .move (.t 20)⟩] (some [0, 1, 2, 17]))
   (.cond (.t 17)
    (.seq (.ops [⟨(some 6), none, .move (.c (.int .i64 0))⟩,
      ⟨(some 7), none, .move (.c (.int .i64 1))⟩] (some [6, 7]))
    .ret)
    .skip)))))
 (.seq (.seq (.ops [⟨(some 21), none, .move (.t 0)⟩,
   ⟨(some 22), none, .move (.t 1)⟩,
   ⟨(some 23), none, .call (.c (.func (.func 391) #[] #[])) [(.t 21), (.t 22)]⟩,
   ⟨(some 8), none, .move (.t 23)⟩] (some [0, 1, 2, 8]))
 (.seq (.ops [⟨(some 24), none, .move (.t 8)⟩,
   ⟨(some 25), none, .bin .neq 32 (.t 24) (.c (.int .i64 0))⟩] (some [0, 1, 2, 8, 25]))
 (.cond (.t 25)
  (.seq (.ops [⟨(some 26), none, .move (.t 8)⟩,
    ⟨(some 6), none, .move (.c (.int .i64 0))⟩,
    ⟨(some 7), none, .move (.t 26)⟩] (some [6, 7]))
  .ret)
  .skip)))
 (.seq (.ops [⟨(some 28), none, .move (.t 0)⟩,
   ⟨(some 29), none, .nilCheck (.t 28)⟩,
   ⟨(some 30), none, .fieldAddr 4 (.t 29)⟩,
   ⟨(some 31), none, .load false 1 (.t 30)⟩,
   ⟨(some 32), none, .move (.t 2)⟩,
   ⟨(some 33), none, .call (.c (.func (.func 392) #[] #[])) [(.t 31), (.t 32)]⟩,
   ⟨(some 27), none, .move (.t 33)⟩,
   ⟨(some 34), none, .extract (.t 27) 0⟩,
   ⟨(some 35), none, .extract (.t 27) 1⟩,
   ⟨(some 9), none, .move (.t 34)⟩,
   ⟨(some 10), none, .move (.t 35)⟩] (some [0, 1, 9, 10]))
 (.seq (.seq (.ops [⟨(some 36), none, .move (.t 10)⟩,
   ⟨(some 37), none, .bin .neq 32 (.t 36) (.c (.int .i64 0))⟩] (some [0, 1, 9, 10, 37]))
 (.cond (.t 37)
  (.seq (.ops [⟨(some 38), none, .move (.t 10)⟩,
    ⟨(some 6), none, .move (.c (.int .i64 0))⟩,
    ⟨(some 7), none, .move (.t 38)⟩] (some [6, 7]))
  .ret)
  .skip))
 (.seq (.seq (.ops [⟨(some 39), none, .move (.t 1)⟩,
   ⟨(some 40), none, .len (.t 39)⟩,
   ⟨(some 41), none, .move (.c (.int .i64 0))⟩] (some [0, 9, 39, 40, 41]))
 (.block 1
  (.loop
   (.seq (.ops [⟨(some 42), none, .bin .lss 3 (.t 41) (.t 40)⟩] (some [0, 9, 39, 40, 41, 42]))
   (.seq (.cond (.t 42)
    .skip
    (.exit 1))
   (.seq (.block 2
    (.seq (.ops [⟨(some 43), none, .indexAddr 5 (.t 39) (.t 41)⟩,
      ⟨(some 44), none, .load true 5 (.t 43)⟩,
      ⟨(some 12), none, .alloc [(.string .empty), (.bool false), (.bool false), (.string .empty), (.int .u64 0)]⟩,
      ⟨none, none, .store 5 (.t 12) (.t 44)⟩] (some [0, 9, 12, 39, 40, 41]))
    (.seq (.ops [⟨(some 45), none, .move (.t 0)⟩,
      ⟨(some 46), none, .fieldAddr 0 (.t 12)⟩,
      ⟨(some 47), none, .load false 1 (.t 46)⟩,
      ⟨(some 48), none, .move (.t 9)⟩,
      ⟨(some 49), none, .fieldAddr 1 (.t 12)⟩,
      ⟨(some 50), none, .load false 1 (.t 49)⟩,
      ⟨(some 51), none, .fieldAddr 2 (.t 12)⟩,
      ⟨(some 52), none, .load true 3 (.t 51)⟩,
      ⟨(some 53), none, .build [(.int .i64 0), (.bool false), (.bool false), (.string .empty), (.int .u64 0)] [(0, 1), (1, 1), (2, 3)] [(0, (.t 48)), (1, (.t 50)), (2, (.t 52))]⟩,
      ⟨(some 54), none, .call (.c (.func (.func 387) #[] #[])) [(.t 45), (.t 47), (.t 53)]⟩,
      ⟨(some 13), none, .move (.t 54)⟩] (some [0, 9, 13, 39, 40, 41]))
    (.seq (.ops [⟨(some 55), none, .move (.t 13)⟩,
      ⟨(some 56), none, .bin .neq 32 (.t 55) (.c (.int .i64 0))⟩] (some [0, 9, 13, 39, 40, 41, 56]))
    (.cond (.t 56)
     (.seq (.ops [⟨(some 57), none, .move (.t 13)⟩,
       ⟨(some 6), none, .move (.c (.int .i64 0))⟩,
       ⟨(some 7), none, .move (.t 57)⟩] (some [6, 7]))
     .ret)
     .skip)))))
   (.ops [⟨(some 58), none, .bin .add 3 (.t 41) (.c (.int .i64 1))⟩,
     ⟨(some 41), none, .move (.t 58)⟩] (some [0, 9, 39, 40, 41]))))))))
 (.seq (.ops [⟨(some 59), none, .move (.t 9)⟩,
   ⟨(some 6), none, .move (.t 59)⟩,
   ⟨(some 7), none, .move (.c (.int .i64 0))⟩] (some [6, 7]))
 .ret))))))), [.tmp 6, .tmp 7]⟩

theorem is307 : FnIs Tryz.prog 307 x307 := ⟨Tryz.f307, _, Tryz.func307, by kernel_rfl, rfl, by kernel_rfl, by decide, by kernel_rfl⟩

/-- cmp.Less[string] -/
def x318 : XDecl := .code ⟨2, 
 (.seq (.ops [⟨(some 4), none, .move (.c (.bool false))⟩] (some [0, 1]))
 (.seq (.ops [⟨(some 5), none, .move (.t 0)⟩,
   ⟨(some 6), none, .call (.c (.func (.func 399) #[] #[])) [(.t 5)]⟩,
   ⟨(some 7), none, .move (.t 6)⟩,
   ⟨(some 8), (some (7, true)), .move (.t 1)⟩,
   ⟨(some 9), (some (7, true)), .call (.c (.func (.func 399) #[] #[])) [(.t 8)]⟩,
   ⟨(some 10), (some (7, true)), .un .not (.t 9)⟩,
   ⟨(some 11), none, .pick (.t 7) (.t 10) (.c (.bool false))⟩,
   ⟨(some 12), none, .move (.t 11)⟩,
   ⟨(some 13), (some (12, false)), .move (.t 0)⟩,
   ⟨(some 14), (some (12, false)), .move (.t 1)⟩,
   ⟨(some 15), (some (12, false)), .bin .lss 9 (.t 13) (.t 14)⟩,
   ⟨(some 16), none, .pick (.t 12) (.c (.bool true)) (.t 15)⟩,
   ⟨(some 4), none, .move (.t 16)⟩] (some [4]))
 .ret)), [.tmp 4]⟩

theorem is318 : FnIs Tryz.prog 318 x318 := ⟨Tryz.f318, _, Tryz.func318, by kernel_rfl, rfl, by kernel_rfl, by decide, by kernel_rfl⟩

/-- strings.IndexByte -/
def x324 : XDecl := .code ⟨2, 
 (.seq (.ops [⟨(some 4), none, .move (.c (.int .i64 0))⟩] (some [0, 1]))
 (.seq (.ops [⟨(some 5), none, .move (.t 0)⟩,
   ⟨(some 6), none, .move (.t 1)⟩,
   ⟨(some 7), none, .call (.c (.func (.func 401) #[] #[])) [(.t 5), (.t 6)]⟩,
   ⟨(some 4), none, .move (.t 7)⟩] (some [4]))
 .ret)), [.tmp 4]⟩

theorem is324 : FnIs Tryz.prog 324 x324 := ⟨Tryz.f324, _, Tryz.func324, by kernel_rfl, rfl, by kernel_rfl, by decide, by kernel_rfl⟩

/-- (*cloisonne/wire.parser).count -/
def x326 : XDecl := .code ⟨2, 
 (.seq (.ops [⟨(some 4), none, .move (.c (.int .i64 0))⟩] (some [0, 1]))
 (.seq (.ops [⟨(some 6), none, .move (.t 0)⟩,
   ⟨(some 7), none, .call (.c (.func (.func 328) #[] #[])) [(.t 6)]⟩,
   ⟨(some 5), none, .move (.t 7)⟩] (some [1, 5]))
 (.seq (.ops [⟨(some 8), none, .move (.t 5)⟩,
   ⟨(some 9), none, .move (.t 1)⟩,
   ⟨(some 10), none, .conv 3 77 (.t 9)⟩,
   ⟨(some 11), none, .bin .leq 77 (.t 8) (.t 10)⟩,
   ⟨(some 12), none, .call (.c (.func (.func 180) #[] #[])) [(.t 11), (.c (.int .i64 5))]⟩] (some [5]))
 (.seq (.ops [⟨(some 13), none, .move (.t 5)⟩,
   ⟨(some 14), none, .conv 77 3 (.t 13)⟩,
   ⟨(some 4), none, .move (.t 14)⟩] (some [4]))
 .ret)))), [.tmp 4]⟩

theorem is326 : FnIs Tryz.prog 326 x326 := ⟨Tryz.f326, _, Tryz.func326, by kernel_rfl, rfl, by kernel_rfl, by decide, by kernel_rfl⟩

/-- (*cloisonne/wire.parser).take -/
def x327 : XDecl := .code ⟨2, 
 (.seq (.ops [⟨(some 4), none, .move (.c (.string .empty))⟩] (some [0, 1]))
 (.seq (.ops [⟨(some 6), none, .move (.t 0)⟩,
   ⟨(some 7), none, .nilCheck (.t 6)⟩,
   ⟨(some 8), none, .fieldAddr 0 (.t 7)⟩,
   ⟨(some 9), none, .load false 1 (.t 8)⟩,
   ⟨(some 10), none, .calcB .len [9] 3 [(.t 9)]⟩,
   ⟨(some 11), none, .move (.t 1)⟩,
   ⟨(some 12), none, .bin .geq 3 (.t 10) (.t 11)⟩,
   ⟨(some 13), none, .call (.c (.func (.func 180) #[] #[])) [(.t 12), (.c (.int .i64 3))]⟩] (some [0, 1]))
 (.seq (.ops [⟨(some 14), none, .move (.t 0)⟩,
   ⟨(some 15), none, .nilCheck (.t 14)⟩,
   ⟨(some 16), none, .fieldAddr 0 (.t 15)⟩,
   ⟨(some 17), none, .load false 1 (.t 16)⟩,
   ⟨(some 18), none, .move (.t 1)⟩,
   ⟨(some 19), none, .substr 9 (.t 17) none (some (.t 18))⟩,
   ⟨(some 5), none, .move (.t 19)⟩] (some [0, 1, 5]))
 (.seq (.ops [⟨(some 20), none, .move (.t 0)⟩,
   ⟨(some 21), none, .move (.t 0)⟩,
   ⟨(some 22), none, .nilCheck (.t 21)⟩,
   ⟨(some 23), none, .fieldAddr 0 (.t 22)⟩,
   ⟨(some 24), none, .load false 1 (.t 23)⟩,
   ⟨(some 25), none, .move (.t 1)⟩,
   ⟨(some 26), none, .substr 9 (.t 24) (some (.t 25)) none⟩,
   ⟨(some 27), none, .nilCheck (.t 20)⟩,
   ⟨(some 28), none, .fieldAddr 0 (.t 27)⟩,
   ⟨none, none, .store 1 (.t 28) (.t 26)⟩] (some [5]))
 (.seq (.ops [⟨(some 29), none, .move (.t 5)⟩,
   ⟨(some 4), none, .move (.t 29)⟩] (some [4]))
 .ret))))), [.tmp 4]⟩

theorem is327 : FnIs Tryz.prog 327 x327 := ⟨Tryz.f327, _, Tryz.func327, by kernel_rfl, rfl, by kernel_rfl, by decide, by kernel_rfl⟩

/-- (*cloisonne/wire.parser).number -/
def x328 : XDecl := .code ⟨1, 
 (.seq (.ops [⟨(some 2), none, .move (.c (.int .u64 0))⟩] (some [0]))
 (.seq (.ops [⟨(some 3), none, .move (.c (.int .u64 0))⟩] (some [0, 3]))
 (.seq (.ops [⟨(some 4), none, .move (.c (.int .i64 0))⟩] (some [0, 3, 4]))
 (.block 0
  (.loop
   (.seq (.block 1
    (.seq (.ops [⟨(some 9), none, .move (.t 0)⟩,
      ⟨(some 10), none, .call (.c (.func (.func 327) #[] #[])) [(.t 9), (.c (.int .i64 1))]⟩,
      ⟨(some 11), none, .index 9 (.t 10) (.c (.int .i64 0))⟩,
      ⟨(some 12), none, .conv 5 77 (.t 11)⟩,
      ⟨(some 5), none, .move (.t 12)⟩] (some [0, 3, 4, 5]))
    (.seq (.ops [⟨(some 13), none, .move (.t 5)⟩,
      ⟨(some 14), none, .bin .rem 77 (.t 13) (.c (.int .u64 128))⟩,
      ⟨(some 6), none, .move (.t 14)⟩] (some [0, 3, 4, 5, 6]))
    (.seq (.ops [⟨(some 15), none, .move (.t 4)⟩,
      ⟨(some 16), none, .bin .lss 3 (.t 15) (.c (.int .i64 64))⟩,
      ⟨(some 17), none, .move (.t 16)⟩,
      ⟨(some 18), (some (17, true)), .move (.t 6)⟩,
      ⟨(some 19), (some (17, true)), .move (.t 4)⟩,
      ⟨(some 20), (some (17, true)), .bin .shl 77 (.t 18) (.t 19)⟩,
      ⟨(some 21), (some (17, true)), .move (.t 4)⟩,
      ⟨(some 22), (some (17, true)), .bin .shr 77 (.t 20) (.t 21)⟩,
      ⟨(some 23), (some (17, true)), .move (.t 6)⟩,
      ⟨(some 24), (some (17, true)), .bin .eql 77 (.t 22) (.t 23)⟩,
      ⟨(some 25), none, .pick (.t 17) (.t 24) (.c (.bool false))⟩,
      ⟨(some 26), none, .call (.c (.func (.func 180) #[] #[])) [(.t 25), (.c (.int .i64 4))]⟩] (some [0, 3, 4, 5, 6]))
    (.seq (.ops [⟨(some 27), none, .move (.t 3)⟩,
      ⟨(some 28), none, .move (.t 6)⟩,
      ⟨(some 29), none, .move (.t 4)⟩,
      ⟨(some 30), none, .bin .shl 77 (.t 28) (.t 29)⟩,
      ⟨(some 31), none, .bin .or 77 (.t 27) (.t 30)⟩,
      ⟨(some 3), none, .move (.t 31)⟩] (some [0, 3, 4, 5]))
    (.seq (.ops [⟨(some 32), none, .move (.t 5)⟩,
      ⟨(some 33), none, .bin .lss 77 (.t 32) (.c (.int .u64 128))⟩] (some [0, 3, 4, 5, 33]))
    (.cond (.t 33)
     (.seq (.ops [⟨(some 34), none, .move (.t 5)⟩,
       ⟨(some 35), none, .bin .gtr 77 (.t 34) (.c (.int .u64 0))⟩,
       ⟨(some 36), none, .move (.t 35)⟩,
       ⟨(some 37), (some (36, false)), .move (.t 4)⟩,
       ⟨(some 38), (some (36, false)), .bin .eql 3 (.t 37) (.c (.int .i64 0))⟩,
       ⟨(some 39), none, .pick (.t 36) (.c (.bool true)) (.t 38)⟩,
       ⟨(some 40), none, .call (.c (.func (.func 180) #[] #[])) [(.t 39), (.c (.int .i64 4))]⟩] (some [3]))
     (.seq (.ops [⟨(some 41), none, .move (.t 3)⟩,
       ⟨(some 2), none, .move (.t 41)⟩] (some [2]))
     .ret))
     .skip)))))))
   (.ops [⟨(some 7), none, .move (.t 4)⟩,
     ⟨(some 8), none, .bin .add 3 (.t 7) (.c (.int .i64 7))⟩,
     ⟨(some 4), none, .move (.t 8)⟩] (some [0, 3, 4])))))))), [.tmp 2]⟩

theorem is328 : FnIs Tryz.prog 328 x328 := ⟨Tryz.f328, _, Tryz.func328, by kernel_rfl, rfl, by kernel_rfl, by decide, by kernel_rfl⟩

/-- internal/stringslite.CutPrefix -/
def x330 : XDecl := .code ⟨2, 
 (.seq (.ops [⟨(some 4), none, .move (.c (.string .empty))⟩,
   ⟨(some 5), none, .move (.c (.bool false))⟩] (some [0, 1]))
 (.seq (.seq (.ops [⟨(some 6), none, .move (.t 0)⟩,
   ⟨(some 7), none, .move (.t 1)⟩,
   ⟨(some 8), none, .call (.c (.func (.func 402) #[] #[])) [(.t 6), (.t 7)]⟩,
   ⟨(some 9), none, .un .not (.t 8)⟩] (some [0, 1, 9]))
 (.cond (.t 9)
  (.seq (.ops [⟨(some 10), none, .move (.t 0)⟩,
    ⟨(some 4), none, .move (.t 10)⟩,
    ⟨(some 5), none, .move (.c (.bool false))⟩] (some [4, 5]))
  .ret)
  .skip))
 (.seq (.ops [⟨(some 11), none, .move (.t 0)⟩,
   ⟨(some 12), none, .move (.t 1)⟩,
   ⟨(some 13), none, .calcB .len [9] 3 [(.t 12)]⟩,
   ⟨(some 14), none, .substr 9 (.t 11) (some (.t 13)) none⟩,
   ⟨(some 4), none, .move (.t 14)⟩,
   ⟨(some 5), none, .move (.c (.bool true))⟩] (some [4, 5]))
 .ret))), [.tmp 4, .tmp 5]⟩

theorem is330 : FnIs Tryz.prog 330 x330 := ⟨Tryz.f330, _, Tryz.func330, by kernel_rfl, rfl, by kernel_rfl, by decide, by kernel_rfl⟩

/-- (*cloisonne/vault.Vault).Table -/
def x332 : XDecl := .code ⟨1, 
 (.seq (.ops [⟨(some 2), none, .move (.c (.pointer none))⟩] (some [0]))
 (.seq (.seq (.ops [⟨(some 3), none, .move (.t 0)⟩,
   ⟨(some 4), none, .isNil .ptr false (.t 3)⟩] (some [0, 4]))
 (.cond (.t 4)
  (.seq (.ops [⟨(some 2), none, .move (.c (.pointer none))⟩] (some [2]))
  .ret)
  .skip))
 (.seq (.ops [⟨(some 5), none, .move (.t 0)⟩,
   ⟨(some 6), none, .nilCheck (.t 5)⟩,
   ⟨(some 7), none, .fieldAddr 5 (.t 6)⟩,
   ⟨(some 8), none, .load false 1 (.t 7)⟩,
   ⟨(some 2), none, .move (.t 8)⟩] (some [2]))
 .ret))), [.tmp 2]⟩

theorem is332 : FnIs Tryz.prog 332 x332 := ⟨Tryz.f332, _, Tryz.func332, by kernel_rfl, rfl, by kernel_rfl, by decide, by kernel_rfl⟩

/-- (*cloisonne/sess.Session).clear -/
def x333 : XDecl := .code ⟨2, 
 (.seq (.ops [⟨(some 4), none, .move (.c (.bool false))⟩] (some [0, 1]))
 (.seq (.opsd [(0, 0, ⟨(some 5), none, .move (.t 0)⟩),
   (1, 1, ⟨(some 6), none, .nilCheck (.t 5)⟩),
   (2, 3, ⟨(some 7), none, .fieldAddr 0 (.t 6)⟩),
   (3, 7, ⟨(some 8), none, .load false 1 (.t 7)⟩),
   (5, 0, ⟨(some 10), none, .move (.t 0)⟩),
   (6, 32, ⟨(some 11), none, .nilCheck (.t 10)⟩),
   (7, 96, ⟨(some 12), none, .fieldAddr 4 (.t 11)⟩),
   (8, 224, ⟨(some 13), none, .load false 1 (.t 12)⟩),
   (9, 0, ⟨(some 14), none, .move (.t 0)⟩),
   (10, 512, ⟨(some 15), none, .nilCheck (.t 14)⟩),
   (11, 1536, ⟨(some 16), none, .fieldAddr 5 (.t 15)⟩),
   (12, 3584, ⟨(some 17), none, .load false 1 (.t 16)⟩),
   (13, 0, ⟨(some 18), none, .move (.t 1)⟩),
   (4, 15, ⟨(some 9), none, .call (.c (.func (.func 332) #[] #[])) [(.t 8)]⟩),
   (14, 16383, ⟨(some 19), none, .call (.c (.func (.func 403) #[] #[])) [(.t 9), (.t 13), (.t 17), (.t 18)]⟩),
   (15, 32767, ⟨(some 4), none, .move (.t 19)⟩)] (some [4]))
 .ret)), [.tmp 4]⟩

theorem is333 : FnIs Tryz.prog 333 x333 := ⟨Tryz.f333, _, Tryz.func333, by kernel_rfl, rfl, by kernel_rfl, by decide, by kernel_rfl⟩

/-- (*cloisonne/sess.Session).frozen -/
def x334 : XDecl := .code ⟨1, 
 (.seq (.ops [⟨(some 2), none, .move (.c (.bool false))⟩] (some [0]))
 (.seq (.ops [⟨(some 3), none, .move (.t 0)⟩,
   ⟨(some 4), none, .nilCheck (.t 3)⟩,
   ⟨(some 5), none, .fieldAddr 6 (.t 4)⟩,
   ⟨(some 6), none, .load false 1 (.t 5)⟩,
   ⟨(some 7), none, .isNil .ptr true (.t 6)⟩,
   ⟨(some 8), none, .move (.t 7)⟩,
   ⟨(some 9), (some (8, true)), .move (.t 0)⟩,
   ⟨(some 10), (some (8, true)), .nilCheck (.t 9)⟩,
   ⟨(some 11), (some (8, true)), .fieldAddr 6 (.t 10)⟩,
   ⟨(some 12), (some (8, true)), .load false 1 (.t 11)⟩,
   ⟨(some 13), (some (8, true)), .nilCheck (.t 12)⟩,
   ⟨(some 14), (some (8, true)), .fieldAddr 2 (.t 13)⟩,
   ⟨(some 15), (some (8, true)), .load false 1 (.t 14)⟩,
   ⟨(some 16), (some (8, true)), .bin .neq 3 (.t 15) (.c (.int .i64 (-1)))⟩,
   ⟨(some 17), none, .pick (.t 8) (.t 16) (.c (.bool false))⟩,
   ⟨(some 2), none, .move (.t 17)⟩] (some [2]))
 .ret)), [.tmp 2]⟩

theorem is334 : FnIs Tryz.prog 334 x334 := ⟨Tryz.f334, _, Tryz.func334, by kernel_rfl, rfl, by kernel_rfl, by decide, by kernel_rfl⟩

/-- cloisonne/label.In -/
def x335 : XDecl := .code ⟨2, 
 (.seq (.ops [⟨(some 3), none, .box (.t 1)⟩,
   ⟨(some 4), none, .move (.c (.bool false))⟩] (some [0, 3]))
 (.seq (.ops [⟨(some 5), none, .move (.t 0)⟩,
   ⟨(some 6), none, .makeFunc (.func 405) [] [(.t 3)]⟩,
   ⟨(some 7), none, .call (.c (.func (.func 404) #[] #[])) [(.t 5), (.t 6)]⟩,
   ⟨(some 8), none, .un .not (.t 7)⟩,
   ⟨(some 4), none, .move (.t 8)⟩] (some [4]))
 .ret)), [.tmp 4]⟩

theorem is335 : FnIs Tryz.prog 335 x335 := ⟨Tryz.f335, _, Tryz.func335, by kernel_rfl, rfl, by kernel_rfl, by decide, by kernel_rfl⟩

def tabD : FuncId → Option XDecl
  | 217 => some x217
  | 218 => some x218
  | 219 => some x219
  | 220 => some x220
  | 221 => some x221
  | 222 => some x222
  | 223 => some x223
  | 225 => some x225
  | 226 => some x226
  | 230 => some x230
  | 239 => some x239
  | 240 => some x240
  | 241 => some x241
  | 244 => some x244
  | 246 => some x246
  | 247 => some x247
  | 248 => some x248
  | 249 => some x249
  | 252 => some x252
  | 255 => some x255
  | 256 => some x256
  | 257 => some x257
  | 263 => some x263
  | 269 => some x269
  | 270 => some x270
  | 271 => some x271
  | 279 => some x279
  | 280 => some x280
  | 281 => some x281
  | 282 => some x282
  | 283 => some x283
  | 284 => some x284
  | 285 => some x285
  | 286 => some x286
  | 287 => some x287
  | 290 => some x290
  | 291 => some x291
  | 292 => some x292
  | 293 => some x293
  | 294 => some x294
  | 296 => some x296
  | 299 => some x299
  | 300 => some x300
  | 301 => some x301
  | 302 => some x302
  | 306 => some x306
  | 307 => some x307
  | 318 => some x318
  | 324 => some x324
  | 326 => some x326
  | 327 => some x327
  | 328 => some x328
  | 330 => some x330
  | 332 => some x332
  | 333 => some x333
  | 334 => some x334
  | 335 => some x335
  | _ => none
theorem tabD_is : ∀ f d, tabD f = some d → FnIs Tryz.prog f d := by
  intro f d h
  unfold tabD at h
  split at h
  · cases h; exact is217
  · cases h; exact is218
  · cases h; exact is219
  · cases h; exact is220
  · cases h; exact is221
  · cases h; exact is222
  · cases h; exact is223
  · cases h; exact is225
  · cases h; exact is226
  · cases h; exact is230
  · cases h; exact is239
  · cases h; exact is240
  · cases h; exact is241
  · cases h; exact is244
  · cases h; exact is246
  · cases h; exact is247
  · cases h; exact is248
  · cases h; exact is249
  · cases h; exact is252
  · cases h; exact is255
  · cases h; exact is256
  · cases h; exact is257
  · cases h; exact is263
  · cases h; exact is269
  · cases h; exact is270
  · cases h; exact is271
  · cases h; exact is279
  · cases h; exact is280
  · cases h; exact is281
  · cases h; exact is282
  · cases h; exact is283
  · cases h; exact is284
  · cases h; exact is285
  · cases h; exact is286
  · cases h; exact is287
  · cases h; exact is290
  · cases h; exact is291
  · cases h; exact is292
  · cases h; exact is293
  · cases h; exact is294
  · cases h; exact is296
  · cases h; exact is299
  · cases h; exact is300
  · cases h; exact is301
  · cases h; exact is302
  · cases h; exact is306
  · cases h; exact is307
  · cases h; exact is318
  · cases h; exact is324
  · cases h; exact is326
  · cases h; exact is327
  · cases h; exact is328
  · cases h; exact is330
  · cases h; exact is332
  · cases h; exact is333
  · cases h; exact is334
  · cases h; exact is335
  · cases h

end Go.Proofs.YtglefgcnafoafaaGreatDoor.X
