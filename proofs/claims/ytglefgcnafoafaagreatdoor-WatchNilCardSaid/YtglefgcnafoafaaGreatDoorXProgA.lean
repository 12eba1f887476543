/-
  Own work, printed by a program of ours (mkprog.py): the functions of this seat as code of the abstract run, and that each is the model's.
-/
import Derived.Test.YtglefgcnafoafaaGreatDoorXLaw
import Derived.Test.YtglefgcnafoafaaGreatDoorChecked
set_option maxRecDepth 100000
namespace Go.Proofs.YtglefgcnafoafaaGreatDoor.X
open Go

/-- cloisonne/cloisonnelaw23.WatchNil -/
def x4 : XDecl := .code ⟨2, 
 (.seq (.ops [⟨(some 2), none, .box (.t 0)⟩,
   ⟨(some 4), none, .move (.c (.bool false))⟩] (some [1, 2]))
 (.seq (.seq (.ops [⟨(some 15), none, .call (.c (.func (.func 20) #[] #[])) []⟩,
   ⟨(some 16), none, .un .not (.t 15)⟩] (some [1, 2, 16]))
 (.cond (.t 16)
  (.seq (.ops [⟨(some 4), none, .move (.c (.bool false))⟩] (some [4]))
  .ret)
  .skip))
 (.seq (.seq (.ops [⟨(some 17), none, .load true 5 (.t 2)⟩,
   ⟨(some 18), none, .call (.c (.func (.func 8) #[] #[])) [(.t 17)]⟩] (some [1, 2, 18]))
 (.cond (.t 18)
  (.seq (.ops [⟨(some 4), none, .move (.c (.bool true))⟩] (some [4]))
  .ret)
  .skip))
 (.seq (.ops [⟨(some 5), none, .move (.c (.pointer none))⟩] (some [1, 2, 5]))
 (.seq (.ops [⟨(some 20), none, .move (.t 5)⟩,
   ⟨(some 21), none, .load true 5 (.t 2)⟩,
   ⟨(some 22), none, .call (.c (.func (.func 21) #[] #[])) [(.t 20), (.t 21)]⟩,
   ⟨(some 19), none, .move (.t 22)⟩,
   ⟨(some 23), none, .extract (.t 19) 0⟩,
   ⟨(some 24), none, .extract (.t 19) 1⟩,
   ⟨(some 25), none, .extract (.t 19) 2⟩,
   ⟨(some 6), none, .move (.t 23)⟩,
   ⟨(some 7), none, .move (.t 24)⟩,
   ⟨(some 8), none, .move (.t 25)⟩] (some [1, 2, 5, 6, 7, 8]))
 (.seq (.ops [⟨(some 27), none, .call (.c (.func (.func 22) #[] #[])) [(.c (.pointer none))]⟩,
   ⟨(some 26), none, .move (.t 27)⟩,
   ⟨(some 28), none, .extract (.t 26) 0⟩,
   ⟨(some 29), none, .extract (.t 26) 1⟩,
   ⟨(some 9), none, .move (.t 28)⟩,
   ⟨(some 10), none, .move (.t 29)⟩] (some [1, 2, 5, 6, 7, 8, 9, 10]))
 (.seq (.ops [⟨(some 31), none, .call (.c (.func (.func 23) #[] #[])) [(.c (.pointer none)), (.c (.slice none 0 0))]⟩,
   ⟨(some 30), none, .move (.t 31)⟩,
   ⟨(some 32), none, .extract (.t 30) 0⟩,
   ⟨(some 33), none, .extract (.t 30) 1⟩,
   ⟨(some 11), none, .move (.t 32)⟩,
   ⟨(some 12), none, .move (.t 33)⟩] (some [1, 2, 5, 6, 7, 8, 9, 10, 11, 12]))
 (.seq (.ops [⟨(some 35), none, .fieldAddr 1 (.t 2)⟩,
   ⟨(some 36), none, .load false 1 (.t 35)⟩,
   ⟨(some 37), none, .fieldAddr 3 (.t 2)⟩,
   ⟨(some 38), none, .load false 1 (.t 37)⟩,
   ⟨(some 39), none, .call (.c (.func (.func 24) #[] #[])) [(.c (.pointer none)), (.t 36), (.t 38)]⟩,
   ⟨(some 34), none, .move (.t 39)⟩,
   ⟨(some 40), none, .extract (.t 34) 0⟩,
   ⟨(some 41), none, .extract (.t 34) 1⟩,
   ⟨(some 13), none, .move (.t 40)⟩,
   ⟨(some 14), none, .move (.t 41)⟩] (some [1, 5, 6, 7, 8, 9, 10, 11, 12, 13, 14]))
 (.seq (.ops [⟨(some 42), none, .move (.t 6)⟩,
   ⟨(some 43), none, .bin .eql 3 (.t 42) (.c (.int .i64 0))⟩,
   ⟨(some 44), none, .move (.t 43)⟩,
   ⟨(some 45), (some (44, true)), .move (.t 7)⟩,
   ⟨(some 46), (some (44, true)), .bin .eql 9 (.t 45) (.c (.string .empty))⟩,
   ⟨(some 47), none, .pick (.t 44) (.t 46) (.c (.bool false))⟩,
   ⟨(some 48), none, .move (.t 47)⟩,
   ⟨(some 49), (some (48, true)), .move (.t 8)⟩,
   ⟨(some 50), (some (48, true)), .bin .eql 32 (.t 49) (.c (.int .i64 2))⟩,
   ⟨(some 51), none, .pick (.t 48) (.t 50) (.c (.bool false))⟩,
   ⟨(some 52), none, .move (.t 51)⟩,
   ⟨(some 53), (some (52, true)), .move (.t 9)⟩,
   ⟨(some 54), (some (52, true)), .isNil .ptr false (.t 53)⟩,
   ⟨(some 55), none, .pick (.t 52) (.t 54) (.c (.bool false))⟩,
   ⟨(some 56), none, .move (.t 55)⟩,
   ⟨(some 57), (some (56, true)), .move (.t 10)⟩,
   ⟨(some 58), (some (56, true)), .bin .eql 32 (.t 57) (.c (.int .i64 2))⟩,
   ⟨(some 59), none, .pick (.t 56) (.t 58) (.c (.bool false))⟩,
   ⟨(some 60), none, .move (.t 59)⟩,
   ⟨(some 61), (some (60, true)), .move (.t 11)⟩,
   ⟨(some 62), (some (60, true)), .len (.t 61)⟩,
   ⟨(some 63), (some (60, true)), .bin .eql 3 (.t 62) (.c (.int .i64 0))⟩,
   ⟨(some 64), none, .pick (.t 60) (.t 63) (.c (.bool false))⟩,
   ⟨(some 65), none, .move (.t 64)⟩,
   ⟨(some 66), (some (65, true)), .move (.t 12)⟩,
   ⟨(some 67), (some (65, true)), .bin .eql 32 (.t 66) (.c (.int .i64 2))⟩,
   ⟨(some 68), none, .pick (.t 65) (.t 67) (.c (.bool false))⟩,
   ⟨(some 69), none, .move (.t 68)⟩,
   ⟨(some 70), (some (69, true)), .move (.t 13)⟩,
   ⟨(some 71), (some (69, true)), .bin .eql 9 (.t 70) (.c (.string .empty))⟩,
   ⟨(some 72), none, .pick (.t 69) (.t 71) (.c (.bool false))⟩,
   ⟨(some 73), none, .move (.t 72)⟩,
   ⟨(some 74), (some (73, true)), .move (.t 14)⟩,
   ⟨(some 75), (some (73, true)), .bin .eql 32 (.t 74) (.c (.int .i64 2))⟩,
   ⟨(some 76), none, .pick (.t 73) (.t 75) (.c (.bool false))⟩,
   ⟨(some 77), none, .move (.t 76)⟩,
   ⟨(some 78), (some (77, true)), .move (.t 5)⟩,
   ⟨(some 79), (some (77, true)), .call (.c (.func (.func 25) #[] #[])) [(.t 78)]⟩,
   ⟨(some 80), (some (77, true)), .isNil .ptr false (.t 79)⟩,
   ⟨(some 81), none, .pick (.t 77) (.t 80) (.c (.bool false))⟩,
   ⟨(some 82), none, .move (.t 81)⟩,
   ⟨(some 83), (some (82, true)), .move (.t 5)⟩,
   ⟨(some 84), (some (82, true)), .call (.c (.func (.func 26) #[] #[])) [(.t 83)]⟩,
   ⟨(some 85), (some (82, true)), .len (.t 84)⟩,
   ⟨(some 86), (some (82, true)), .bin .eql 3 (.t 85) (.c (.int .i64 0))⟩,
   ⟨(some 87), none, .pick (.t 82) (.t 86) (.c (.bool false))⟩,
   ⟨(some 88), none, .move (.t 87)⟩,
   ⟨(some 89), (some (88, true)), .move (.t 5)⟩,
   ⟨(some 90), (some (88, true)), .call (.c (.func (.func 27) #[] #[])) [(.t 89)]⟩,
   ⟨(some 91), (some (88, true)), .len (.t 90)⟩,
   ⟨(some 92), (some (88, true)), .bin .eql 3 (.t 91) (.c (.int .i64 0))⟩,
   ⟨(some 93), none, .pick (.t 88) (.t 92) (.c (.bool false))⟩,
   ⟨(some 94), none, .move (.t 93)⟩,
   ⟨(some 95), (some (94, true)), .move (.t 5)⟩,
   ⟨(some 96), (some (94, true)), .move (.t 1)⟩,
   ⟨(some 97), (some (94, true)), .call (.c (.func (.func 28) #[] #[])) [(.t 95), (.t 96)]⟩,
   ⟨(some 98), (some (94, true)), .bin .eql 3 (.t 97) (.c (.int .i64 0))⟩,
   ⟨(some 99), none, .pick (.t 94) (.t 98) (.c (.bool false))⟩,
   ⟨(some 4), none, .move (.t 99)⟩] (some [4]))
 .ret))))))))), [.tmp 4]⟩

theorem is4 : FnIs Tryz.prog 4 x4 := ⟨Tryz.f4, _, Tryz.func4, by kernel_rfl, rfl, by kernel_rfl, by decide, by kernel_rfl⟩

/-- cloisonne/cloisonnelaw18.Far -/
def x7 : XDecl := .code ⟨1, 
 (.seq (.ops [⟨(some 1), none, .box (.t 0)⟩,
   ⟨(some 2), none, .move (.c (.bool false))⟩] (some [1]))
 (.seq (.seq (.ops [⟨(some 4), none, .fieldAddr 3 (.t 1)⟩,
   ⟨(some 5), none, .load false 1 (.t 4)⟩,
   ⟨(some 6), none, .len (.t 5)⟩,
   ⟨(some 7), none, .bin .gtr 3 (.t 6) (.c (.int .i64 20))⟩] (some [1, 7]))
 (.cond (.t 7)
  (.seq (.ops [⟨(some 2), none, .move (.c (.bool true))⟩] (some [2]))
  .ret)
  .skip))
 (.seq (.seq (.ops [⟨(some 3), none, .move (.c (.int .i64 0))⟩] (some [1, 3]))
 (.block 0
  (.loop
   (.seq (.seq (.ops [⟨(some 8), none, .move (.t 3)⟩,
     ⟨(some 9), none, .fieldAddr 3 (.t 1)⟩,
     ⟨(some 10), none, .load false 1 (.t 9)⟩,
     ⟨(some 11), none, .len (.t 10)⟩,
     ⟨(some 12), none, .bin .lss 3 (.t 8) (.t 11)⟩] (some [1, 3, 12]))
   (.cond (.t 12)
    .skip
    (.exit 0)))
   (.seq (.block 1
    (.seq (.ops [⟨(some 15), none, .fieldAddr 3 (.t 1)⟩,
      ⟨(some 16), none, .load false 1 (.t 15)⟩,
      ⟨(some 17), none, .move (.t 3)⟩,
      ⟨(some 18), none, .indexAddr 4 (.t 16) (.t 17)⟩,
      ⟨(some 19), none, .fieldAddr 0 (.t 18)⟩,
      ⟨(some 20), none, .load false 1 (.t 19)⟩,
      ⟨(some 21), none, .len (.t 20)⟩,
      ⟨(some 22), none, .bin .gtr 3 (.t 21) (.c (.int .i64 30))⟩] (some [1, 3, 22]))
    (.cond (.t 22)
     (.seq (.ops [⟨(some 2), none, .move (.c (.bool true))⟩] (some [2]))
     .ret)
     .skip)))
   (.ops [⟨(some 13), none, .move (.t 3)⟩,
     ⟨(some 14), none, .bin .add 3 (.t 13) (.c (.int .i64 1))⟩,
     ⟨(some 3), none, .move (.t 14)⟩] (some [1, 3])))))))
 (.seq (.ops [⟨(some 23), none, .fieldAddr 2 (.t 1)⟩,
   ⟨(some 24), none, .load false 1 (.t 23)⟩,
   ⟨(some 25), none, .bin .gtr 3 (.t 24) (.c (.int .i64 20))⟩,
   ⟨(some 26), none, .move (.t 25)⟩,
   ⟨(some 27), (some (26, true)), .fieldAddr 2 (.t 1)⟩,
   ⟨(some 28), (some (26, true)), .load false 1 (.t 27)⟩,
   ⟨(some 29), (some (26, true)), .bin .leq 3 (.t 28) (.c (.int .i64 128))⟩,
   ⟨(some 30), none, .pick (.t 26) (.t 29) (.c (.bool false))⟩,
   ⟨(some 2), none, .move (.t 30)⟩] (some [2]))
 .ret)))), [.tmp 2]⟩

theorem is7 : FnIs Tryz.prog 7 x7 := ⟨Tryz.f7, _, Tryz.func7, by kernel_rfl, rfl, by kernel_rfl, by decide, by kernel_rfl⟩

/-- cloisonne/cloisonnelaw22.Far -/
def x8 : XDecl := .code ⟨1, 
 (.seq (.ops [⟨(some 1), none, .box (.t 0)⟩,
   ⟨(some 2), none, .move (.c (.bool false))⟩] (some [1]))
 (.seq (.ops [⟨(some 3), none, .fieldAddr 3 (.t 1)⟩,
   ⟨(some 4), none, .load false 1 (.t 3)⟩,
   ⟨(some 5), none, .calcB .len [9] 3 [(.t 4)]⟩,
   ⟨(some 6), none, .bin .gtr 3 (.t 5) (.c (.int .i64 1000))⟩,
   ⟨(some 7), none, .move (.t 6)⟩,
   ⟨(some 8), (some (7, false)), .fieldAddr 4 (.t 1)⟩,
   ⟨(some 9), (some (7, false)), .load false 1 (.t 8)⟩,
   ⟨(some 10), (some (7, false)), .len (.t 9)⟩,
   ⟨(some 11), (some (7, false)), .bin .gtr 3 (.t 10) (.c (.int .i64 100))⟩,
   ⟨(some 12), none, .pick (.t 7) (.c (.bool true)) (.t 11)⟩,
   ⟨(some 2), none, .move (.t 12)⟩] (some [2]))
 .ret)), [.tmp 2]⟩

theorem is8 : FnIs Tryz.prog 8 x8 := ⟨Tryz.f8, _, Tryz.func8, by kernel_rfl, rfl, by kernel_rfl, by decide, by kernel_rfl⟩

/-- (*cloisonne/desk.Desk).Do -/
def x9 : XDecl := .code ⟨2, 
 (.seq (.ops [⟨(some 3), none, .box (.t 1)⟩,
   ⟨(some 4), none, .move (.c (.int .i64 0))⟩,
   ⟨(some 5), none, .move (.c (.string .empty))⟩,
   ⟨(some 6), none, .move (.c (.int .i64 0))⟩] (some [0, 3]))
 (.seq (.seq (.ops [⟨(some 8), none, .move (.t 0)⟩,
   ⟨(some 9), none, .isNil .ptr false (.t 8)⟩] (some [0, 3, 9]))
 (.cond (.t 9)
  (.seq (.ops [⟨(some 4), none, .move (.c (.int .i64 0))⟩,
    ⟨(some 5), none, .move (.c (.string .empty))⟩,
    ⟨(some 6), none, .move (.c (.int .i64 2))⟩] (some [4, 5, 6]))
  .ret)
  .skip))
 (.seq (.ops [⟨(some 10), none, .move (.t 0)⟩,
   ⟨(some 11), none, .nilCheck (.t 10)⟩,
   ⟨(some 12), none, .fieldAddr 5 (.t 11)⟩,
   ⟨(some 13), none, .load false 1 (.t 12)⟩,
   ⟨(some 14), none, .bin .add 3 (.t 13) (.c (.int .i64 1))⟩,
   ⟨(some 15), none, .nilCheck (.t 10)⟩,
   ⟨(some 16), none, .fieldAddr 5 (.t 15)⟩,
   ⟨none, none, .store 1 (.t 16) (.t 14)⟩] (some [0, 3]))
 (.seq (.seq (.ops [⟨(some 17), none, .move (.t 0)⟩,
   ⟨(some 18), none, .load true 5 (.t 3)⟩,
   ⟨(some 19), none, .call (.c (.func (.func 40) #[] #[])) [(.t 17), (.t 18)]⟩,
   ⟨(some 7), none, .move (.t 19)⟩] (some [0, 3, 7]))
 (.seq (.ops [⟨(some 20), none, .move (.t 7)⟩,
   ⟨(some 21), none, .bin .neq 32 (.t 20) (.c (.int .i64 0))⟩] (some [0, 3, 7, 21]))
 (.cond (.t 21)
  (.seq (.ops [⟨(some 22), none, .move (.t 7)⟩,
    ⟨(some 4), none, .move (.c (.int .i64 0))⟩,
    ⟨(some 5), none, .move (.c (.string .empty))⟩,
    ⟨(some 6), none, .move (.t 22)⟩] (some [4, 5, 6]))
  .ret)
  .skip)))
 (.seq (.seq (.ops [⟨(some 23), none, .fieldAddr 0 (.t 3)⟩,
   ⟨(some 24), none, .load false 1 (.t 23)⟩] (some [0, 3, 24]))
 (.block 0
  (.seq (.ops [⟨(some 26), none, .bin .eql 3 (.t 24) (.c (.int .i64 1))⟩,
    ⟨(some 25), none, .move (.t 26)⟩] (some [0, 3, 24, 25]))
  (.cond (.t 25)
   (.seq (.ops [⟨(some 27), none, .move (.t 0)⟩,
     ⟨(some 28), none, .load true 5 (.t 3)⟩,
     ⟨(some 29), none, .call (.c (.func (.func 41) #[] #[])) [(.t 27), (.t 28)]⟩,
     ⟨(some 30), none, .extract (.t 29) 0⟩,
     ⟨(some 31), none, .extract (.t 29) 1⟩,
     ⟨(some 32), none, .extract (.t 29) 2⟩,
     ⟨(some 4), none, .move (.t 30)⟩,
     ⟨(some 5), none, .move (.t 31)⟩,
     ⟨(some 6), none, .move (.t 32)⟩] (some [4, 5, 6]))
   .ret)
   (.seq (.ops [⟨(some 34), none, .bin .eql 3 (.t 24) (.c (.int .i64 2))⟩,
     ⟨(some 33), none, .move (.t 34)⟩] (some [0, 3, 24, 33]))
   (.cond (.t 33)
    (.seq (.ops [⟨(some 35), none, .move (.t 0)⟩,
      ⟨(some 36), none, .load true 5 (.t 3)⟩,
      ⟨(some 37), none, .call (.c (.func (.func 42) #[] #[])) [(.t 35), (.t 36)]⟩,
      ⟨(some 38), none, .extract (.t 37) 0⟩,
      ⟨(some 39), none, .extract (.t 37) 1⟩,
      ⟨(some 40), none, .extract (.t 37) 2⟩,
      ⟨(some 4), none, .move (.t 38)⟩,
      ⟨(some 5), none, .move (.t 39)⟩,
      ⟨(some 6), none, .move (.t 40)⟩] (some [4, 5, 6]))
    .ret)
    (.seq (.ops [⟨(some 42), none, .bin .eql 3 (.t 24) (.c (.int .i64 3))⟩,
      ⟨(some 41), none, .move (.t 42)⟩] (some [0, 3, 24, 41]))
    (.cond (.t 41)
     (.seq (.opsd [(0, 0, ⟨(some 43), none, .move (.t 0)⟩),
       (1, 1, ⟨(some 44), none, .nilCheck (.t 43)⟩),
       (2, 3, ⟨(some 45), none, .fieldAddr 6 (.t 44)⟩),
       (3, 7, ⟨(some 46), none, .load false 1 (.t 45)⟩),
       (4, 15, ⟨(some 47), none, .nilCheck (.t 46)⟩),
       (5, 31, ⟨(some 48), none, .fieldAddr 0 (.t 47)⟩),
       (6, 63, ⟨(some 49), none, .load false 1 (.t 48)⟩),
       (7, 0, ⟨(some 50), none, .fieldAddr 2 (.t 3)⟩),
       (8, 128, ⟨(some 51), none, .load false 1 (.t 50)⟩),
       (9, 511, ⟨(some 52), none, .call (.c (.func (.func 44) #[] #[])) [(.t 49), (.t 51)]⟩),
       (10, 1023, ⟨(some 53), none, .call (.c (.func (.func 45) #[] #[])) [(.t 52)]⟩),
       (11, 2047, ⟨(some 54), none, .conv 3 77 (.t 53)⟩),
       (12, 4095, ⟨(some 55), none, .build [(.int .i64 0), (.int .u64 0), (.bool false), (.bool false), (.string .empty), (.int .u64 0), (.slice none 0 0), (.int .i64 0), (.int .u64 0), (.int .u64 0), (.int .u64 0), (.int .u64 0)] [(0, 1), (1, 1), (2, 1), (3, 3), (6, 1), (7, 5)] [(1, (.t 54))]⟩),
       (13, 8191, ⟨(some 56), none, .call (.c (.func (.func 43) #[] #[])) [(.t 55)]⟩),
       (14, 16383, ⟨(some 57), none, .extract (.t 56) 0⟩),
       (15, 16383, ⟨(some 58), none, .extract (.t 56) 1⟩),
       (16, 16383, ⟨(some 59), none, .extract (.t 56) 2⟩),
       (17, 131071, ⟨(some 4), none, .move (.t 57)⟩),
       (18, 262143, ⟨(some 5), none, .move (.t 58)⟩),
       (19, 524287, ⟨(some 6), none, .move (.t 59)⟩)] (some [4, 5, 6]))
     .ret)
     (.seq (.ops [⟨(some 61), none, .bin .eql 3 (.t 24) (.c (.int .i64 4))⟩,
       ⟨(some 60), none, .move (.t 61)⟩] (some [0, 3, 24, 60]))
     (.cond (.t 60)
      (.seq (.ops [⟨(some 62), none, .move (.t 0)⟩,
        ⟨(some 63), none, .fieldAddr 2 (.t 3)⟩,
        ⟨(some 64), none, .load false 1 (.t 63)⟩,
        ⟨(some 65), none, .call (.c (.func (.func 46) #[] #[])) [(.t 62), (.t 64)]⟩,
        ⟨(some 66), none, .extract (.t 65) 0⟩,
        ⟨(some 67), none, .extract (.t 65) 1⟩,
        ⟨(some 68), none, .extract (.t 65) 2⟩,
        ⟨(some 4), none, .move (.t 66)⟩,
        ⟨(some 5), none, .move (.t 67)⟩,
        ⟨(some 6), none, .move (.t 68)⟩] (some [4, 5, 6]))
      .ret)
      (.seq (.ops [⟨(some 70), none, .bin .eql 3 (.t 24) (.c (.int .i64 5))⟩,
        ⟨(some 69), none, .move (.t 70)⟩] (some [0, 3, 69]))
      (.cond (.t 69)
       (.seq (.ops [⟨(some 71), none, .move (.t 0)⟩,
         ⟨(some 72), none, .fieldAddr 4 (.t 3)⟩,
         ⟨(some 73), none, .load false 1 (.t 72)⟩,
         ⟨(some 74), none, .call (.c (.func (.func 47) #[] #[])) [(.t 71), (.t 73)]⟩,
         ⟨(some 75), none, .extract (.t 74) 0⟩,
         ⟨(some 76), none, .extract (.t 74) 1⟩,
         ⟨(some 77), none, .extract (.t 74) 2⟩,
         ⟨(some 4), none, .move (.t 75)⟩,
         ⟨(some 5), none, .move (.t 76)⟩,
         ⟨(some 6), none, .move (.t 77)⟩] (some [4, 5, 6]))
       .ret)
       .skip))))))))))))
 (.seq (.ops [⟨(some 78), none, .move (.t 0)⟩,
   ⟨(some 79), none, .call (.c (.func (.func 48) #[] #[])) [(.t 78)]⟩,
   ⟨(some 80), none, .extract (.t 79) 0⟩,
   ⟨(some 81), none, .extract (.t 79) 1⟩,
   ⟨(some 82), none, .extract (.t 79) 2⟩,
   ⟨(some 4), none, .move (.t 80)⟩,
   ⟨(some 5), none, .move (.t 81)⟩,
   ⟨(some 6), none, .move (.t 82)⟩] (some [4, 5, 6]))
 .ret)))))), [.tmp 4, .tmp 5, .tmp 6]⟩

theorem is9 : FnIs Tryz.prog 9 x9 := ⟨Tryz.f9, _, Tryz.func9, by kernel_rfl, rfl, by kernel_rfl, by decide, by kernel_rfl⟩

/-- cloisonne/desk.Open -/
def x10 : XDecl := .code ⟨2, 
 (.seq (.ops [⟨(some 2), none, .box (.t 0)⟩,
   ⟨(some 4), none, .move (.c (.pointer none))⟩,
   ⟨(some 5), none, .move (.c (.int .i64 0))⟩] (some [1, 2]))
 (.seq (.ops [⟨(some 9), none, .load true 4 (.t 2)⟩,
   ⟨(some 10), none, .move (.t 1)⟩,
   ⟨(some 11), none, .call (.c (.func (.func 49) #[] #[])) [(.t 9), (.t 10)]⟩,
   ⟨(some 8), none, .move (.t 11)⟩,
   ⟨(some 12), none, .extract (.t 8) 0⟩,
   ⟨(some 13), none, .extract (.t 8) 1⟩,
   ⟨(some 6), none, .move (.t 12)⟩,
   ⟨(some 7), none, .move (.t 13)⟩] (some [1, 6, 7]))
 (.seq (.seq (.ops [⟨(some 14), none, .move (.t 7)⟩,
   ⟨(some 15), none, .bin .neq 32 (.t 14) (.c (.int .i64 0))⟩] (some [1, 6, 7, 15]))
 (.cond (.t 15)
  (.seq (.ops [⟨(some 16), none, .move (.t 7)⟩,
    ⟨(some 4), none, .move (.c (.pointer none))⟩,
    ⟨(some 5), none, .move (.t 16)⟩] (some [4, 5]))
  .ret)
  .skip))
 (.seq (.ops [⟨(some 17), none, .move (.t 6)⟩,
   ⟨(some 18), none, .nilCheck (.t 17)⟩,
   ⟨(some 19), none, .fieldAddr 0 (.t 18)⟩,
   ⟨(some 20), none, .load false 1 (.t 19)⟩,
   ⟨(some 21), none, .call (.c (.func (.func 50) #[] #[])) [(.t 20)]⟩,
   ⟨(some 22), none, .move (.t 1)⟩,
   ⟨(some 23), none, .move (.t 6)⟩,
   ⟨(some 24), none, .build [(.int .i64 0), (.int .i64 0), (.int .i64 0), (.slice none 0 0), (.pointer none), (.int .i64 0), (.pointer none)] [(0, 4), (4, 1), (5, 1), (6, 1)] [(0, (.t 21)), (1, (.t 22)), (3, (.t 23))]⟩,
   ⟨(some 25), none, .box (.t 24)⟩,
   ⟨(some 4), none, .move (.t 25)⟩,
   ⟨(some 5), none, .move (.c (.int .i64 0))⟩] (some [4, 5]))
 .ret)))), [.tmp 4, .tmp 5]⟩

theorem is10 : FnIs Tryz.prog 10 x10 := ⟨Tryz.f10, _, Tryz.func10, by kernel_rfl, rfl, by kernel_rfl, by decide, by kernel_rfl⟩

/-- cloisonne/extent.New -/
def x11 : XDecl := .code ⟨2, 
 (.seq (.ops [⟨(some 4), none, .move (.c (.pointer none))⟩,
   ⟨(some 5), none, .move (.c (.int .i64 0))⟩] (some [0, 1]))
 (.seq (.seq (.ops [⟨(some 7), none, .move (.t 0)⟩,
   ⟨(some 8), none, .bin .lss 3 (.t 7) (.c (.int .i64 1))⟩,
   ⟨(some 9), none, .move (.t 8)⟩,
   ⟨(some 10), (some (9, false)), .move (.t 0)⟩,
   ⟨(some 11), (some (9, false)), .bin .gtr 3 (.t 10) (.c (.int .i64 32))⟩,
   ⟨(some 12), none, .pick (.t 9) (.c (.bool true)) (.t 11)⟩,
   ⟨(some 13), none, .move (.t 12)⟩,
   ⟨(some 14), (some (13, false)), .move (.t 1)⟩,
   ⟨(some 15), (some (13, false)), .bin .lss 3 (.t 14) (.c (.int .i64 1))⟩,
   ⟨(some 16), none, .pick (.t 13) (.c (.bool true)) (.t 15)⟩,
   ⟨(some 17), none, .move (.t 16)⟩,
   ⟨(some 18), (some (17, false)), .move (.t 1)⟩,
   ⟨(some 19), (some (17, false)), .bin .gtr 3 (.t 18) (.c (.int .i64 128))⟩,
   ⟨(some 20), none, .pick (.t 17) (.c (.bool true)) (.t 19)⟩] (some [0, 1, 20]))
 (.cond (.t 20)
  (.seq (.ops [⟨(some 4), none, .move (.c (.pointer none))⟩,
    ⟨(some 5), none, .move (.c (.int .i64 1))⟩] (some [4, 5]))
  .ret)
  .skip))
 (.seq (.ops [⟨(some 21), none, .move (.t 1)⟩,
   ⟨(some 22), none, .build [(.bool false), (.int .i64 0), (.slice none 0 0), (.slice none 0 0)] [(0, 1), (1, 1), (2, 1), (3, 1)] [(1, (.t 21))]⟩,
   ⟨(some 23), none, .box (.t 22)⟩,
   ⟨(some 6), none, .move (.t 23)⟩] (some [0, 1, 6]))
 (.seq (.seq (.ops [⟨(some 24), none, .move (.t 0)⟩,
   ⟨(some 25), none, .move (.c (.int .i64 0))⟩] (some [1, 6, 24, 25]))
 (.block 0
  (.loop
   (.seq (.ops [⟨(some 26), none, .bin .lss 3 (.t 25) (.t 24)⟩] (some [1, 6, 24, 25, 26]))
   (.seq (.cond (.t 26)
    .skip
    (.exit 0))
   (.seq (.block 1
    (.seq (.opsd [(0, 0, ⟨(some 27), none, .move (.t 6)⟩),
      (1, 0, ⟨(some 28), none, .move (.t 6)⟩),
      (2, 2, ⟨(some 29), none, .nilCheck (.t 28)⟩),
      (3, 6, ⟨(some 30), none, .fieldAddr 2 (.t 29)⟩),
      (4, 14, ⟨(some 31), none, .load false 1 (.t 30)⟩),
      (5, 0, ⟨(some 32), none, .move (.t 1)⟩),
      (6, 32, ⟨(some 33), none, .makeSlice [(.string .empty)] 16 (.t 32) (.t 32)⟩),
      (7, 96, ⟨(some 34), none, .buildSlice [(.slice none 0 0)] 1 1 [(0, (.t 33))]⟩),
      (8, 254, ⟨(some 35), none, .append 1 24 [(.slice none 0 0)] (.t 31) (.t 34)⟩),
      (9, 511, ⟨(some 36), none, .nilCheck (.t 27)⟩),
      (10, 1023, ⟨(some 37), none, .fieldAddr 2 (.t 36)⟩),
      (11, 2047, ⟨none, none, .store 1 (.t 37) (.t 35)⟩)] (some [1, 6, 24, 25]))
    (.ops [⟨(some 38), none, .move (.t 6)⟩,
      ⟨(some 39), none, .move (.t 6)⟩,
      ⟨(some 40), none, .nilCheck (.t 39)⟩,
      ⟨(some 41), none, .fieldAddr 3 (.t 40)⟩,
      ⟨(some 42), none, .load false 1 (.t 41)⟩,
      ⟨(some 43), none, .makeMap⟩,
      ⟨(some 44), none, .buildSlice [(.map none)] 1 1 [(0, (.t 43))]⟩,
      ⟨(some 45), none, .append 1 8 [(.map none)] (.t 42) (.t 44)⟩,
      ⟨(some 46), none, .nilCheck (.t 38)⟩,
      ⟨(some 47), none, .fieldAddr 3 (.t 46)⟩,
      ⟨none, none, .store 1 (.t 47) (.t 45)⟩] (some [1, 6, 24, 25]))))
   (.ops [⟨(some 48), none, .bin .add 3 (.t 25) (.c (.int .i64 1))⟩,
     ⟨(some 25), none, .move (.t 48)⟩] (some [1, 6, 24, 25]))))))))
 (.seq (.ops [⟨(some 49), none, .move (.t 6)⟩,
   ⟨(some 4), none, .move (.t 49)⟩,
   ⟨(some 5), none, .move (.c (.int .i64 0))⟩] (some [4, 5]))
 .ret))))), [.tmp 4, .tmp 5]⟩

theorem is11 : FnIs Tryz.prog 11 x11 := ⟨Tryz.f11, _, Tryz.func11, by kernel_rfl, rfl, by kernel_rfl, by decide, by kernel_rfl⟩

/-- (*cloisonne/desk.Desk).Up -/
def x12 : XDecl := .code ⟨1, 
 (.seq (.ops [⟨(some 2), none, .move (.c (.bool false))⟩] (some [0]))
 (.seq (.ops [⟨(some 3), none, .move (.t 0)⟩,
   ⟨(some 4), none, .isNil .ptr true (.t 3)⟩,
   ⟨(some 5), none, .move (.t 4)⟩,
   ⟨(some 6), (some (5, true)), .move (.t 0)⟩,
   ⟨(some 7), (some (5, true)), .nilCheck (.t 6)⟩,
   ⟨(some 8), (some (5, true)), .fieldAddr 6 (.t 7)⟩,
   ⟨(some 9), (some (5, true)), .load false 1 (.t 8)⟩,
   ⟨(some 10), (some (5, true)), .isNil .ptr true (.t 9)⟩,
   ⟨(some 11), none, .pick (.t 5) (.t 10) (.c (.bool false))⟩,
   ⟨(some 2), none, .move (.t 11)⟩] (some [2]))
 .ret)), [.tmp 2]⟩

theorem is12 : FnIs Tryz.prog 12 x12 := ⟨Tryz.f12, _, Tryz.func12, by kernel_rfl, rfl, by kernel_rfl, by decide, by kernel_rfl⟩

/-- (*cloisonne/desk.Desk).Now -/
def x13 : XDecl := .code ⟨1, 
 (.seq (.ops [⟨(some 2), none, .move (.c (.int .i64 0))⟩] (some [0]))
 (.seq (.seq (.ops [⟨(some 3), none, .move (.t 0)⟩,
   ⟨(some 4), none, .isNil .ptr false (.t 3)⟩] (some [0, 4]))
 (.cond (.t 4)
  (.seq (.ops [⟨(some 2), none, .move (.c (.int .i64 0))⟩] (some [2]))
  .ret)
  .skip))
 (.seq (.ops [⟨(some 5), none, .move (.t 0)⟩,
   ⟨(some 6), none, .nilCheck (.t 5)⟩,
   ⟨(some 7), none, .fieldAddr 5 (.t 6)⟩,
   ⟨(some 8), none, .load false 1 (.t 7)⟩,
   ⟨(some 2), none, .move (.t 8)⟩] (some [2]))
 .ret))), [.tmp 2]⟩

theorem is13 : FnIs Tryz.prog 13 x13 := ⟨Tryz.f13, _, Tryz.func13, by kernel_rfl, rfl, by kernel_rfl, by decide, by kernel_rfl⟩

/-- (*cloisonne/desk.Desk).Vault -/
def x14 : XDecl := .code ⟨1, 
 (.seq (.ops [⟨(some 2), none, .move (.c (.pointer none))⟩] (some [0]))
 (.seq (.seq (.ops [⟨(some 3), none, .move (.t 0)⟩,
   ⟨(some 4), none, .call (.c (.func (.func 12) #[] #[])) [(.t 3)]⟩,
   ⟨(some 5), none, .un .not (.t 4)⟩] (some [0, 5]))
 (.cond (.t 5)
  (.seq (.ops [⟨(some 2), none, .move (.c (.pointer none))⟩] (some [2]))
  .ret)
  .skip))
 (.seq (.ops [⟨(some 6), none, .move (.t 0)⟩,
   ⟨(some 7), none, .nilCheck (.t 6)⟩,
   ⟨(some 8), none, .fieldAddr 6 (.t 7)⟩,
   ⟨(some 9), none, .load false 1 (.t 8)⟩,
   ⟨(some 10), none, .nilCheck (.t 9)⟩,
   ⟨(some 11), none, .fieldAddr 0 (.t 10)⟩,
   ⟨(some 12), none, .load false 1 (.t 11)⟩,
   ⟨(some 2), none, .move (.t 12)⟩] (some [2]))
 .ret))), [.tmp 2]⟩

theorem is14 : FnIs Tryz.prog 14 x14 := ⟨Tryz.f14, _, Tryz.func14, by kernel_rfl, rfl, by kernel_rfl, by decide, by kernel_rfl⟩

/-- (*cloisonne/desk.Desk).Session -/
def x16 : XDecl := .code ⟨2, 
 (.seq (.ops [⟨(some 4), none, .move (.c (.pointer none))⟩] (some [0, 1]))
 (.seq (.seq (.ops [⟨(some 5), none, .move (.t 0)⟩,
   ⟨(some 6), none, .call (.c (.func (.func 12) #[] #[])) [(.t 5)]⟩,
   ⟨(some 7), none, .un .not (.t 6)⟩,
   ⟨(some 8), none, .move (.t 7)⟩,
   ⟨(some 9), (some (8, false)), .move (.t 1)⟩,
   ⟨(some 10), (some (8, false)), .move (.t 0)⟩,
   ⟨(some 11), (some (8, false)), .nilCheck (.t 10)⟩,
   ⟨(some 12), (some (8, false)), .fieldAddr 0 (.t 11)⟩,
   ⟨(some 13), (some (8, false)), .fieldAddr 1 (.t 12)⟩,
   ⟨(some 14), (some (8, false)), .load false 1 (.t 13)⟩,
   ⟨(some 15), (some (8, false)), .bin .sub 3 (.t 14) (.c (.int .i64 1))⟩,
   ⟨(some 16), (some (8, false)), .call (.c (.func (.func 51) #[] #[])) [(.t 9), (.c (.int .i64 0)), (.t 15)]⟩,
   ⟨(some 17), (some (8, false)), .un .not (.t 16)⟩,
   ⟨(some 18), none, .pick (.t 8) (.c (.bool true)) (.t 17)⟩] (some [0, 1, 18]))
 (.cond (.t 18)
  (.seq (.ops [⟨(some 4), none, .move (.c (.pointer none))⟩] (some [4]))
  .ret)
  .skip))
 (.seq (.ops [⟨(some 19), none, .move (.t 0)⟩,
   ⟨(some 20), none, .nilCheck (.t 19)⟩,
   ⟨(some 21), none, .fieldAddr 6 (.t 20)⟩,
   ⟨(some 22), none, .load false 1 (.t 21)⟩,
   ⟨(some 23), none, .nilCheck (.t 22)⟩,
   ⟨(some 24), none, .fieldAddr 1 (.t 23)⟩,
   ⟨(some 25), none, .load false 1 (.t 24)⟩,
   ⟨(some 26), none, .move (.t 1)⟩,
   ⟨(some 27), none, .indexAddr 1 (.t 25) (.t 26)⟩,
   ⟨(some 28), none, .load false 1 (.t 27)⟩,
   ⟨(some 4), none, .move (.t 28)⟩] (some [4]))
 .ret))), [.tmp 4]⟩

theorem is16 : FnIs Tryz.prog 16 x16 := ⟨Tryz.f16, _, Tryz.func16, by kernel_rfl, rfl, by kernel_rfl, by decide, by kernel_rfl⟩

/-- (*cloisonne/desk.Desk).Pending -/
def x17 : XDecl := .code ⟨1, 
 (.seq (.ops [⟨(some 2), none, .move (.c (.slice none 0 0))⟩] (some [0]))
 (.seq (.seq (.ops [⟨(some 6), none, .move (.t 0)⟩,
   ⟨(some 7), none, .call (.c (.func (.func 12) #[] #[])) [(.t 6)]⟩,
   ⟨(some 8), none, .un .not (.t 7)⟩] (some [0, 8]))
 (.cond (.t 8)
  (.seq (.ops [⟨(some 2), none, .move (.c (.slice none 0 0))⟩] (some [2]))
  .ret)
  .skip))
 (.seq (.ops [⟨(some 3), none, .move (.c (.slice none 0 0))⟩] (some [0, 3]))
 (.seq (.seq (.ops [⟨(some 9), none, .move (.t 0)⟩,
   ⟨(some 10), none, .nilCheck (.t 9)⟩,
   ⟨(some 11), none, .fieldAddr 6 (.t 10)⟩,
   ⟨(some 12), none, .load false 1 (.t 11)⟩,
   ⟨(some 13), none, .nilCheck (.t 12)⟩,
   ⟨(some 14), none, .fieldAddr 1 (.t 13)⟩,
   ⟨(some 15), none, .load false 1 (.t 14)⟩,
   ⟨(some 16), none, .len (.t 15)⟩,
   ⟨(some 17), none, .move (.c (.int .i64 0))⟩] (some [3, 15, 16, 17]))
 (.block 0
  (.loop
   (.seq (.ops [⟨(some 18), none, .bin .lss 3 (.t 17) (.t 16)⟩] (some [3, 15, 16, 17, 18]))
   (.seq (.cond (.t 18)
    .skip
    (.exit 0))
   (.seq (.block 1
    (.seq (.ops [⟨(some 19), none, .move (.t 17)⟩,
      ⟨(some 20), none, .indexAddr 1 (.t 15) (.t 17)⟩,
      ⟨(some 21), none, .load false 1 (.t 20)⟩,
      ⟨(some 4), none, .move (.t 19)⟩,
      ⟨(some 5), none, .move (.t 21)⟩] (some [3, 4, 5, 15, 16, 17]))
    (.seq (.ops [⟨(some 22), none, .move (.t 5)⟩,
      ⟨(some 23), none, .call (.c (.func (.func 52) #[] #[])) [(.t 22)]⟩] (some [3, 4, 15, 16, 17, 23]))
    (.cond (.t 23)
     (.ops [⟨(some 24), none, .move (.t 3)⟩,
       ⟨(some 25), none, .move (.t 4)⟩,
       ⟨(some 26), none, .buildSlice [(.int .i64 0)] 1 1 [(0, (.t 25))]⟩,
       ⟨(some 27), none, .append 1 8 [(.int .i64 0)] (.t 24) (.t 26)⟩,
       ⟨(some 3), none, .move (.t 27)⟩] (some [3, 15, 16, 17]))
     .skip))))
   (.ops [⟨(some 28), none, .bin .add 3 (.t 17) (.c (.int .i64 1))⟩,
     ⟨(some 17), none, .move (.t 28)⟩] (some [3, 15, 16, 17]))))))))
 (.seq (.ops [⟨(some 29), none, .move (.t 3)⟩,
   ⟨(some 2), none, .move (.t 29)⟩] (some [2]))
 .ret))))), [.tmp 2]⟩

theorem is17 : FnIs Tryz.prog 17 x17 := ⟨Tryz.f17, _, Tryz.func17, by kernel_rfl, rfl, by kernel_rfl, by decide, by kernel_rfl⟩

/-- (*cloisonne/desk.Desk).Tidying -/
def x18 : XDecl := .code ⟨2, 
 (.seq (.ops [⟨(some 4), none, .move (.c (.bool false))⟩] (some [0, 1]))
 (.seq (.ops [⟨(some 5), none, .move (.t 0)⟩,
   ⟨(some 6), none, .call (.c (.func (.func 12) #[] #[])) [(.t 5)]⟩,
   ⟨(some 7), none, .move (.t 6)⟩,
   ⟨(some 8), (some (7, true)), .move (.t 0)⟩,
   ⟨(some 9), (some (7, true)), .nilCheck (.t 8)⟩,
   ⟨(some 10), (some (7, true)), .fieldAddr 6 (.t 9)⟩,
   ⟨(some 11), (some (7, true)), .load false 1 (.t 10)⟩,
   ⟨(some 12), (some (7, true)), .nilCheck (.t 11)⟩,
   ⟨(some 13), (some (7, true)), .fieldAddr 2 (.t 12)⟩,
   ⟨(some 14), (some (7, true)), .load false 1 (.t 13)⟩,
   ⟨(some 15), (some (7, true)), .move (.t 1)⟩,
   ⟨(some 16), (some (7, true)), .lookup true (.pointer none) false (.t 14) (.t 15)⟩,
   ⟨(some 17), (some (7, true)), .isNil .ptr true (.t 16)⟩,
   ⟨(some 18), none, .pick (.t 7) (.t 17) (.c (.bool false))⟩,
   ⟨(some 4), none, .move (.t 18)⟩] (some [4]))
 .ret)), [.tmp 4]⟩

theorem is18 : FnIs Tryz.prog 18 x18 := ⟨Tryz.f18, _, Tryz.func18, by kernel_rfl, rfl, by kernel_rfl, by decide, by kernel_rfl⟩

/-- cloisonne/cloisonnelaw23.awake -/
def x20 : XDecl := .code ⟨0, 
 (.seq (.ops [⟨(some 0), none, .move (.c (.bool false))⟩] (some []))
 (.seq (.ops [⟨(some 9), none, .call (.c (.func (.func 36) #[] #[])) []⟩,
   ⟨(some 10), none, .call (.c (.func (.func 53) #[] #[])) [(.t 9)]⟩,
   ⟨(some 8), none, .move (.t 10)⟩,
   ⟨(some 11), none, .extract (.t 8) 0⟩,
   ⟨(some 12), none, .extract (.t 8) 1⟩,
   ⟨(some 1), none, .move (.t 11)⟩,
   ⟨(some 2), none, .move (.t 12)⟩] (some [1, 2]))
 (.seq (.seq (.ops [⟨(some 13), none, .move (.t 2)⟩,
   ⟨(some 14), none, .un .not (.t 13)⟩] (some [1, 14]))
 (.cond (.t 14)
  (.seq (.ops [⟨(some 0), none, .move (.c (.bool false))⟩] (some [0]))
  .ret)
  .skip))
 (.seq (.seq (.ops [⟨(some 3), none, .move (.c (.int .i64 0))⟩] (some [1, 3]))
 (.block 0
  (.loop
   (.seq (.seq (.ops [⟨(some 15), none, .move (.t 3)⟩,
     ⟨(some 16), none, .bin .lss 3 (.t 15) (.c (.int .i64 2))⟩] (some [1, 3, 16]))
   (.cond (.t 16)
    .skip
    (.exit 0)))
   (.seq (.block 1
    (.seq (.ops [⟨(some 19), none, .build [(.int .i64 0), (.int .i64 0), (.slice none 0 0), (.int .u64 0), (.bool false), (.int .i64 0), (.string .empty), (.bool false), (.string .empty), (.int .u64 0), (.string .empty), (.string .empty), (.int .i64 0), (.int .i64 0), (.slice none 0 0)] [(0, 1), (1, 1), (2, 1), (3, 1), (4, 1), (5, 1), (6, 1), (7, 3), (10, 3), (13, 1), (14, 1)] [(0, (.c (.int .i64 1)))]⟩,
      ⟨(some 20), none, .build [(.int .i64 0), (.int .i64 0), (.slice none 0 0), (.int .u64 0), (.bool false), (.int .i64 0), (.string .empty), (.bool false), (.string .empty), (.int .u64 0), (.string .empty), (.string .empty), (.int .i64 0), (.int .i64 0), (.slice none 0 0)] [(0, 1), (1, 1), (2, 1), (3, 1), (4, 1), (5, 1), (6, 1), (7, 3), (10, 3), (13, 1), (14, 1)] [(0, (.c (.int .i64 7)))]⟩,
      ⟨(some 21), none, .build [(.int .i64 0), (.int .i64 0), (.slice none 0 0), (.int .u64 0), (.bool false), (.int .i64 0), (.string .empty), (.bool false), (.string .empty), (.int .u64 0), (.string .empty), (.string .empty), (.int .i64 0), (.int .i64 0), (.slice none 0 0)] [(0, 1), (1, 1), (2, 1), (3, 1), (4, 1), (5, 1), (6, 1), (7, 3), (10, 3), (13, 1), (14, 1)] [(0, (.c (.int .i64 9))), (6, (.c (.string ⟨#[107]⟩)))]⟩,
      ⟨(some 22), none, .build [(.int .i64 0), (.int .i64 0), (.slice none 0 0), (.int .u64 0), (.bool false), (.int .i64 0), (.string .empty), (.bool false), (.string .empty), (.int .u64 0), (.string .empty), (.string .empty), (.int .i64 0), (.int .i64 0), (.slice none 0 0)] [(0, 1), (1, 1), (2, 1), (3, 1), (4, 1), (5, 1), (6, 1), (7, 3), (10, 3), (13, 1), (14, 1)] [(0, (.c (.int .i64 14)))]⟩,
      ⟨(some 23), none, .buildSlice [(.int .i64 0), (.int .i64 0), (.slice none 0 0), (.int .u64 0), (.bool false), (.int .i64 0), (.string .empty), (.bool false), (.string .empty), (.int .u64 0), (.string .empty), (.string .empty), (.int .i64 0), (.int .i64 0), (.slice none 0 0)] 15 4 [(0, (.t 19)), (1, (.t 20)), (2, (.t 21)), (3, (.t 22))]⟩,
      ⟨(some 4), none, .move (.t 23)⟩] (some [1, 3, 4]))
    (.seq (.ops [⟨(some 5), none, .move (.c (.int .i64 0))⟩] (some [1, 3, 4, 5]))
    (.block 2
     (.loop
      (.seq (.seq (.ops [⟨(some 24), none, .move (.t 5)⟩,
        ⟨(some 25), none, .move (.t 4)⟩,
        ⟨(some 26), none, .len (.t 25)⟩,
        ⟨(some 27), none, .bin .lss 3 (.t 24) (.t 26)⟩] (some [1, 3, 4, 5, 27]))
      (.cond (.t 27)
       .skip
       (.exit 2)))
      (.seq (.block 3
       (.seq (.ops [⟨(some 30), none, .move (.t 1)⟩,
         ⟨(some 31), none, .move (.t 3)⟩,
         ⟨(some 32), none, .move (.t 4)⟩,
         ⟨(some 33), none, .move (.t 5)⟩,
         ⟨(some 34), none, .indexAddr 15 (.t 32) (.t 33)⟩,
         ⟨(some 35), none, .load true 15 (.t 34)⟩,
         ⟨(some 36), none, .call (.c (.func (.func 54) #[] #[])) [(.t 35)]⟩,
         ⟨(some 37), none, .build [(.int .i64 0), (.int .i64 0), (.int .i64 0), (.string .empty), (.slice none 0 0)] [(0, 1), (1, 1), (2, 1), (3, 1), (4, 1)] [(0, (.c (.int .i64 1))), (1, (.t 31)), (3, (.t 36))]⟩,
         ⟨(some 38), none, .call (.c (.func (.func 21) #[] #[])) [(.t 30), (.t 37)]⟩] (some [1, 3, 4, 5]))
       (.seq (.ops [⟨(some 39), none, .move (.t 5)⟩,
         ⟨(some 40), none, .bin .lss 3 (.t 39) (.c (.int .i64 3))⟩] (some [1, 3, 4, 5, 40]))
       (.cond (.t 40)
        (.ops [⟨(some 41), none, .move (.t 1)⟩,
          ⟨(some 42), none, .move (.t 3)⟩,
          ⟨(some 43), none, .build [(.int .i64 0), (.int .i64 0), (.int .i64 0), (.string .empty), (.slice none 0 0)] [(0, 1), (1, 1), (2, 1), (3, 1), (4, 1)] [(0, (.c (.int .i64 2))), (1, (.t 42))]⟩,
          ⟨(some 44), none, .call (.c (.func (.func 21) #[] #[])) [(.t 41), (.t 43)]⟩] (some [1, 3, 4, 5]))
        .skip))))
      (.ops [⟨(some 28), none, .move (.t 5)⟩,
        ⟨(some 29), none, .bin .add 3 (.t 28) (.c (.int .i64 1))⟩,
        ⟨(some 5), none, .move (.t 29)⟩] (some [1, 3, 4, 5])))))))))
   (.ops [⟨(some 17), none, .move (.t 3)⟩,
     ⟨(some 18), none, .bin .add 3 (.t 17) (.c (.int .i64 1))⟩,
     ⟨(some 3), none, .move (.t 18)⟩] (some [1, 3])))))))
 (.seq (.ops [⟨(some 45), none, .move (.t 1)⟩,
   ⟨(some 46), none, .call (.c (.func (.func 28) #[] #[])) [(.t 45), (.c (.int .i64 50))]⟩,
   ⟨(some 6), none, .move (.t 46)⟩] (some [1, 6]))
 (.seq (.ops [⟨(some 47), none, .move (.t 1)⟩,
   ⟨(some 48), none, .call (.c (.func (.func 26) #[] #[])) [(.t 47)]⟩,
   ⟨(some 7), none, .move (.t 48)⟩] (some [6, 7]))
 (.seq (.ops [⟨(some 49), none, .move (.t 6)⟩,
   ⟨(some 50), none, .bin .gtr 3 (.t 49) (.c (.int .i64 4))⟩,
   ⟨(some 51), none, .move (.t 50)⟩,
   ⟨(some 52), (some (51, true)), .move (.t 7)⟩,
   ⟨(some 53), (some (51, true)), .len (.t 52)⟩,
   ⟨(some 54), (some (51, true)), .bin .eql 3 (.t 53) (.c (.int .i64 8))⟩,
   ⟨(some 55), none, .pick (.t 51) (.t 54) (.c (.bool false))⟩,
   ⟨(some 56), none, .move (.t 55)⟩,
   ⟨(some 57), (some (56, true)), .move (.t 7)⟩,
   ⟨(some 58), (some (56, true)), .indexAddr 6 (.t 57) (.c (.int .i64 7))⟩,
   ⟨(some 59), (some (56, true)), .fieldAddr 5 (.t 58)⟩,
   ⟨(some 60), (some (56, true)), .load false 1 (.t 59)⟩,
   ⟨(some 61), (some (56, true)), .bin .eql 9 (.t 60) (.c (.string ⟨#[13]⟩))⟩,
   ⟨(some 62), none, .pick (.t 56) (.t 61) (.c (.bool false))⟩,
   ⟨(some 0), none, .move (.t 62)⟩] (some [0]))
 .ret))))))), [.tmp 0]⟩

theorem is20 : FnIs Tryz.prog 20 x20 := ⟨Tryz.f20, _, Tryz.func20, by kernel_rfl, rfl, by kernel_rfl, by decide, by kernel_rfl⟩

/-- (*cloisonne/watch.Watch).Do -/
def x21 : XDecl := .code ⟨2, 
 (.seq (.ops [⟨(some 3), none, .box (.t 1)⟩,
   ⟨(some 4), none, .move (.c (.int .i64 0))⟩,
   ⟨(some 5), none, .move (.c (.string .empty))⟩,
   ⟨(some 6), none, .move (.c (.int .i64 0))⟩] (some [0, 3]))
 (.seq (.seq (.ops [⟨(some 10), none, .move (.t 0)⟩,
   ⟨(some 11), none, .isNil .ptr false (.t 10)⟩] (some [0, 3, 11]))
 (.cond (.t 11)
  (.seq (.ops [⟨(some 4), none, .move (.c (.int .i64 0))⟩,
    ⟨(some 5), none, .move (.c (.string .empty))⟩,
    ⟨(some 6), none, .move (.c (.int .i64 2))⟩] (some [4, 5, 6]))
  .ret)
  .skip))
 (.seq (.opsd [(0, 0, ⟨(some 13), none, .move (.t 0)⟩),
   (1, 1, ⟨(some 14), none, .nilCheck (.t 13)⟩),
   (2, 3, ⟨(some 15), none, .fieldAddr 0 (.t 14)⟩),
   (3, 7, ⟨(some 16), none, .load false 1 (.t 15)⟩),
   (4, 0, ⟨(some 17), none, .load true 5 (.t 3)⟩),
   (5, 31, ⟨(some 18), none, .call (.c (.func (.func 9) #[] #[])) [(.t 16), (.t 17)]⟩),
   (6, 63, ⟨(some 12), none, .move (.t 18)⟩),
   (7, 127, ⟨(some 19), none, .extract (.t 12) 0⟩),
   (8, 127, ⟨(some 20), none, .extract (.t 12) 1⟩),
   (9, 127, ⟨(some 21), none, .extract (.t 12) 2⟩),
   (10, 255, ⟨(some 7), none, .move (.t 19)⟩),
   (11, 1535, ⟨(some 8), none, .move (.t 20)⟩),
   (12, 4095, ⟨(some 9), none, .move (.t 21)⟩)] (some [0, 3, 7, 8, 9]))
 (.seq (.block 0
  (.seq (.ops [⟨(some 45), none, .move (.t 9)⟩,
    ⟨(some 46), none, .bin .neq 32 (.t 45) (.c (.int .i64 0))⟩,
    ⟨(some 44), none, .move (.t 46)⟩] (some [0, 3, 7, 8, 9, 44]))
  (.cond (.t 44)
   .skip
   (.seq (.ops [⟨(some 48), none, .fieldAddr 0 (.t 3)⟩,
     ⟨(some 49), none, .load false 1 (.t 48)⟩,
     ⟨(some 50), none, .bin .eql 3 (.t 49) (.c (.int .i64 1))⟩,
     ⟨(some 51), none, .move (.t 50)⟩,
     ⟨(some 52), (some (51, true)), .move (.t 7)⟩,
     ⟨(some 53), (some (51, true)), .bin .eql 3 (.t 52) (.c (.int .i64 1))⟩,
     ⟨(some 54), none, .pick (.t 51) (.t 53) (.c (.bool false))⟩,
     ⟨(some 47), none, .move (.t 54)⟩] (some [0, 3, 7, 8, 9, 47]))
   (.cond (.t 47)
    (.opsd [(0, 0, ⟨(some 55), none, .move (.t 0)⟩),
      (1, 1, ⟨(some 56), none, .nilCheck (.t 55)⟩),
      (2, 3, ⟨(some 57), none, .fieldAddr 1 (.t 56)⟩),
      (3, 7, ⟨(some 58), none, .load false 1 (.t 57)⟩),
      (4, 0, ⟨(some 59), none, .fieldAddr 1 (.t 3)⟩),
      (5, 16, ⟨(some 60), none, .load false 1 (.t 59)⟩),
      (6, 0, ⟨(some 61), none, .fieldAddr 3 (.t 3)⟩),
      (7, 64, ⟨(some 62), none, .load false 1 (.t 61)⟩),
      (8, 255, ⟨none, none, .mapUpdate true (.t 58) (.t 60) (.t 62)⟩)] (some [7, 8, 9]))
    (.seq (.ops [⟨(some 64), none, .move (.t 7)⟩,
      ⟨(some 65), none, .bin .neq 3 (.t 64) (.c (.int .i64 2))⟩,
      ⟨(some 63), none, .move (.t 65)⟩] (some [0, 3, 7, 8, 9, 63]))
    (.cond (.t 63)
     .skip
     (.seq (.ops [⟨(some 67), none, .fieldAddr 0 (.t 3)⟩,
       ⟨(some 68), none, .load false 1 (.t 67)⟩,
       ⟨(some 69), none, .bin .eql 3 (.t 68) (.c (.int .i64 1))⟩,
       ⟨(some 70), none, .move (.t 69)⟩,
       ⟨(some 71), (some (70, false)), .fieldAddr 0 (.t 3)⟩,
       ⟨(some 72), (some (70, false)), .load false 1 (.t 71)⟩,
       ⟨(some 73), (some (70, false)), .bin .eql 3 (.t 72) (.c (.int .i64 2))⟩,
       ⟨(some 74), none, .pick (.t 70) (.c (.bool true)) (.t 73)⟩,
       ⟨(some 66), none, .move (.t 74)⟩] (some [0, 3, 7, 8, 9, 66]))
     (.cond (.t 66)
      (.ops [⟨(some 75), none, .move (.t 0)⟩,
        ⟨(some 76), none, .load true 5 (.t 3)⟩,
        ⟨(some 77), none, .move (.t 8)⟩,
        ⟨(some 78), none, .call (.c (.func (.func 55) #[] #[])) [(.t 75), (.t 76), (.t 77)]⟩] (some [7, 8, 9]))
      (.seq (.ops [⟨(some 80), none, .fieldAddr 0 (.t 3)⟩,
        ⟨(some 81), none, .load false 1 (.t 80)⟩,
        ⟨(some 82), none, .bin .eql 3 (.t 81) (.c (.int .i64 3))⟩,
        ⟨(some 83), none, .move (.t 82)⟩,
        ⟨(some 84), (some (83, false)), .fieldAddr 0 (.t 3)⟩,
        ⟨(some 85), (some (83, false)), .load false 1 (.t 84)⟩,
        ⟨(some 86), (some (83, false)), .bin .eql 3 (.t 85) (.c (.int .i64 4))⟩,
        ⟨(some 87), none, .pick (.t 83) (.c (.bool true)) (.t 86)⟩,
        ⟨(some 79), none, .move (.t 87)⟩] (some [0, 3, 7, 8, 9, 79]))
      (.cond (.t 79)
       (.opsd [(0, 0, ⟨(some 88), none, .move (.t 0)⟩),
         (1, 0, ⟨(some 89), none, .fieldAddr 0 (.t 3)⟩),
         (2, 2, ⟨(some 90), none, .load false 1 (.t 89)⟩),
         (3, 0, ⟨(some 91), none, .fieldAddr 2 (.t 3)⟩),
         (4, 8, ⟨(some 92), none, .load false 1 (.t 91)⟩),
         (5, 0, ⟨(some 93), none, .move (.t 0)⟩),
         (6, 32, ⟨(some 94), none, .nilCheck (.t 93)⟩),
         (7, 96, ⟨(some 95), none, .fieldAddr 0 (.t 94)⟩),
         (8, 224, ⟨(some 96), none, .load false 1 (.t 95)⟩),
         (10, 0, ⟨(some 98), none, .move (.t 8)⟩),
         (9, 480, ⟨(some 97), none, .call (.c (.func (.func 13) #[] #[])) [(.t 96)]⟩),
         (11, 2046, ⟨(some 99), none, .build [(.int .i64 0), (.int .i64 0), (.int .i64 0), (.int .i64 0), (.string .empty), (.string .empty)] [(0, 1), (1, 1), (2, 1), (3, 1), (4, 1), (5, 1)] [(0, (.t 90)), (1, (.c (.int .i64 (-1)))), (2, (.t 92)), (3, (.t 97)), (5, (.t 98))]⟩),
         (12, 4095, ⟨(some 100), none, .call (.c (.func (.func 56) #[] #[])) [(.t 88), (.t 99)]⟩)] (some [7, 8, 9]))
       (.seq (.ops [⟨(some 22), none, .move (.t 0)⟩,
         ⟨(some 23), none, .nilCheck (.t 22)⟩,
         ⟨(some 24), none, .fieldAddr 1 (.t 23)⟩,
         ⟨(some 25), none, .load false 1 (.t 24)⟩,
         ⟨none, none, .mapClear (.t 25)⟩] (some [0, 3, 7, 8, 9]))
       (.seq (.opsd [(0, 0, ⟨(some 26), none, .move (.t 0)⟩),
         (1, 0, ⟨(some 27), none, .fieldAddr 0 (.t 3)⟩),
         (2, 2, ⟨(some 28), none, .load false 1 (.t 27)⟩),
         (3, 0, ⟨(some 29), none, .move (.t 0)⟩),
         (4, 8, ⟨(some 30), none, .nilCheck (.t 29)⟩),
         (5, 24, ⟨(some 31), none, .fieldAddr 0 (.t 30)⟩),
         (6, 56, ⟨(some 32), none, .load false 1 (.t 31)⟩),
         (7, 120, ⟨(some 33), none, .call (.c (.func (.func 13) #[] #[])) [(.t 32)]⟩),
         (8, 254, ⟨(some 34), none, .build [(.int .i64 0), (.int .i64 0), (.int .i64 0), (.int .i64 0), (.string .empty), (.string .empty)] [(0, 1), (1, 1), (2, 1), (3, 1), (4, 1), (5, 1)] [(0, (.t 28)), (1, (.c (.int .i64 (-1)))), (2, (.c (.int .i64 (-1)))), (3, (.t 33))]⟩),
         (9, 511, ⟨(some 35), none, .call (.c (.func (.func 56) #[] #[])) [(.t 26), (.t 34)]⟩)] (some [0, 7, 8, 9]))
       (.ops [⟨(some 36), none, .move (.t 0)⟩,
         ⟨(some 37), none, .move (.t 0)⟩,
         ⟨(some 38), none, .nilCheck (.t 37)⟩,
         ⟨(some 39), none, .fieldAddr 0 (.t 38)⟩,
         ⟨(some 40), none, .load false 1 (.t 39)⟩,
         ⟨(some 41), none, .call (.c (.func (.func 13) #[] #[])) [(.t 40)]⟩,
         ⟨(some 42), none, .nilCheck (.t 36)⟩,
         ⟨(some 43), none, .fieldAddr 3 (.t 42)⟩,
         ⟨none, none, .store 1 (.t 43) (.t 41)⟩] (some [7, 8, 9])))))))))))))))
 (.seq (.ops [⟨(some 101), none, .move (.t 7)⟩,
   ⟨(some 102), none, .move (.t 8)⟩,
   ⟨(some 103), none, .move (.t 9)⟩,
   ⟨(some 4), none, .move (.t 101)⟩,
   ⟨(some 5), none, .move (.t 102)⟩,
   ⟨(some 6), none, .move (.t 103)⟩] (some [4, 5, 6]))
 .ret))))), [.tmp 4, .tmp 5, .tmp 6]⟩

theorem is21 : FnIs Tryz.prog 21 x21 := ⟨Tryz.f21, _, Tryz.func21, by kernel_rfl, rfl, by kernel_rfl, by decide, by kernel_rfl⟩

/-- cloisonne/watch.New -/
def x22 : XDecl := .code ⟨1, 
 (.seq (.ops [⟨(some 2), none, .move (.c (.pointer none))⟩,
   ⟨(some 3), none, .move (.c (.int .i64 0))⟩] (some [0]))
 (.seq (.seq (.ops [⟨(some 4), none, .move (.t 0)⟩,
   ⟨(some 5), none, .isNil .ptr false (.t 4)⟩] (some [0, 5]))
 (.cond (.t 5)
  (.seq (.ops [⟨(some 2), none, .move (.c (.pointer none))⟩,
    ⟨(some 3), none, .move (.c (.int .i64 2))⟩] (some [2, 3]))
  .ret)
  .skip))
 (.seq (.ops [⟨(some 6), none, .move (.t 0)⟩,
   ⟨(some 7), none, .makeMap⟩,
   ⟨(some 8), none, .build [(.pointer none), (.map none), (.slice none 0 0), (.int .i64 0)] [(0, 1), (1, 1), (2, 1), (3, 1)] [(0, (.t 6)), (1, (.t 7))]⟩,
   ⟨(some 9), none, .box (.t 8)⟩,
   ⟨(some 2), none, .move (.t 9)⟩,
   ⟨(some 3), none, .move (.c (.int .i64 0))⟩] (some [2, 3]))
 .ret))), [.tmp 2, .tmp 3]⟩

theorem is22 : FnIs Tryz.prog 22 x22 := ⟨Tryz.f22, _, Tryz.func22, by kernel_rfl, rfl, by kernel_rfl, by decide, by kernel_rfl⟩

/-- cloisonne/watch.Serial -/
def x23 : XDecl := .code ⟨2, 
 (.seq (.ops [⟨(some 4), none, .move (.c (.slice none 0 0))⟩,
   ⟨(some 5), none, .move (.c (.int .i64 0))⟩] (some [0, 1]))
 (.seq (.seq (.ops [⟨(some 12), none, .move (.t 0)⟩,
   ⟨(some 13), none, .isNil .ptr false (.t 12)⟩] (some [0, 1, 13]))
 (.cond (.t 13)
  (.seq (.ops [⟨(some 4), none, .move (.c (.slice none 0 0))⟩,
    ⟨(some 5), none, .move (.c (.int .i64 2))⟩] (some [4, 5]))
  .ret)
  .skip))
 (.seq (.ops [⟨(some 6), none, .move (.c (.slice none 0 0))⟩] (some [0, 1, 6]))
 (.seq (.seq (.ops [⟨(some 14), none, .move (.t 1)⟩,
   ⟨(some 15), none, .len (.t 14)⟩,
   ⟨(some 16), none, .move (.c (.int .i64 0))⟩] (some [0, 6, 14, 15, 16]))
 (.block 0
  (.loop
   (.seq (.ops [⟨(some 17), none, .bin .lss 3 (.t 16) (.t 15)⟩] (some [0, 6, 14, 15, 16, 17]))
   (.seq (.cond (.t 17)
    .skip
    (.exit 0))
   (.seq (.block 1
    (.seq (.ops [⟨(some 18), none, .indexAddr 6 (.t 14) (.t 16)⟩,
      ⟨(some 19), none, .load true 6 (.t 18)⟩,
      ⟨(some 8), none, .alloc [(.int .i64 0), (.int .i64 0), (.int .i64 0), (.int .i64 0), (.string .empty), (.string .empty)]⟩,
      ⟨none, none, .store 6 (.t 8) (.t 19)⟩] (some [0, 6, 8, 14, 15, 16]))
    (.seq (.ops [⟨(some 21), none, .move (.t 0)⟩,
      ⟨(some 22), none, .load true 6 (.t 8)⟩,
      ⟨(some 23), none, .call (.c (.func (.func 57) #[] #[])) [(.t 21), (.t 22)]⟩,
      ⟨(some 20), none, .move (.t 23)⟩,
      ⟨(some 24), none, .extract (.t 20) 0⟩,
      ⟨(some 25), none, .extract (.t 20) 1⟩,
      ⟨(some 26), none, .extract (.t 20) 2⟩,
      ⟨(some 9), none, .move (.t 24)⟩,
      ⟨(some 10), none, .move (.t 25)⟩,
      ⟨(some 11), none, .move (.t 26)⟩] (some [0, 6, 9, 10, 11, 14, 15, 16]))
    (.seq (.seq (.ops [⟨(some 27), none, .move (.t 11)⟩,
      ⟨(some 28), none, .bin .neq 32 (.t 27) (.c (.int .i64 0))⟩] (some [0, 6, 9, 10, 11, 14, 15, 16, 28]))
    (.cond (.t 28)
     (.seq (.ops [⟨(some 29), none, .move (.t 11)⟩,
       ⟨(some 4), none, .move (.c (.slice none 0 0))⟩,
       ⟨(some 5), none, .move (.t 29)⟩] (some [4, 5]))
     .ret)
     .skip))
    (.seq (.ops [⟨(some 30), none, .move (.t 10)⟩] (some [0, 6, 9, 14, 15, 16, 30]))
    (.cond (.t 30)
     (.ops [⟨(some 31), none, .move (.t 6)⟩,
       ⟨(some 32), none, .move (.t 9)⟩,
       ⟨(some 33), none, .buildSlice [(.string .empty)] 1 1 [(0, (.t 32))]⟩,
       ⟨(some 34), none, .append 1 16 [(.string .empty)] (.t 31) (.t 33)⟩,
       ⟨(some 6), none, .move (.t 34)⟩] (some [0, 6, 14, 15, 16]))
     .skip))))))
   (.ops [⟨(some 35), none, .bin .add 3 (.t 16) (.c (.int .i64 1))⟩,
     ⟨(some 16), none, .move (.t 35)⟩] (some [0, 6, 14, 15, 16]))))))))
 (.seq (.ops [⟨(some 36), none, .move (.t 6)⟩,
   ⟨(some 4), none, .move (.t 36)⟩,
   ⟨(some 5), none, .move (.c (.int .i64 0))⟩] (some [4, 5]))
 .ret))))), [.tmp 4, .tmp 5]⟩

theorem is23 : FnIs Tryz.prog 23 x23 := ⟨Tryz.f23, _, Tryz.func23, by kernel_rfl, rfl, by kernel_rfl, by decide, by kernel_rfl⟩

/-- cloisonne/watch.One -/
def x24 : XDecl := .code ⟨3, 
 (.seq (.ops [⟨(some 6), none, .move (.c (.string .empty))⟩,
   ⟨(some 7), none, .move (.c (.int .i64 0))⟩] (some [0, 1, 2]))
 (.seq (.ops [⟨(some 12), none, .move (.t 0)⟩,
   ⟨(some 13), none, .move (.t 1)⟩,
   ⟨(some 14), none, .move (.t 2)⟩,
   ⟨(some 15), none, .build [(.int .i64 0), (.int .i64 0), (.int .i64 0), (.string .empty), (.slice none 0 0)] [(0, 1), (1, 1), (2, 1), (3, 1), (4, 1)] [(0, (.c (.int .i64 1))), (1, (.t 13)), (3, (.t 14))]⟩,
   ⟨(some 16), none, .call (.c (.func (.func 9) #[] #[])) [(.t 12), (.t 15)]⟩,
   ⟨(some 11), none, .move (.t 16)⟩,
   ⟨(some 17), none, .extract (.t 11) 0⟩,
   ⟨(some 18), none, .extract (.t 11) 1⟩,
   ⟨(some 19), none, .extract (.t 11) 2⟩,
   ⟨(some 8), none, .move (.t 17)⟩,
   ⟨(some 9), none, .move (.t 18)⟩,
   ⟨(some 10), none, .move (.t 19)⟩] (some [0, 1, 8, 9, 10]))
 (.seq (.seq (.ops [⟨(some 20), none, .move (.t 10)⟩,
   ⟨(some 21), none, .bin .neq 32 (.t 20) (.c (.int .i64 0))⟩,
   ⟨(some 22), none, .move (.t 21)⟩,
   ⟨(some 23), (some (22, false)), .move (.t 8)⟩,
   ⟨(some 24), (some (22, false)), .bin .eql 3 (.t 23) (.c (.int .i64 2))⟩,
   ⟨(some 25), none, .pick (.t 22) (.c (.bool true)) (.t 24)⟩] (some [0, 1, 9, 10, 25]))
 (.cond (.t 25)
  (.seq (.ops [⟨(some 26), none, .move (.t 9)⟩,
    ⟨(some 27), none, .move (.t 10)⟩,
    ⟨(some 6), none, .move (.t 26)⟩,
    ⟨(some 7), none, .move (.t 27)⟩] (some [6, 7]))
  .ret)
  .skip))
 (.seq (.ops [⟨(some 28), none, .move (.t 0)⟩,
   ⟨(some 29), none, .move (.t 1)⟩,
   ⟨(some 30), none, .build [(.int .i64 0), (.int .i64 0), (.int .i64 0), (.string .empty), (.slice none 0 0)] [(0, 1), (1, 1), (2, 1), (3, 1), (4, 1)] [(0, (.c (.int .i64 2))), (1, (.t 29))]⟩,
   ⟨(some 31), none, .call (.c (.func (.func 58) #[] #[])) [(.t 28), (.t 30)]⟩,
   ⟨(some 32), none, .extract (.t 31) 0⟩,
   ⟨(some 33), none, .extract (.t 31) 1⟩,
   ⟨(some 6), none, .move (.t 32)⟩,
   ⟨(some 7), none, .move (.t 33)⟩] (some [6, 7]))
 .ret)))), [.tmp 6, .tmp 7]⟩

theorem is24 : FnIs Tryz.prog 24 x24 := ⟨Tryz.f24, _, Tryz.func24, by kernel_rfl, rfl, by kernel_rfl, by decide, by kernel_rfl⟩

/-- (*cloisonne/watch.Watch).Desk -/
def x25 : XDecl := .code ⟨1, 
 (.seq (.ops [⟨(some 2), none, .move (.c (.pointer none))⟩] (some [0]))
 (.seq (.seq (.ops [⟨(some 3), none, .move (.t 0)⟩,
   ⟨(some 4), none, .isNil .ptr false (.t 3)⟩] (some [0, 4]))
 (.cond (.t 4)
  (.seq (.ops [⟨(some 2), none, .move (.c (.pointer none))⟩] (some [2]))
  .ret)
  .skip))
 (.seq (.ops [⟨(some 5), none, .move (.t 0)⟩,
   ⟨(some 6), none, .nilCheck (.t 5)⟩,
   ⟨(some 7), none, .fieldAddr 0 (.t 6)⟩,
   ⟨(some 8), none, .load false 1 (.t 7)⟩,
   ⟨(some 2), none, .move (.t 8)⟩] (some [2]))
 .ret))), [.tmp 2]⟩

theorem is25 : FnIs Tryz.prog 25 x25 := ⟨Tryz.f25, _, Tryz.func25, by kernel_rfl, rfl, by kernel_rfl, by decide, by kernel_rfl⟩

/-- (*cloisonne/watch.Watch).Calls -/
def x26 : XDecl := .code ⟨1, 
 (.seq (.ops [⟨(some 2), none, .move (.c (.slice none 0 0))⟩] (some [0]))
 (.seq (.seq (.ops [⟨(some 4), none, .move (.t 0)⟩,
   ⟨(some 5), none, .isNil .ptr false (.t 4)⟩] (some [0, 5]))
 (.cond (.t 5)
  (.seq (.ops [⟨(some 2), none, .move (.c (.slice none 0 0))⟩] (some [2]))
  .ret)
  .skip))
 (.seq (.ops [⟨(some 6), none, .move (.t 0)⟩,
   ⟨(some 7), none, .nilCheck (.t 6)⟩,
   ⟨(some 8), none, .fieldAddr 2 (.t 7)⟩,
   ⟨(some 9), none, .load false 1 (.t 8)⟩,
   ⟨(some 10), none, .call (.c (.func (.func 59) #[] #[])) [(.t 9)]⟩,
   ⟨(some 3), none, .move (.t 10)⟩] (some [3]))
 (.seq (.ops [⟨(some 11), none, .move (.t 3)⟩,
   ⟨(some 12), none, .call (.c (.func (.func 60) #[] #[])) [(.t 11), (.c (.func (.func 61) #[] #[]))]⟩] (some [3]))
 (.seq (.ops [⟨(some 13), none, .move (.t 3)⟩,
   ⟨(some 2), none, .move (.t 13)⟩] (some [2]))
 .ret))))), [.tmp 2]⟩

theorem is26 : FnIs Tryz.prog 26 x26 := ⟨Tryz.f26, _, Tryz.func26, by kernel_rfl, rfl, by kernel_rfl, by decide, by kernel_rfl⟩

/-- (*cloisonne/watch.Watch).Life -/
def x27 : XDecl := .code ⟨1, 
 (.seq (.ops [⟨(some 1), none, .box (.t 0)⟩,
   ⟨(some 2), none, .move (.c (.slice none 0 0))⟩] (some [1]))
 (.seq (.seq (.ops [⟨(some 3), none, .load false 1 (.t 1)⟩,
   ⟨(some 4), none, .isNil .ptr false (.t 3)⟩] (some [1, 4]))
 (.cond (.t 4)
  (.seq (.ops [⟨(some 2), none, .move (.c (.slice none 0 0))⟩] (some [2]))
  .ret)
  .skip))
 (.seq (.ops [⟨(some 5), none, .load false 1 (.t 1)⟩,
   ⟨(some 6), none, .call (.c (.func (.func 26) #[] #[])) [(.t 5)]⟩,
   ⟨(some 7), none, .makeFunc (.func 64) [] [(.t 1)]⟩,
   ⟨(some 8), none, .call (.c (.func (.func 63) #[] #[])) [(.t 6), (.t 7)]⟩,
   ⟨(some 2), none, .move (.t 8)⟩] (some [2]))
 .ret))), [.tmp 2]⟩

theorem is27 : FnIs Tryz.prog 27 x27 := ⟨Tryz.f27, _, Tryz.func27, by kernel_rfl, rfl, by kernel_rfl, by decide, by kernel_rfl⟩

/-- (*cloisonne/watch.Watch).Calm -/
def x28 : XDecl := .code ⟨2, 
 (.seq (.ops [⟨(some 4), none, .move (.c (.int .i64 0))⟩] (some [0, 1]))
 (.seq (.ops [⟨(some 5), none, .move (.c (.int .i64 0))⟩] (some [0, 1, 5]))
 (.seq (.block 0
  (.loop
   (.seq (.seq (.ops [⟨(some 6), none, .move (.t 0)⟩,
     ⟨(some 7), none, .isNil .ptr true (.t 6)⟩,
     ⟨(some 8), none, .move (.t 7)⟩,
     ⟨(some 9), (some (8, true)), .move (.t 0)⟩,
     ⟨(some 10), (some (8, true)), .nilCheck (.t 9)⟩,
     ⟨(some 11), (some (8, true)), .fieldAddr 0 (.t 10)⟩,
     ⟨(some 12), (some (8, true)), .load false 1 (.t 11)⟩,
     ⟨(some 13), (some (8, true)), .call (.c (.func (.func 12) #[] #[])) [(.t 12)]⟩,
     ⟨(some 14), none, .pick (.t 8) (.t 13) (.c (.bool false))⟩,
     ⟨(some 15), none, .move (.t 14)⟩,
     ⟨(some 16), (some (15, true)), .move (.t 5)⟩,
     ⟨(some 17), (some (15, true)), .move (.t 1)⟩,
     ⟨(some 18), (some (15, true)), .calcB .min [3, 3] 3 [(.t 17), (.c (.int .i64 100000))]⟩,
     ⟨(some 19), (some (15, true)), .bin .lss 3 (.t 16) (.t 18)⟩,
     ⟨(some 20), none, .pick (.t 15) (.t 19) (.c (.bool false))⟩,
     ⟨(some 21), none, .move (.t 20)⟩,
     ⟨(some 22), (some (21, true)), .move (.t 0)⟩,
     ⟨(some 23), (some (21, true)), .call (.c (.func (.func 65) #[] #[])) [(.t 22)]⟩,
     ⟨(some 24), none, .pick (.t 21) (.t 23) (.c (.bool false))⟩] (some [0, 1, 5, 24]))
   (.cond (.t 24)
    .skip
    (.exit 0)))
   (.block 1
    (.ops [⟨(some 25), none, .move (.t 5)⟩,
      ⟨(some 26), none, .bin .add 3 (.t 25) (.c (.int .i64 1))⟩,
      ⟨(some 5), none, .move (.t 26)⟩] (some [0, 1, 5]))))))
 (.seq (.ops [⟨(some 27), none, .move (.t 5)⟩,
   ⟨(some 4), none, .move (.t 27)⟩] (some [4]))
 .ret)))), [.tmp 4]⟩

theorem is28 : FnIs Tryz.prog 28 x28 := ⟨Tryz.f28, _, Tryz.func28, by kernel_rfl, rfl, by kernel_rfl, by decide, by kernel_rfl⟩

/-- cloisonne/cloisonnelaw22.Open -/
def x35 : XDecl := .code ⟨1, 
 (.seq (.ops [⟨(some 1), none, .box (.t 0)⟩,
   ⟨(some 2), none, .move (.c (.pointer none))⟩,
   ⟨(some 3), none, .move (.c (.bool false))⟩] (some [1]))
 (.seq (.seq (.ops [⟨(some 8), none, .load true 4 (.t 1)⟩,
   ⟨(some 9), none, .call (.c (.func (.func 7) #[] #[])) [(.t 8)]⟩,
   ⟨(some 10), none, .move (.t 9)⟩,
   ⟨(some 11), (some (10, false)), .load true 4 (.t 1)⟩,
   ⟨(some 12), (some (10, false)), .call (.c (.func (.func 73) #[] #[])) [(.t 11)]⟩,
   ⟨(some 13), (some (10, false)), .un .not (.t 12)⟩,
   ⟨(some 14), none, .pick (.t 10) (.c (.bool true)) (.t 13)⟩] (some [1, 14]))
 (.cond (.t 14)
  (.seq (.ops [⟨(some 2), none, .move (.c (.pointer none))⟩,
    ⟨(some 3), none, .move (.c (.bool false))⟩] (some [2, 3]))
  .ret)
  .skip))
 (.seq (.ops [⟨(some 16), none, .fieldAddr 2 (.t 1)⟩,
   ⟨(some 17), none, .load false 1 (.t 16)⟩,
   ⟨(some 18), none, .call (.c (.func (.func 11) #[] #[])) [(.c (.int .i64 18)), (.t 17)]⟩,
   ⟨(some 15), none, .move (.t 18)⟩,
   ⟨(some 19), none, .extract (.t 15) 0⟩,
   ⟨(some 20), none, .extract (.t 15) 1⟩,
   ⟨(some 4), none, .move (.t 19)⟩,
   ⟨(some 5), none, .move (.t 20)⟩] (some [1, 4, 5]))
 (.seq (.ops [⟨(some 22), none, .load true 4 (.t 1)⟩,
   ⟨(some 23), none, .move (.t 4)⟩,
   ⟨(some 24), none, .call (.c (.func (.func 10) #[] #[])) [(.t 22), (.t 23)]⟩,
   ⟨(some 21), none, .move (.t 24)⟩,
   ⟨(some 25), none, .extract (.t 21) 0⟩,
   ⟨(some 26), none, .extract (.t 21) 1⟩,
   ⟨(some 6), none, .move (.t 25)⟩,
   ⟨(some 7), none, .move (.t 26)⟩] (some [5, 6, 7]))
 (.seq (.ops [⟨(some 27), none, .move (.t 6)⟩,
   ⟨(some 28), none, .move (.t 5)⟩,
   ⟨(some 29), none, .bin .eql 32 (.t 28) (.c (.int .i64 0))⟩,
   ⟨(some 30), none, .move (.t 29)⟩,
   ⟨(some 31), (some (30, true)), .move (.t 7)⟩,
   ⟨(some 32), (some (30, true)), .bin .eql 32 (.t 31) (.c (.int .i64 0))⟩,
   ⟨(some 33), none, .pick (.t 30) (.t 32) (.c (.bool false))⟩,
   ⟨(some 2), none, .move (.t 27)⟩,
   ⟨(some 3), none, .move (.t 33)⟩] (some [2, 3]))
 .ret))))), [.tmp 2, .tmp 3]⟩

theorem is35 : FnIs Tryz.prog 35 x35 := ⟨Tryz.f35, _, Tryz.func35, by kernel_rfl, rfl, by kernel_rfl, by decide, by kernel_rfl⟩

/-- cloisonne/cloisonnelaw18.Plain -/
def x36 : XDecl := .code ⟨0, 
 (.seq (.ops [⟨(some 0), none, .alloc [(.int .i64 0), (.int .i64 0), (.int .i64 0), (.slice none 0 0)]⟩] (some [0]))
 (.seq (.ops [⟨(some 3), none, .build [(.slice none 0 0), (.int .i64 0), (.int .i64 0), (.int .i64 0)] [(0, 1), (1, 1), (2, 1), (3, 1)] [(1, (.c (.int .i64 4))), (2, (.c (.int .i64 200))), (3, (.c (.int .i64 99)))]⟩,
   ⟨(some 1), none, .alloc [(.slice none 0 0), (.int .i64 0), (.int .i64 0), (.int .i64 0)]⟩,
   ⟨none, none, .store 4 (.t 1) (.t 3)⟩] (some [0, 1]))
 (.seq (.ops [⟨(some 4), none, .load true 4 (.t 1)⟩,
   ⟨(some 2), none, .alloc [(.slice none 0 0), (.int .i64 0), (.int .i64 0), (.int .i64 0)]⟩,
   ⟨none, none, .store 4 (.t 2) (.t 4)⟩] (some [0, 1, 2]))
 (.seq (.ops [⟨(some 5), none, .buildSlice [(.int .u64 0)] 1 1 [(0, (.c (.int .u64 1)))]⟩,
   ⟨(some 6), none, .fieldAddr 0 (.t 2)⟩,
   ⟨none, none, .store 1 (.t 6) (.t 5)⟩] (some [0, 1, 2]))
 (.seq (.ops [⟨(some 7), none, .load true 4 (.t 1)⟩,
   ⟨(some 8), none, .load true 4 (.t 2)⟩,
   ⟨(some 9), none, .buildSlice [(.slice none 0 0), (.int .i64 0), (.int .i64 0), (.int .i64 0)] 4 2 [(0, (.t 7)), (1, (.t 8))]⟩,
   ⟨(some 10), none, .build [(.int .i64 0), (.int .i64 0), (.int .i64 0), (.slice none 0 0)] [(0, 1), (1, 1), (2, 1), (3, 1)] [(0, (.c (.int .i64 2))), (1, (.c (.int .i64 3))), (2, (.c (.int .i64 8))), (3, (.t 9))]⟩,
   ⟨none, none, .store 4 (.t 0) (.t 10)⟩] (some [0]))
 .ret))))), [.cell true 4 0]⟩

theorem is36 : FnIs Tryz.prog 36 x36 := ⟨Tryz.f36, _, Tryz.func36, by kernel_rfl, rfl, by kernel_rfl, by decide, by kernel_rfl⟩

/-- (*cloisonne/desk.Desk).may -/
def x40 : XDecl := .code ⟨2, 
 (.seq (.ops [⟨(some 3), none, .box (.t 1)⟩,
   ⟨(some 4), none, .move (.c (.int .i64 0))⟩] (some [0, 3]))
 (.seq (.ops [⟨(some 6), none, .move (.t 0)⟩,
   ⟨(some 7), none, .nilCheck (.t 6)⟩,
   ⟨(some 8), none, .fieldAddr 0 (.t 7)⟩,
   ⟨(some 9), none, .fieldAddr 3 (.t 8)⟩,
   ⟨(some 10), none, .load false 1 (.t 9)⟩,
   ⟨(some 11), none, .len (.t 10)⟩,
   ⟨(some 12), none, .bin .sub 3 (.t 11) (.c (.int .i64 1))⟩,
   ⟨(some 5), none, .move (.t 12)⟩] (some [0, 3, 5]))
 (.seq (.block 0
  (.seq (.ops [⟨(some 14), none, .fieldAddr 0 (.t 3)⟩,
    ⟨(some 15), none, .load false 1 (.t 14)⟩,
    ⟨(some 16), none, .call (.c (.func (.func 51) #[] #[])) [(.t 15), (.c (.int .i64 1)), (.c (.int .i64 6))]⟩,
    ⟨(some 17), none, .un .not (.t 16)⟩,
    ⟨(some 13), none, .move (.t 17)⟩] (some [0, 3, 5, 13]))
  (.cond (.t 13)
   (.seq (.ops [⟨(some 4), none, .move (.c (.int .i64 1))⟩] (some [4]))
   .ret)
   (.seq (.ops [⟨(some 19), none, .fieldAddr 0 (.t 3)⟩,
     ⟨(some 20), none, .load false 1 (.t 19)⟩,
     ⟨(some 21), none, .bin .eql 3 (.t 20) (.c (.int .i64 6))⟩,
     ⟨(some 22), none, .move (.t 21)⟩,
     ⟨(some 23), (some (22, true)), .move (.t 0)⟩,
     ⟨(some 24), (some (22, true)), .call (.c (.func (.func 12) #[] #[])) [(.t 23)]⟩,
     ⟨(some 25), none, .pick (.t 22) (.t 24) (.c (.bool false))⟩,
     ⟨(some 18), none, .move (.t 25)⟩] (some [0, 3, 5, 18]))
   (.cond (.t 18)
    (.seq (.ops [⟨(some 4), none, .move (.c (.int .i64 8))⟩] (some [4]))
    .ret)
    (.seq (.ops [⟨(some 27), none, .fieldAddr 0 (.t 3)⟩,
      ⟨(some 28), none, .load false 1 (.t 27)⟩,
      ⟨(some 29), none, .bin .neq 3 (.t 28) (.c (.int .i64 6))⟩,
      ⟨(some 30), none, .move (.t 29)⟩,
      ⟨(some 31), (some (30, true)), .move (.t 0)⟩,
      ⟨(some 32), (some (30, true)), .call (.c (.func (.func 12) #[] #[])) [(.t 31)]⟩,
      ⟨(some 33), (some (30, true)), .un .not (.t 32)⟩,
      ⟨(some 34), none, .pick (.t 30) (.t 33) (.c (.bool false))⟩,
      ⟨(some 26), none, .move (.t 34)⟩] (some [0, 3, 5, 26]))
    (.cond (.t 26)
     (.seq (.ops [⟨(some 4), none, .move (.c (.int .i64 6))⟩] (some [4]))
     .ret)
     (.seq (.opsd [(0, 0, ⟨(some 36), none, .fieldAddr 0 (.t 3)⟩),
       (1, 1, ⟨(some 37), none, .load false 1 (.t 36)⟩),
       (2, 3, ⟨(some 38), none, .bin .leq 3 (.t 37) (.c (.int .i64 2))⟩),
       (3, 7, ⟨(some 39), none, .move (.t 38)⟩),
       (4, 15, ⟨(some 40), (some (39, true)), .fieldAddr 1 (.t 3)⟩),
       (5, 31, ⟨(some 41), (some (39, true)), .load false 1 (.t 40)⟩),
       (6, 15, ⟨(some 42), (some (39, true)), .move (.t 0)⟩),
       (7, 79, ⟨(some 43), (some (39, true)), .nilCheck (.t 42)⟩),
       (8, 207, ⟨(some 44), (some (39, true)), .fieldAddr 0 (.t 43)⟩),
       (9, 463, ⟨(some 45), (some (39, true)), .fieldAddr 1 (.t 44)⟩),
       (10, 975, ⟨(some 46), (some (39, true)), .load false 1 (.t 45)⟩),
       (11, 1999, ⟨(some 47), (some (39, true)), .bin .sub 3 (.t 46) (.c (.int .i64 1))⟩),
       (12, 4095, ⟨(some 48), (some (39, true)), .call (.c (.func (.func 51) #[] #[])) [(.t 41), (.c (.int .i64 0)), (.t 47)]⟩),
       (13, 8191, ⟨(some 49), (some (39, true)), .un .not (.t 48)⟩),
       (14, 16383, ⟨(some 50), none, .pick (.t 39) (.t 49) (.c (.bool false))⟩),
       (15, 32767, ⟨(some 35), none, .move (.t 50)⟩)] (some [3, 5, 35]))
     (.cond (.t 35)
      (.seq (.ops [⟨(some 4), none, .move (.c (.int .i64 1))⟩] (some [4]))
      .ret)
      (.seq (.seq (.ops [⟨(some 52), none, .fieldAddr 0 (.t 3)⟩,
        ⟨(some 53), none, .load false 1 (.t 52)⟩,
        ⟨(some 54), none, .bin .eql 3 (.t 53) (.c (.int .i64 3))⟩,
        ⟨(some 55), none, .move (.t 54)⟩,
        ⟨(some 56), (some (55, true)), .fieldAddr 2 (.t 3)⟩,
        ⟨(some 57), (some (55, true)), .load false 1 (.t 56)⟩,
        ⟨(some 58), (some (55, true)), .move (.t 5)⟩,
        ⟨(some 59), (some (55, true)), .call (.c (.func (.func 51) #[] #[])) [(.t 57), (.c (.int .i64 0)), (.t 58)]⟩,
        ⟨(some 60), (some (55, true)), .un .not (.t 59)⟩,
        ⟨(some 61), none, .pick (.t 55) (.t 60) (.c (.bool false))⟩,
        ⟨(some 51), none, .move (.t 61)⟩] (some [3, 5, 51]))
      (.cond (.t 51)
       .skip
       (.ops [⟨(some 62), none, .fieldAddr 0 (.t 3)⟩,
         ⟨(some 63), none, .load false 1 (.t 62)⟩,
         ⟨(some 64), none, .bin .eql 3 (.t 63) (.c (.int .i64 4))⟩,
         ⟨(some 65), none, .move (.t 64)⟩,
         ⟨(some 66), (some (65, true)), .fieldAddr 2 (.t 3)⟩,
         ⟨(some 67), (some (65, true)), .load false 1 (.t 66)⟩,
         ⟨(some 68), (some (65, true)), .move (.t 5)⟩,
         ⟨(some 69), (some (65, true)), .call (.c (.func (.func 51) #[] #[])) [(.t 67), (.c (.int .i64 (-1))), (.t 68)]⟩,
         ⟨(some 70), (some (65, true)), .un .not (.t 69)⟩,
         ⟨(some 71), none, .pick (.t 65) (.t 70) (.c (.bool false))⟩,
         ⟨(some 51), none, .move (.t 71)⟩] (some [51]))))
      (.cond (.t 51)
       (.seq (.ops [⟨(some 4), none, .move (.c (.int .i64 1))⟩] (some [4]))
       .ret)
       .skip)))))))))))
 (.seq (.ops [⟨(some 4), none, .move (.c (.int .i64 0))⟩] (some [4]))
 .ret)))), [.tmp 4]⟩

theorem is40 : FnIs Tryz.prog 40 x40 := ⟨Tryz.f40, _, Tryz.func40, by kernel_rfl, rfl, by kernel_rfl, by decide, by kernel_rfl⟩

/-- (*cloisonne/desk.Desk).ask -/
def x41 : XDecl := .code ⟨2, 
 (.seq (.ops [⟨(some 3), none, .box (.t 1)⟩,
   ⟨(some 4), none, .move (.c (.int .i64 0))⟩,
   ⟨(some 5), none, .move (.c (.string .empty))⟩,
   ⟨(some 6), none, .move (.c (.int .i64 0))⟩] (some [0, 3]))
 (.seq (.opsr [⟨(some 11), none, .move (.t 0)⟩,
   ⟨(some 12), none, .nilCheck (.t 11)⟩,
   ⟨(some 13), none, .fieldAddr 6 (.t 12)⟩,
   ⟨(some 14), none, .load false 1 (.t 13)⟩,
   ⟨(some 15), none, .nilCheck (.t 14)⟩,
   ⟨(some 16), none, .fieldAddr 1 (.t 15)⟩,
   ⟨(some 17), none, .load false 1 (.t 16)⟩,
   ⟨(some 18), none, .fieldAddr 1 (.t 3)⟩,
   ⟨(some 19), none, .load false 1 (.t 18)⟩,
   ⟨(some 20), none, .indexAddr 1 (.t 17) (.t 19)⟩,
   ⟨(some 21), none, .load false 1 (.t 20)⟩,
   ⟨(some 7), none, .move (.t 21)⟩] (some [3, 7]))
 (.seq (.seq (.ops [⟨(some 22), none, .move (.t 7)⟩,
   ⟨(some 23), none, .call (.c (.func (.func 52) #[] #[])) [(.t 22)]⟩] (some [3, 7, 23]))
 (.cond (.t 23)
  (.seq (.ops [⟨(some 4), none, .move (.c (.int .i64 0))⟩,
    ⟨(some 5), none, .move (.c (.string .empty))⟩,
    ⟨(some 6), none, .move (.c (.int .i64 9))⟩] (some [4, 5, 6]))
  .ret)
  .skip))
 (.seq (.ops [⟨(some 25), none, .fieldAddr 3 (.t 3)⟩,
   ⟨(some 26), none, .load false 1 (.t 25)⟩,
   ⟨(some 27), none, .call (.c (.func (.func 82) #[] #[])) [(.t 26)]⟩,
   ⟨(some 24), none, .move (.t 27)⟩,
   ⟨(some 28), none, .extract (.t 24) 0⟩,
   ⟨(some 29), none, .extract (.t 24) 1⟩,
   ⟨(some 8), none, .alloc [(.int .i64 0), (.int .i64 0), (.slice none 0 0), (.int .u64 0), (.bool false), (.int .i64 0), (.string .empty), (.bool false), (.string .empty), (.int .u64 0), (.string .empty), (.string .empty), (.int .i64 0), (.int .i64 0), (.slice none 0 0)]⟩,
   ⟨none, none, .store 15 (.t 8) (.t 28)⟩,
   ⟨(some 9), none, .move (.t 29)⟩] (some [7, 8, 9]))
 (.seq (.seq (.ops [⟨(some 30), none, .move (.t 9)⟩,
   ⟨(some 31), none, .bin .neq 32 (.t 30) (.c (.int .i64 0))⟩] (some [7, 8, 9, 31]))
 (.cond (.t 31)
  (.seq (.ops [⟨(some 32), none, .move (.t 9)⟩,
    ⟨(some 33), none, .build [(.int .i64 0), (.int .u64 0), (.bool false), (.bool false), (.string .empty), (.int .u64 0), (.slice none 0 0), (.int .i64 0), (.int .u64 0), (.int .u64 0), (.int .u64 0), (.int .u64 0)] [(0, 1), (1, 1), (2, 1), (3, 3), (6, 1), (7, 5)] [(0, (.t 32))]⟩,
    ⟨(some 34), none, .call (.c (.func (.func 43) #[] #[])) [(.t 33)]⟩,
    ⟨(some 35), none, .extract (.t 34) 0⟩,
    ⟨(some 36), none, .extract (.t 34) 1⟩,
    ⟨(some 37), none, .extract (.t 34) 2⟩,
    ⟨(some 4), none, .move (.t 35)⟩,
    ⟨(some 5), none, .move (.t 36)⟩,
    ⟨(some 6), none, .move (.t 37)⟩] (some [4, 5, 6]))
  .ret)
  .skip))
 (.seq (.seq (.ops [⟨(some 38), none, .move (.t 7)⟩,
   ⟨(some 39), none, .load true 15 (.t 8)⟩,
   ⟨(some 40), none, .call (.c (.func (.func 83) #[] #[])) [(.t 38), (.t 39)]⟩,
   ⟨(some 10), none, .move (.t 40)⟩] (some [10]))
 (.seq (.ops [⟨(some 41), none, .move (.t 10)⟩,
   ⟨(some 42), none, .bin .neq 32 (.t 41) (.c (.int .i64 0))⟩] (some [10, 42]))
 (.cond (.t 42)
  (.seq (.ops [⟨(some 43), none, .move (.t 10)⟩,
    ⟨(some 4), none, .move (.c (.int .i64 0))⟩,
    ⟨(some 5), none, .move (.c (.string .empty))⟩,
    ⟨(some 6), none, .move (.t 43)⟩] (some [4, 5, 6]))
  .ret)
  .skip)))
 (.seq (.ops [⟨(some 4), none, .move (.c (.int .i64 1))⟩,
   ⟨(some 5), none, .move (.c (.string .empty))⟩,
   ⟨(some 6), none, .move (.c (.int .i64 0))⟩] (some [4, 5, 6]))
 .ret))))))), [.tmp 4, .tmp 5, .tmp 6]⟩

theorem is41 : FnIs Tryz.prog 41 x41 := ⟨Tryz.f41, _, Tryz.func41, by kernel_rfl, rfl, by kernel_rfl, by decide, by kernel_rfl⟩

/-- (*cloisonne/desk.Desk).move -/
def x42 : XDecl := .code ⟨2, 
 (.seq (.ops [⟨(some 3), none, .box (.t 1)⟩,
   ⟨(some 4), none, .move (.c (.int .i64 0))⟩,
   ⟨(some 5), none, .move (.c (.string .empty))⟩,
   ⟨(some 6), none, .move (.c (.int .i64 0))⟩] (some [0, 3]))
 (.seq (.opsd [(0, 0, ⟨(some 11), none, .move (.t 0)⟩),
   (1, 1, ⟨(some 12), none, .nilCheck (.t 11)⟩),
   (2, 3, ⟨(some 13), none, .fieldAddr 6 (.t 12)⟩),
   (3, 7, ⟨(some 14), none, .load false 1 (.t 13)⟩),
   (4, 15, ⟨(some 15), none, .nilCheck (.t 14)⟩),
   (5, 31, ⟨(some 16), none, .fieldAddr 1 (.t 15)⟩),
   (6, 63, ⟨(some 17), none, .load false 1 (.t 16)⟩),
   (7, 0, ⟨(some 18), none, .fieldAddr 1 (.t 3)⟩),
   (8, 128, ⟨(some 19), none, .load false 1 (.t 18)⟩),
   (9, 511, ⟨(some 20), none, .indexAddr 1 (.t 17) (.t 19)⟩),
   (10, 1023, ⟨(some 21), none, .load false 1 (.t 20)⟩),
   (11, 0, ⟨(some 22), none, .move (.t 0)⟩),
   (12, 2048, ⟨(some 23), none, .nilCheck (.t 22)⟩),
   (13, 6144, ⟨(some 24), none, .fieldAddr 5 (.t 23)⟩),
   (14, 14336, ⟨(some 25), none, .load false 1 (.t 24)⟩),
   (20, 0, ⟨(some 8), none, .alloc [(.int .i64 0), (.int .u64 0), (.bool false), (.bool false), (.string .empty), (.int .u64 0), (.slice none 0 0), (.int .i64 0), (.int .u64 0), (.int .u64 0), (.int .u64 0), (.int .u64 0)]⟩),
   (15, 32767, ⟨(some 26), none, .call (.c (.func (.func 84) #[] #[])) [(.t 21), (.t 25)]⟩),
   (16, 65535, ⟨(some 10), none, .move (.t 26)⟩),
   (17, 131071, ⟨(some 27), none, .extract (.t 10) 0⟩),
   (18, 131071, ⟨(some 28), none, .extract (.t 10) 1⟩),
   (19, 131071, ⟨(some 29), none, .extract (.t 10) 2⟩),
   (21, 1310719, ⟨(some 7), none, .move (.t 27)⟩),
   (22, 3670015, ⟨none, none, .store 12 (.t 8) (.t 28)⟩),
   (23, 8388607, ⟨(some 9), none, .move (.t 29)⟩)] (some [7, 8, 9]))
 (.seq (.seq (.ops [⟨(some 30), none, .move (.t 9)⟩,
   ⟨(some 31), none, .bin .neq 32 (.t 30) (.c (.int .i64 0))⟩,
   ⟨(some 32), none, .move (.t 31)⟩,
   ⟨(some 33), (some (32, false)), .move (.t 7)⟩,
   ⟨(some 34), (some (32, false)), .bin .neq 3 (.t 33) (.c (.int .i64 2))⟩,
   ⟨(some 35), none, .pick (.t 32) (.c (.bool true)) (.t 34)⟩] (some [7, 8, 9, 35]))
 (.cond (.t 35)
  (.seq (.ops [⟨(some 36), none, .move (.t 7)⟩,
    ⟨(some 37), none, .move (.t 9)⟩,
    ⟨(some 4), none, .move (.t 36)⟩,
    ⟨(some 5), none, .move (.c (.string .empty))⟩,
    ⟨(some 6), none, .move (.t 37)⟩] (some [4, 5, 6]))
  .ret)
  .skip))
 (.seq (.ops [⟨(some 38), none, .load true 12 (.t 8)⟩,
   ⟨(some 39), none, .call (.c (.func (.func 43) #[] #[])) [(.t 38)]⟩,
   ⟨(some 40), none, .extract (.t 39) 0⟩,
   ⟨(some 41), none, .extract (.t 39) 1⟩,
   ⟨(some 42), none, .extract (.t 39) 2⟩,
   ⟨(some 4), none, .move (.t 40)⟩,
   ⟨(some 5), none, .move (.t 41)⟩,
   ⟨(some 6), none, .move (.t 42)⟩] (some [4, 5, 6]))
 .ret)))), [.tmp 4, .tmp 5, .tmp 6]⟩

theorem is42 : FnIs Tryz.prog 42 x42 := ⟨Tryz.f42, _, Tryz.func42, by kernel_rfl, rfl, by kernel_rfl, by decide, by kernel_rfl⟩

/-- cloisonne/desk.done -/
def x43 : XDecl := .code ⟨1, 
 (.seq (.ops [⟨(some 1), none, .box (.t 0)⟩,
   ⟨(some 2), none, .move (.c (.int .i64 0))⟩,
   ⟨(some 3), none, .move (.c (.string .empty))⟩,
   ⟨(some 4), none, .move (.c (.int .i64 0))⟩] (some [1]))
 (.seq (.ops [⟨(some 8), none, .load true 12 (.t 1)⟩,
   ⟨(some 9), none, .call (.c (.func (.func 85) #[] #[])) [(.t 8)]⟩,
   ⟨(some 7), none, .move (.t 9)⟩,
   ⟨(some 10), none, .extract (.t 7) 0⟩,
   ⟨(some 11), none, .extract (.t 7) 1⟩,
   ⟨(some 5), none, .move (.t 10)⟩,
   ⟨(some 6), none, .move (.t 11)⟩] (some [5, 6]))
 (.seq (.seq (.ops [⟨(some 12), none, .move (.t 6)⟩,
   ⟨(some 13), none, .bin .neq 32 (.t 12) (.c (.int .i64 0))⟩] (some [5, 6, 13]))
 (.cond (.t 13)
  (.seq (.ops [⟨(some 14), none, .move (.t 6)⟩,
    ⟨(some 2), none, .move (.c (.int .i64 0))⟩,
    ⟨(some 3), none, .move (.c (.string .empty))⟩,
    ⟨(some 4), none, .move (.t 14)⟩] (some [2, 3, 4]))
  .ret)
  .skip))
 (.seq (.ops [⟨(some 15), none, .move (.t 5)⟩,
   ⟨(some 2), none, .move (.c (.int .i64 2))⟩,
   ⟨(some 3), none, .move (.t 15)⟩,
   ⟨(some 4), none, .move (.c (.int .i64 0))⟩] (some [2, 3, 4]))
 .ret)))), [.tmp 2, .tmp 3, .tmp 4]⟩

theorem is43 : FnIs Tryz.prog 43 x43 := ⟨Tryz.f43, _, Tryz.func43, by kernel_rfl, rfl, by kernel_rfl, by decide, by kernel_rfl⟩

/-- (*cloisonne/vault.Vault).Room -/
def x44 : XDecl := .code ⟨2, 
 (.seq (.ops [⟨(some 4), none, .move (.c (.pointer none))⟩] (some [0, 1]))
 (.seq (.seq (.ops [⟨(some 5), none, .move (.t 0)⟩,
   ⟨(some 6), none, .isNil .ptr false (.t 5)⟩,
   ⟨(some 7), none, .move (.t 6)⟩,
   ⟨(some 8), (some (7, false)), .move (.t 1)⟩,
   ⟨(some 9), (some (7, false)), .move (.t 0)⟩,
   ⟨(some 10), (some (7, false)), .nilCheck (.t 9)⟩,
   ⟨(some 11), (some (7, false)), .fieldAddr 6 (.t 10)⟩,
   ⟨(some 12), (some (7, false)), .load false 1 (.t 11)⟩,
   ⟨(some 13), (some (7, false)), .len (.t 12)⟩,
   ⟨(some 14), (some (7, false)), .bin .sub 3 (.t 13) (.c (.int .i64 1))⟩,
   ⟨(some 15), (some (7, false)), .call (.c (.func (.func 86) #[] #[])) [(.t 8), (.c (.int .i64 0)), (.t 14)]⟩,
   ⟨(some 16), (some (7, false)), .un .not (.t 15)⟩,
   ⟨(some 17), none, .pick (.t 7) (.c (.bool true)) (.t 16)⟩] (some [0, 1, 17]))
 (.cond (.t 17)
  (.seq (.ops [⟨(some 4), none, .move (.c (.pointer none))⟩] (some [4]))
  .ret)
  .skip))
 (.seq (.ops [⟨(some 18), none, .move (.t 0)⟩,
   ⟨(some 19), none, .nilCheck (.t 18)⟩,
   ⟨(some 20), none, .fieldAddr 6 (.t 19)⟩,
   ⟨(some 21), none, .load false 1 (.t 20)⟩,
   ⟨(some 22), none, .move (.t 1)⟩,
   ⟨(some 23), none, .indexAddr 1 (.t 21) (.t 22)⟩,
   ⟨(some 24), none, .load false 1 (.t 23)⟩,
   ⟨(some 4), none, .move (.t 24)⟩] (some [4]))
 .ret))), [.tmp 4]⟩

theorem is44 : FnIs Tryz.prog 44 x44 := ⟨Tryz.f44, _, Tryz.func44, by kernel_rfl, rfl, by kernel_rfl, by decide, by kernel_rfl⟩

/-- cloisonne/desk.begin -/
def x49 : XDecl := .code ⟨2, 
 (.seq (.ops [⟨(some 2), none, .box (.t 0)⟩,
   ⟨(some 4), none, .move (.c (.pointer none))⟩,
   ⟨(some 5), none, .move (.c (.int .i64 0))⟩] (some [1, 2]))
 (.seq (.ops [⟨(some 13), none, .load true 4 (.t 2)⟩,
   ⟨(some 14), none, .move (.t 1)⟩,
   ⟨(some 15), none, .call (.c (.func (.func 99) #[] #[])) [(.t 13), (.t 14)]⟩,
   ⟨(some 12), none, .move (.t 15)⟩,
   ⟨(some 16), none, .extract (.t 12) 0⟩,
   ⟨(some 17), none, .extract (.t 12) 1⟩,
   ⟨(some 6), none, .move (.t 16)⟩,
   ⟨(some 7), none, .move (.t 17)⟩] (some [2, 6, 7]))
 (.seq (.seq (.ops [⟨(some 18), none, .move (.t 7)⟩,
   ⟨(some 19), none, .bin .neq 32 (.t 18) (.c (.int .i64 0))⟩] (some [2, 6, 7, 19]))
 (.cond (.t 19)
  (.seq (.ops [⟨(some 20), none, .move (.t 7)⟩,
    ⟨(some 4), none, .move (.c (.pointer none))⟩,
    ⟨(some 5), none, .move (.t 20)⟩] (some [4, 5]))
  .ret)
  .skip))
 (.seq (.ops [⟨(some 21), none, .move (.t 6)⟩,
   ⟨(some 22), none, .makeMap⟩,
   ⟨(some 23), none, .build [(.pointer none), (.slice none 0 0), (.map none)] [(0, 1), (1, 1), (2, 1)] [(0, (.t 21)), (2, (.t 22))]⟩,
   ⟨(some 24), none, .box (.t 23)⟩,
   ⟨(some 8), none, .move (.t 24)⟩] (some [2, 6, 8]))
 (.seq (.seq (.ops [⟨(some 25), none, .fieldAddr 1 (.t 2)⟩,
   ⟨(some 26), none, .load false 1 (.t 25)⟩,
   ⟨(some 27), none, .move (.c (.int .i64 0))⟩] (some [6, 8, 26, 27]))
 (.block 0
  (.loop
   (.seq (.ops [⟨(some 28), none, .bin .lss 3 (.t 27) (.t 26)⟩] (some [6, 8, 26, 27, 28]))
   (.seq (.cond (.t 28)
    .skip
    (.exit 0))
   (.seq (.block 1
    (.seq (.ops [⟨(some 29), none, .move (.t 27)⟩,
      ⟨(some 9), none, .move (.t 29)⟩] (some [6, 8, 9, 26, 27]))
    (.seq (.ops [⟨(some 31), none, .move (.t 6)⟩,
      ⟨(some 32), none, .move (.t 9)⟩,
      ⟨(some 33), none, .call (.c (.func (.func 100) #[] #[])) [(.t 31), (.t 32)]⟩,
      ⟨(some 30), none, .move (.t 33)⟩,
      ⟨(some 34), none, .extract (.t 30) 0⟩,
      ⟨(some 35), none, .extract (.t 30) 1⟩,
      ⟨(some 10), none, .move (.t 34)⟩,
      ⟨(some 11), none, .move (.t 35)⟩] (some [6, 8, 10, 11, 26, 27]))
    (.seq (.seq (.ops [⟨(some 36), none, .move (.t 11)⟩,
      ⟨(some 37), none, .bin .neq 32 (.t 36) (.c (.int .i64 0))⟩] (some [6, 8, 10, 11, 26, 27, 37]))
    (.cond (.t 37)
     (.seq (.ops [⟨(some 38), none, .move (.t 11)⟩,
       ⟨(some 4), none, .move (.c (.pointer none))⟩,
       ⟨(some 5), none, .move (.t 38)⟩] (some [4, 5]))
     .ret)
     .skip))
    (.ops [⟨(some 39), none, .move (.t 8)⟩,
      ⟨(some 40), none, .move (.t 8)⟩,
      ⟨(some 41), none, .nilCheck (.t 40)⟩,
      ⟨(some 42), none, .fieldAddr 1 (.t 41)⟩,
      ⟨(some 43), none, .load false 1 (.t 42)⟩,
      ⟨(some 44), none, .move (.t 10)⟩,
      ⟨(some 45), none, .buildSlice [(.pointer none)] 1 1 [(0, (.t 44))]⟩,
      ⟨(some 46), none, .append 1 8 [(.pointer none)] (.t 43) (.t 45)⟩,
      ⟨(some 47), none, .nilCheck (.t 39)⟩,
      ⟨(some 48), none, .fieldAddr 1 (.t 47)⟩,
      ⟨none, none, .store 1 (.t 48) (.t 46)⟩] (some [6, 8, 26, 27]))))))
   (.ops [⟨(some 49), none, .bin .add 3 (.t 27) (.c (.int .i64 1))⟩,
     ⟨(some 27), none, .move (.t 49)⟩] (some [6, 8, 26, 27]))))))))
 (.seq (.ops [⟨(some 50), none, .move (.t 8)⟩,
   ⟨(some 4), none, .move (.t 50)⟩,
   ⟨(some 5), none, .move (.c (.int .i64 0))⟩] (some [4, 5]))
 .ret)))))), [.tmp 4, .tmp 5]⟩

theorem is49 : FnIs Tryz.prog 49 x49 := ⟨Tryz.f49, _, Tryz.func49, by kernel_rfl, rfl, by kernel_rfl, by decide, by kernel_rfl⟩

/-- (*cloisonne/vault.Vault).Setup -/
def x50 : XDecl := .code ⟨1, 
 (.seq (.ops [⟨(some 2), none, .alloc [(.int .i64 0), (.int .i64 0), (.int .i64 0), (.slice none 0 0)]⟩] (some [0, 2]))
 (.seq (.seq (.ops [⟨(some 3), none, .move (.t 0)⟩,
   ⟨(some 4), none, .isNil .ptr false (.t 3)⟩] (some [0, 2, 4]))
 (.cond (.t 4)
  (.seq (.ops [⟨(some 5), none, .build [(.int .i64 0), (.int .i64 0), (.int .i64 0), (.slice none 0 0)] [(0, 1), (1, 1), (2, 1), (3, 1)] []⟩,
    ⟨none, none, .store 4 (.t 2) (.t 5)⟩] (some [2]))
  .ret)
  .skip))
 (.seq (.ops [⟨(some 6), none, .move (.t 0)⟩,
   ⟨(some 7), none, .nilCheck (.t 6)⟩,
   ⟨(some 8), none, .fieldAddr 0 (.t 7)⟩,
   ⟨(some 9), none, .load true 4 (.t 8)⟩,
   ⟨(some 10), none, .call (.c (.func (.func 101) #[] #[])) [(.t 9)]⟩,
   ⟨none, none, .store 4 (.t 2) (.t 10)⟩] (some [2]))
 .ret))), [.cell true 4 2]⟩

theorem is50 : FnIs Tryz.prog 50 x50 := ⟨Tryz.f50, _, Tryz.func50, by kernel_rfl, rfl, by kernel_rfl, by decide, by kernel_rfl⟩

/-- cloisonne/desk.within -/
def x51 : XDecl := .code ⟨3, 
 (.seq (.ops [⟨(some 6), none, .move (.c (.bool false))⟩] (some [0, 1, 2]))
 (.seq (.ops [⟨(some 7), none, .move (.t 0)⟩,
   ⟨(some 8), none, .move (.t 1)⟩,
   ⟨(some 9), none, .bin .geq 3 (.t 7) (.t 8)⟩,
   ⟨(some 10), none, .move (.t 9)⟩,
   ⟨(some 11), (some (10, true)), .move (.t 0)⟩,
   ⟨(some 12), (some (10, true)), .move (.t 2)⟩,
   ⟨(some 13), (some (10, true)), .bin .leq 3 (.t 11) (.t 12)⟩,
   ⟨(some 14), none, .pick (.t 10) (.t 13) (.c (.bool false))⟩,
   ⟨(some 6), none, .move (.t 14)⟩] (some [6]))
 .ret)), [.tmp 6]⟩

theorem is51 : FnIs Tryz.prog 51 x51 := ⟨Tryz.f51, _, Tryz.func51, by kernel_rfl, rfl, by kernel_rfl, by decide, by kernel_rfl⟩

/-- (*cloisonne/sess.Session).Pending -/
def x52 : XDecl := .code ⟨1, 
 (.seq (.ops [⟨(some 2), none, .move (.c (.bool false))⟩] (some [0]))
 (.seq (.ops [⟨(some 3), none, .move (.t 0)⟩,
   ⟨(some 4), none, .isNil .ptr true (.t 3)⟩,
   ⟨(some 5), none, .move (.t 4)⟩,
   ⟨(some 6), (some (5, true)), .move (.t 0)⟩,
   ⟨(some 7), (some (5, true)), .nilCheck (.t 6)⟩,
   ⟨(some 8), (some (5, true)), .fieldAddr 7 (.t 7)⟩,
   ⟨(some 9), (some (5, true)), .load false 1 (.t 8)⟩,
   ⟨(some 10), (some (5, true)), .isNil .ptr true (.t 9)⟩,
   ⟨(some 11), none, .pick (.t 5) (.t 10) (.c (.bool false))⟩,
   ⟨(some 2), none, .move (.t 11)⟩] (some [2]))
 .ret)), [.tmp 2]⟩

theorem is52 : FnIs Tryz.prog 52 x52 := ⟨Tryz.f52, _, Tryz.func52, by kernel_rfl, rfl, by kernel_rfl, by decide, by kernel_rfl⟩

/-- cloisonne/cloisonnelaw23.Open -/
def x53 : XDecl := .code ⟨1, 
 (.seq (.ops [⟨(some 1), none, .box (.t 0)⟩,
   ⟨(some 2), none, .move (.c (.pointer none))⟩,
   ⟨(some 3), none, .move (.c (.bool false))⟩] (some [1]))
 (.seq (.ops [⟨(some 9), none, .load true 4 (.t 1)⟩,
   ⟨(some 10), none, .call (.c (.func (.func 35) #[] #[])) [(.t 9)]⟩,
   ⟨(some 8), none, .move (.t 10)⟩,
   ⟨(some 11), none, .extract (.t 8) 0⟩,
   ⟨(some 12), none, .extract (.t 8) 1⟩,
   ⟨(some 4), none, .move (.t 11)⟩,
   ⟨(some 5), none, .move (.t 12)⟩] (some [4, 5]))
 (.seq (.seq (.ops [⟨(some 13), none, .move (.t 5)⟩,
   ⟨(some 14), none, .un .not (.t 13)⟩] (some [4, 14]))
 (.cond (.t 14)
  (.seq (.ops [⟨(some 2), none, .move (.c (.pointer none))⟩,
    ⟨(some 3), none, .move (.c (.bool false))⟩] (some [2, 3]))
  .ret)
  .skip))
 (.seq (.ops [⟨(some 16), none, .move (.t 4)⟩,
   ⟨(some 17), none, .call (.c (.func (.func 22) #[] #[])) [(.t 16)]⟩,
   ⟨(some 15), none, .move (.t 17)⟩,
   ⟨(some 18), none, .extract (.t 15) 0⟩,
   ⟨(some 19), none, .extract (.t 15) 1⟩,
   ⟨(some 6), none, .move (.t 18)⟩,
   ⟨(some 7), none, .move (.t 19)⟩] (some [6, 7]))
 (.seq (.ops [⟨(some 20), none, .move (.t 6)⟩,
   ⟨(some 21), none, .move (.t 7)⟩,
   ⟨(some 22), none, .bin .eql 32 (.t 21) (.c (.int .i64 0))⟩,
   ⟨(some 2), none, .move (.t 20)⟩,
   ⟨(some 3), none, .move (.t 22)⟩] (some [2, 3]))
 .ret))))), [.tmp 2, .tmp 3]⟩

theorem is53 : FnIs Tryz.prog 53 x53 := ⟨Tryz.f53, _, Tryz.func53, by kernel_rfl, rfl, by kernel_rfl, by decide, by kernel_rfl⟩

/-- cloisonne/cloisonneref20.Pack -/
def x54 : XDecl := .code ⟨1, 
 (.seq (.ops [⟨(some 1), none, .box (.t 0)⟩,
   ⟨(some 2), none, .move (.c (.string .empty))⟩] (some [1]))
 (.seq (.ops [⟨(some 6), none, .fieldAddr 0 (.t 1)⟩,
   ⟨(some 7), none, .load false 1 (.t 6)⟩,
   ⟨(some 8), none, .conv 3 5 (.t 7)⟩,
   ⟨(some 9), none, .buildSlice [(.int .u8 0)] 1 1 [(0, (.t 8))]⟩,
   ⟨(some 10), none, .bstr (.t 9)⟩,
   ⟨(some 3), none, .move (.t 10)⟩] (some [1, 3]))
 (.seq (.ops [⟨(some 11), none, .fieldAddr 0 (.t 1)⟩,
   ⟨(some 12), none, .load false 1 (.t 11)⟩,
   ⟨(some 4), none, .move (.t 12)⟩] (some [1, 3, 4]))
 (.seq (.seq (.ops [⟨(some 13), none, .move (.t 4)⟩,
   ⟨(some 14), none, .bin .eql 3 (.t 13) (.c (.int .i64 1))⟩,
   ⟨(some 15), none, .move (.t 14)⟩,
   ⟨(some 16), (some (15, false)), .move (.t 4)⟩,
   ⟨(some 17), (some (15, false)), .bin .eql 3 (.t 16) (.c (.int .i64 6))⟩,
   ⟨(some 18), none, .pick (.t 15) (.c (.bool true)) (.t 17)⟩] (some [1, 3, 4, 18]))
 (.cond (.t 18)
  (.ops [⟨(some 19), none, .move (.t 3)⟩,
    ⟨(some 20), none, .fieldAddr 1 (.t 1)⟩,
    ⟨(some 21), none, .load false 1 (.t 20)⟩,
    ⟨(some 22), none, .conv 3 77 (.t 21)⟩,
    ⟨(some 23), none, .call (.c (.func (.func 102) #[] #[])) [(.t 22)]⟩,
    ⟨(some 24), none, .bin .add 9 (.t 19) (.t 23)⟩,
    ⟨(some 3), none, .move (.t 24)⟩] (some [1, 3, 4]))
  .skip))
 (.seq (.seq (.ops [⟨(some 25), none, .move (.t 4)⟩,
   ⟨(some 26), none, .bin .eql 3 (.t 25) (.c (.int .i64 3))⟩,
   ⟨(some 27), none, .move (.t 26)⟩,
   ⟨(some 28), (some (27, false)), .move (.t 4)⟩,
   ⟨(some 29), (some (27, false)), .bin .eql 3 (.t 28) (.c (.int .i64 11))⟩,
   ⟨(some 30), none, .pick (.t 27) (.c (.bool true)) (.t 29)⟩,
   ⟨(some 31), none, .move (.t 30)⟩,
   ⟨(some 32), (some (31, false)), .move (.t 4)⟩,
   ⟨(some 33), (some (31, false)), .bin .eql 3 (.t 32) (.c (.int .i64 17))⟩,
   ⟨(some 34), none, .pick (.t 31) (.c (.bool true)) (.t 33)⟩] (some [1, 3, 4, 34]))
 (.cond (.t 34)
  (.ops [⟨(some 35), none, .move (.t 3)⟩,
    ⟨(some 36), none, .fieldAddr 2 (.t 1)⟩,
    ⟨(some 37), none, .load false 1 (.t 36)⟩,
    ⟨(some 38), none, .call (.c (.func (.func 103) #[] #[])) [(.t 37)]⟩,
    ⟨(some 39), none, .bin .add 9 (.t 35) (.t 38)⟩,
    ⟨(some 3), none, .move (.t 39)⟩] (some [1, 3, 4]))
  .skip))
 (.seq (.seq (.ops [⟨(some 40), none, .move (.t 4)⟩,
   ⟨(some 41), none, .bin .eql 3 (.t 40) (.c (.int .i64 4))⟩,
   ⟨(some 42), none, .move (.t 41)⟩,
   ⟨(some 43), (some (42, false)), .move (.t 4)⟩,
   ⟨(some 44), (some (42, false)), .bin .eql 3 (.t 43) (.c (.int .i64 6))⟩,
   ⟨(some 45), none, .pick (.t 42) (.c (.bool true)) (.t 44)⟩] (some [1, 3, 4, 45]))
 (.cond (.t 45)
  (.ops [⟨(some 46), none, .move (.t 3)⟩,
    ⟨(some 47), none, .fieldAddr 3 (.t 1)⟩,
    ⟨(some 48), none, .load false 1 (.t 47)⟩,
    ⟨(some 49), none, .call (.c (.func (.func 102) #[] #[])) [(.t 48)]⟩,
    ⟨(some 50), none, .bin .add 9 (.t 46) (.t 49)⟩,
    ⟨(some 3), none, .move (.t 50)⟩] (some [1, 3, 4]))
  .skip))
 (.seq (.seq (.ops [⟨(some 51), none, .move (.t 4)⟩,
   ⟨(some 52), none, .bin .eql 3 (.t 51) (.c (.int .i64 6))⟩] (some [1, 3, 4, 52]))
 (.cond (.t 52)
  (.ops [⟨(some 53), none, .move (.t 3)⟩,
    ⟨(some 54), none, .fieldAddr 4 (.t 1)⟩,
    ⟨(some 55), none, .load false 1 (.t 54)⟩,
    ⟨(some 56), none, .call (.c (.func (.func 104) #[] #[])) [(.t 55)]⟩,
    ⟨(some 57), none, .bin .add 9 (.t 53) (.t 56)⟩,
    ⟨(some 3), none, .move (.t 57)⟩] (some [1, 3, 4]))
  .skip))
 (.seq (.seq (.ops [⟨(some 58), none, .move (.t 4)⟩,
   ⟨(some 59), none, .bin .geq 3 (.t 58) (.c (.int .i64 8))⟩,
   ⟨(some 60), none, .move (.t 59)⟩,
   ⟨(some 61), (some (60, true)), .move (.t 4)⟩,
   ⟨(some 62), (some (60, true)), .bin .leq 3 (.t 61) (.c (.int .i64 10))⟩,
   ⟨(some 63), none, .pick (.t 60) (.t 62) (.c (.bool false))⟩,
   ⟨(some 64), none, .move (.t 63)⟩,
   ⟨(some 65), (some (64, false)), .move (.t 4)⟩,
   ⟨(some 66), (some (64, false)), .bin .eql 3 (.t 65) (.c (.int .i64 16))⟩,
   ⟨(some 67), none, .pick (.t 64) (.c (.bool true)) (.t 66)⟩] (some [1, 3, 4, 67]))
 (.cond (.t 67)
  (.opsd [(0, 0, ⟨(some 68), none, .move (.t 3)⟩),
    (1, 0, ⟨(some 69), none, .fieldAddr 5 (.t 1)⟩),
    (2, 2, ⟨(some 70), none, .load false 1 (.t 69)⟩),
    (3, 6, ⟨(some 71), none, .conv 3 77 (.t 70)⟩),
    (6, 0, ⟨(some 74), none, .fieldAddr 6 (.t 1)⟩),
    (7, 64, ⟨(some 75), none, .load false 1 (.t 74)⟩),
    (4, 14, ⟨(some 72), none, .call (.c (.func (.func 102) #[] #[])) [(.t 71)]⟩),
    (5, 31, ⟨(some 73), none, .bin .add 9 (.t 68) (.t 72)⟩),
    (8, 222, ⟨(some 76), none, .call (.c (.func (.func 105) #[] #[])) [(.t 75)]⟩),
    (9, 511, ⟨(some 77), none, .bin .add 9 (.t 73) (.t 76)⟩),
    (10, 1023, ⟨(some 3), none, .move (.t 77)⟩)] (some [1, 3, 4]))
  .skip))
 (.seq (.seq (.ops [⟨(some 78), none, .move (.t 4)⟩,
   ⟨(some 79), none, .bin .eql 3 (.t 78) (.c (.int .i64 9))⟩] (some [1, 3, 4, 79]))
 (.cond (.t 79)
  (.ops [⟨(some 80), none, .move (.t 3)⟩,
    ⟨(some 81), none, .fieldAddr 7 (.t 1)⟩,
    ⟨(some 82), none, .load true 3 (.t 81)⟩,
    ⟨(some 83), none, .call (.c (.func (.func 106) #[] #[])) [(.t 82)]⟩,
    ⟨(some 84), none, .call (.c (.func (.func 105) #[] #[])) [(.t 83)]⟩,
    ⟨(some 85), none, .bin .add 9 (.t 80) (.t 84)⟩,
    ⟨(some 3), none, .move (.t 85)⟩] (some [1, 3, 4]))
  .skip))
 (.seq (.seq (.ops [⟨(some 86), none, .move (.t 4)⟩,
   ⟨(some 87), none, .bin .eql 3 (.t 86) (.c (.int .i64 11))⟩,
   ⟨(some 88), none, .move (.t 87)⟩,
   ⟨(some 89), (some (88, false)), .move (.t 4)⟩,
   ⟨(some 90), (some (88, false)), .bin .eql 3 (.t 89) (.c (.int .i64 17))⟩,
   ⟨(some 91), none, .pick (.t 88) (.c (.bool true)) (.t 90)⟩] (some [1, 3, 4, 91]))
 (.cond (.t 91)
  (.opsd [(0, 0, ⟨(some 92), none, .move (.t 3)⟩),
    (1, 0, ⟨(some 93), none, .fieldAddr 10 (.t 1)⟩),
    (2, 2, ⟨(some 94), none, .fieldAddr 0 (.t 93)⟩),
    (3, 6, ⟨(some 95), none, .load false 1 (.t 94)⟩),
    (6, 0, ⟨(some 98), none, .fieldAddr 10 (.t 1)⟩),
    (7, 64, ⟨(some 99), none, .fieldAddr 1 (.t 98)⟩),
    (8, 192, ⟨(some 100), none, .load false 1 (.t 99)⟩),
    (11, 0, ⟨(some 103), none, .fieldAddr 10 (.t 1)⟩),
    (12, 2048, ⟨(some 104), none, .fieldAddr 2 (.t 103)⟩),
    (13, 6144, ⟨(some 105), none, .load false 1 (.t 104)⟩),
    (14, 14336, ⟨(some 106), none, .conv 3 77 (.t 105)⟩),
    (4, 14, ⟨(some 96), none, .call (.c (.func (.func 105) #[] #[])) [(.t 95)]⟩),
    (5, 31, ⟨(some 97), none, .bin .add 9 (.t 92) (.t 96)⟩),
    (9, 478, ⟨(some 101), none, .call (.c (.func (.func 105) #[] #[])) [(.t 100)]⟩),
    (10, 1023, ⟨(some 102), none, .bin .add 9 (.t 97) (.t 101)⟩),
    (15, 31710, ⟨(some 107), none, .call (.c (.func (.func 102) #[] #[])) [(.t 106)]⟩),
    (16, 65535, ⟨(some 108), none, .bin .add 9 (.t 102) (.t 107)⟩),
    (17, 131071, ⟨(some 3), none, .move (.t 108)⟩)] (some [1, 3, 4]))
  .skip))
 (.seq (.seq (.ops [⟨(some 109), none, .move (.t 4)⟩,
   ⟨(some 110), none, .bin .eql 3 (.t 109) (.c (.int .i64 13))⟩] (some [1, 3, 4, 110]))
 (.cond (.t 110)
  (.ops [⟨(some 111), none, .move (.t 3)⟩,
    ⟨(some 112), none, .fieldAddr 13 (.t 1)⟩,
    ⟨(some 113), none, .load false 1 (.t 112)⟩,
    ⟨(some 114), none, .conv 3 77 (.t 113)⟩,
    ⟨(some 115), none, .call (.c (.func (.func 102) #[] #[])) [(.t 114)]⟩,
    ⟨(some 116), none, .bin .add 9 (.t 111) (.t 115)⟩,
    ⟨(some 3), none, .move (.t 116)⟩] (some [1, 3, 4]))
  .skip))
 (.seq (.seq (.ops [⟨(some 117), none, .move (.t 4)⟩,
   ⟨(some 118), none, .bin .eql 3 (.t 117) (.c (.int .i64 16))⟩] (some [1, 3, 118]))
 (.cond (.t 118)
  (.seq (.ops [⟨(some 119), none, .move (.t 3)⟩,
    ⟨(some 120), none, .fieldAddr 14 (.t 1)⟩,
    ⟨(some 121), none, .load false 1 (.t 120)⟩,
    ⟨(some 122), none, .len (.t 121)⟩,
    ⟨(some 123), none, .conv 3 77 (.t 122)⟩,
    ⟨(some 124), none, .call (.c (.func (.func 102) #[] #[])) [(.t 123)]⟩,
    ⟨(some 125), none, .bin .add 9 (.t 119) (.t 124)⟩,
    ⟨(some 3), none, .move (.t 125)⟩] (some [1, 3]))
  (.seq (.ops [⟨(some 5), none, .move (.c (.int .i64 0))⟩] (some [1, 3, 5]))
  (.block 0
   (.loop
    (.seq (.seq (.ops [⟨(some 126), none, .move (.t 5)⟩,
      ⟨(some 127), none, .fieldAddr 14 (.t 1)⟩,
      ⟨(some 128), none, .load false 1 (.t 127)⟩,
      ⟨(some 129), none, .len (.t 128)⟩,
      ⟨(some 130), none, .bin .lss 3 (.t 126) (.t 129)⟩] (some [1, 3, 5, 130]))
    (.cond (.t 130)
     .skip
     (.exit 0)))
    (.seq (.block 1
     (.opsd [(0, 0, ⟨(some 133), none, .move (.t 3)⟩),
       (1, 0, ⟨(some 134), none, .fieldAddr 14 (.t 1)⟩),
       (2, 2, ⟨(some 135), none, .load false 1 (.t 134)⟩),
       (3, 0, ⟨(some 136), none, .move (.t 5)⟩),
       (4, 14, ⟨(some 137), none, .indexAddr 2 (.t 135) (.t 136)⟩),
       (5, 30, ⟨(some 138), none, .fieldAddr 0 (.t 137)⟩),
       (6, 62, ⟨(some 139), none, .load false 1 (.t 138)⟩),
       (7, 126, ⟨(some 140), none, .conv 3 77 (.t 139)⟩),
       (10, 0, ⟨(some 143), none, .fieldAddr 14 (.t 1)⟩),
       (11, 1024, ⟨(some 144), none, .load false 1 (.t 143)⟩),
       (12, 0, ⟨(some 145), none, .move (.t 5)⟩),
       (13, 7168, ⟨(some 146), none, .indexAddr 2 (.t 144) (.t 145)⟩),
       (14, 15360, ⟨(some 147), none, .fieldAddr 1 (.t 146)⟩),
       (15, 31744, ⟨(some 148), none, .load false 1 (.t 147)⟩),
       (8, 254, ⟨(some 141), none, .call (.c (.func (.func 102) #[] #[])) [(.t 140)]⟩),
       (9, 511, ⟨(some 142), none, .bin .add 9 (.t 133) (.t 141)⟩),
       (16, 65022, ⟨(some 149), none, .call (.c (.func (.func 102) #[] #[])) [(.t 148)]⟩),
       (17, 131071, ⟨(some 150), none, .bin .add 9 (.t 142) (.t 149)⟩),
       (18, 262143, ⟨(some 3), none, .move (.t 150)⟩)] (some [1, 3, 5])))
    (.ops [⟨(some 131), none, .move (.t 5)⟩,
      ⟨(some 132), none, .bin .add 3 (.t 131) (.c (.int .i64 1))⟩,
      ⟨(some 5), none, .move (.t 132)⟩] (some [1, 3, 5]))))))))
  .skip))
 (.seq (.ops [⟨(some 151), none, .move (.t 3)⟩,
   ⟨(some 2), none, .move (.t 151)⟩] (some [2]))
 .ret))))))))))))), [.tmp 2]⟩

theorem is54 : FnIs Tryz.prog 54 x54 := ⟨Tryz.f54, _, Tryz.func54, by kernel_rfl, rfl, by kernel_rfl, by decide, by kernel_rfl⟩

/-- (*cloisonne/watch.Watch).answered -/
def x55 : XDecl := .code ⟨3, 
 (.seq (.ops [⟨(some 4), none, .box (.t 1)⟩] (some [0, 2, 4]))
 (.seq (.opsd [(0, 0, ⟨(some 7), none, .fieldAddr 1 (.t 4)⟩),
   (1, 1, ⟨(some 8), none, .load false 1 (.t 7)⟩),
   (2, 0, ⟨(some 9), none, .move (.t 0)⟩),
   (3, 4, ⟨(some 10), none, .nilCheck (.t 9)⟩),
   (4, 12, ⟨(some 11), none, .fieldAddr 0 (.t 10)⟩),
   (5, 28, ⟨(some 12), none, .load false 1 (.t 11)⟩),
   (7, 0, ⟨(some 14), none, .fieldAddr 3 (.t 4)⟩),
   (8, 128, ⟨(some 15), none, .load false 1 (.t 14)⟩),
   (9, 0, ⟨(some 16), none, .move (.t 2)⟩),
   (11, 0, ⟨(some 6), none, .alloc [(.int .i64 0), (.int .i64 0), (.int .i64 0), (.int .i64 0), (.string .empty), (.string .empty)]⟩),
   (6, 60, ⟨(some 13), none, .call (.c (.func (.func 13) #[] #[])) [(.t 12)]⟩),
   (10, 1023, ⟨(some 17), none, .build [(.int .i64 0), (.int .i64 0), (.int .i64 0), (.int .i64 0), (.string .empty), (.string .empty)] [(0, 1), (1, 1), (2, 1), (3, 1), (4, 1), (5, 1)] [(0, (.c (.int .i64 1))), (1, (.t 8)), (2, (.c (.int .i64 (-1)))), (3, (.t 13)), (4, (.t 15)), (5, (.t 16))]⟩),
   (12, 4095, ⟨none, none, .store 6 (.t 6) (.t 17)⟩)] (some [0, 4, 6]))
 (.seq (.seq (.ops [⟨(some 18), none, .fieldAddr 0 (.t 4)⟩,
   ⟨(some 19), none, .load false 1 (.t 18)⟩,
   ⟨(some 20), none, .bin .eql 3 (.t 19) (.c (.int .i64 2))⟩] (some [0, 4, 6, 20]))
 (.cond (.t 20)
  (.seq (.opsd [(0, 0, ⟨(some 21), none, .move (.t 0)⟩),
    (1, 1, ⟨(some 22), none, .nilCheck (.t 21)⟩),
    (2, 3, ⟨(some 23), none, .fieldAddr 0 (.t 22)⟩),
    (3, 7, ⟨(some 24), none, .load false 1 (.t 23)⟩),
    (4, 0, ⟨(some 25), none, .fieldAddr 1 (.t 4)⟩),
    (5, 16, ⟨(some 26), none, .load false 1 (.t 25)⟩),
    (8, 0, ⟨(some 29), none, .move (.t 0)⟩),
    (9, 256, ⟨(some 30), none, .nilCheck (.t 29)⟩),
    (10, 768, ⟨(some 31), none, .fieldAddr 1 (.t 30)⟩),
    (11, 1792, ⟨(some 32), none, .load false 1 (.t 31)⟩),
    (12, 0, ⟨(some 33), none, .fieldAddr 1 (.t 4)⟩),
    (13, 4096, ⟨(some 34), none, .load false 1 (.t 33)⟩),
    (14, 16128, ⟨(some 35), none, .lookup true (.string .empty) false (.t 32) (.t 34)⟩),
    (6, 63, ⟨(some 27), none, .call (.c (.func (.func 16) #[] #[])) [(.t 24), (.t 26)]⟩),
    (7, 127, ⟨(some 28), none, .call (.c (.func (.func 107) #[] #[])) [(.t 27)]⟩),
    (15, 255, ⟨(some 36), none, .fieldAddr 3 (.t 6)⟩),
    (16, 33023, ⟨none, none, .store 1 (.t 36) (.t 28)⟩),
    (17, 131071, ⟨(some 37), none, .fieldAddr 4 (.t 6)⟩),
    (18, 262143, ⟨none, none, .store 1 (.t 37) (.t 35)⟩)] (some [0, 4, 6]))
  (.opsd [(0, 0, ⟨(some 38), none, .move (.t 0)⟩),
    (1, 1, ⟨(some 39), none, .nilCheck (.t 38)⟩),
    (2, 3, ⟨(some 40), none, .fieldAddr 1 (.t 39)⟩),
    (3, 7, ⟨(some 41), none, .load false 1 (.t 40)⟩),
    (4, 0, ⟨(some 42), none, .fieldAddr 1 (.t 4)⟩),
    (5, 16, ⟨(some 43), none, .load false 1 (.t 42)⟩),
    (6, 63, ⟨none, none, .mapDel true (.t 41) (.t 43)⟩)] (some [0, 6])))
  .skip))
 (.ops [⟨(some 44), none, .move (.t 0)⟩,
   ⟨(some 45), none, .load true 6 (.t 6)⟩,
   ⟨(some 46), none, .call (.c (.func (.func 56) #[] #[])) [(.t 44), (.t 45)]⟩] (some []))))), []⟩

theorem is55 : FnIs Tryz.prog 55 x55 := ⟨Tryz.f55, _, Tryz.func55, by kernel_rfl, rfl, by kernel_rfl, by decide, by kernel_rfl⟩

/-- (*cloisonne/watch.Watch).tell -/
def x56 : XDecl := .code ⟨2, 
 (.seq (.ops [⟨(some 3), none, .box (.t 1)⟩] (some [0, 3]))
 (.opsd [(0, 0, ⟨(some 4), none, .move (.t 0)⟩),
   (1, 0, ⟨(some 5), none, .move (.t 0)⟩),
   (2, 2, ⟨(some 6), none, .nilCheck (.t 5)⟩),
   (3, 6, ⟨(some 7), none, .fieldAddr 2 (.t 6)⟩),
   (4, 14, ⟨(some 8), none, .load false 1 (.t 7)⟩),
   (5, 0, ⟨(some 9), none, .load true 6 (.t 3)⟩),
   (6, 32, ⟨(some 10), none, .buildSlice [(.int .i64 0), (.int .i64 0), (.int .i64 0), (.int .i64 0), (.string .empty), (.string .empty)] 6 1 [(0, (.t 9))]⟩),
   (7, 126, ⟨(some 11), none, .append 6 64 [(.int .i64 0), (.int .i64 0), (.int .i64 0), (.int .i64 0), (.string .empty), (.string .empty)] (.t 8) (.t 10)⟩),
   (8, 255, ⟨(some 12), none, .nilCheck (.t 4)⟩),
   (9, 511, ⟨(some 13), none, .fieldAddr 2 (.t 12)⟩),
   (10, 1023, ⟨none, none, .store 1 (.t 13) (.t 11)⟩)] (some []))), []⟩

theorem is56 : FnIs Tryz.prog 56 x56 := ⟨Tryz.f56, _, Tryz.func56, by kernel_rfl, rfl, by kernel_rfl, by decide, by kernel_rfl⟩

/-- slices.Clone[[]cloisonne/api.Call,cloisonne/api.Call] -/
def x59 : XDecl := .code ⟨1, 
 (.seq (.ops [⟨(some 2), none, .move (.c (.slice none 0 0))⟩] (some [0]))
 (.seq (.seq (.ops [⟨(some 3), none, .move (.t 0)⟩,
   ⟨(some 4), none, .isNil .slice false (.t 3)⟩] (some [0, 4]))
 (.cond (.t 4)
  (.seq (.ops [⟨(some 2), none, .move (.c (.slice none 0 0))⟩] (some [2]))
  .ret)
  .skip))
 (.seq (.ops [⟨(some 5), none, .buildSlice [(.int .i64 0), (.int .i64 0), (.int .i64 0), (.int .i64 0), (.string .empty), (.string .empty)] 6 0 []⟩,
   ⟨(some 6), none, .move (.t 0)⟩,
   ⟨(some 7), none, .append 6 64 [(.int .i64 0), (.int .i64 0), (.int .i64 0), (.int .i64 0), (.string .empty), (.string .empty)] (.t 5) (.t 6)⟩,
   ⟨(some 2), none, .move (.t 7)⟩] (some [2]))
 .ret))), [.tmp 2]⟩

theorem is59 : FnIs Tryz.prog 59 x59 := ⟨Tryz.f59, _, Tryz.func59, by kernel_rfl, rfl, by kernel_rfl, by decide, by kernel_rfl⟩

/-- slices.SortStableFunc[[]cloisonne/api.Call,cloisonne/api.Call] -/
def x60 : XDecl := .code ⟨2, 
 (.ops [⟨(some 4), none, .move (.t 0)⟩,
   ⟨(some 5), none, .move (.t 0)⟩,
   ⟨(some 6), none, .len (.t 5)⟩,
   ⟨(some 7), none, .move (.t 1)⟩,
   ⟨(some 8), none, .call (.c (.func (.func 108) #[] #[])) [(.t 4), (.t 6), (.t 7)]⟩] (some [])), []⟩

theorem is60 : FnIs Tryz.prog 60 x60 := ⟨Tryz.f60, _, Tryz.func60, by kernel_rfl, rfl, by kernel_rfl, by decide, by kernel_rfl⟩

/-- (*cloisonne/watch.Watch).Calls$1 -/
def x61 : XDecl := .code ⟨2, 
 (.seq (.ops [⟨(some 2), none, .box (.t 0)⟩,
   ⟨(some 3), none, .box (.t 1)⟩,
   ⟨(some 4), none, .move (.c (.int .i64 0))⟩] (some [2, 3]))
 (.seq (.ops [⟨(some 5), none, .fieldAddr 3 (.t 2)⟩,
   ⟨(some 6), none, .load false 1 (.t 5)⟩,
   ⟨(some 7), none, .fieldAddr 3 (.t 3)⟩,
   ⟨(some 8), none, .load false 1 (.t 7)⟩,
   ⟨(some 9), none, .call (.c (.func (.func 62) #[] #[])) [(.t 6), (.t 8)]⟩,
   ⟨(some 4), none, .move (.t 9)⟩] (some [4]))
 .ret)), [.tmp 4]⟩

theorem is61 : FnIs Tryz.prog 61 x61 := ⟨Tryz.f61, _, Tryz.func61, by kernel_rfl, rfl, by kernel_rfl, by decide, by kernel_rfl⟩

/-- cmp.Compare[int] -/
def x62 : XDecl := .code ⟨2, 
 (.seq (.ops [⟨(some 4), none, .move (.c (.int .i64 0))⟩] (some [0, 1]))
 (.seq (.ops [⟨(some 7), none, .move (.t 0)⟩,
   ⟨(some 8), none, .call (.c (.func (.func 109) #[] #[])) [(.t 7)]⟩,
   ⟨(some 5), none, .move (.t 8)⟩] (some [0, 1, 5]))
 (.seq (.ops [⟨(some 9), none, .move (.t 1)⟩,
   ⟨(some 10), none, .call (.c (.func (.func 109) #[] #[])) [(.t 9)]⟩,
   ⟨(some 6), none, .move (.t 10)⟩] (some [0, 1, 5, 6]))
 (.seq (.seq (.ops [⟨(some 11), none, .move (.t 5)⟩] (some [0, 1, 6, 11]))
 (.cond (.t 11)
  (.seq (.seq (.ops [⟨(some 12), none, .move (.t 6)⟩] (some [12]))
  (.cond (.t 12)
   (.seq (.ops [⟨(some 4), none, .move (.c (.int .i64 0))⟩] (some [4]))
   .ret)
   .skip))
  (.seq (.ops [⟨(some 4), none, .move (.c (.int .i64 (-1)))⟩] (some [4]))
  .ret))
  .skip))
 (.seq (.seq (.ops [⟨(some 13), none, .move (.t 6)⟩] (some [0, 1, 13]))
 (.cond (.t 13)
  (.seq (.ops [⟨(some 4), none, .move (.c (.int .i64 1))⟩] (some [4]))
  .ret)
  .skip))
 (.seq (.seq (.ops [⟨(some 14), none, .move (.t 0)⟩,
   ⟨(some 15), none, .move (.t 1)⟩,
   ⟨(some 16), none, .bin .lss 3 (.t 14) (.t 15)⟩] (some [0, 1, 16]))
 (.cond (.t 16)
  (.seq (.ops [⟨(some 4), none, .move (.c (.int .i64 (-1)))⟩] (some [4]))
  .ret)
  .skip))
 (.seq (.seq (.ops [⟨(some 17), none, .move (.t 0)⟩,
   ⟨(some 18), none, .move (.t 1)⟩,
   ⟨(some 19), none, .bin .gtr 3 (.t 17) (.t 18)⟩] (some [19]))
 (.cond (.t 19)
  (.seq (.ops [⟨(some 4), none, .move (.c (.int .i64 1))⟩] (some [4]))
  .ret)
  .skip))
 (.seq (.ops [⟨(some 4), none, .move (.c (.int .i64 0))⟩] (some [4]))
 .ret)))))))), [.tmp 4]⟩

theorem is62 : FnIs Tryz.prog 62 x62 := ⟨Tryz.f62, _, Tryz.func62, by kernel_rfl, rfl, by kernel_rfl, by decide, by kernel_rfl⟩

/-- (*cloisonne/watch.Watch).round -/
def x65 : XDecl := .code ⟨1, 
 (.seq (.ops [⟨(some 2), none, .move (.c (.bool false))⟩] (some [0]))
 (.seq (.ops [⟨(some 3), none, .move (.c (.bool false))⟩] (some [0, 3]))
 (.seq (.seq (.ops [⟨(some 7), none, .move (.t 0)⟩,
   ⟨(some 8), none, .nilCheck (.t 7)⟩,
   ⟨(some 9), none, .fieldAddr 0 (.t 8)⟩,
   ⟨(some 10), none, .load false 1 (.t 9)⟩,
   ⟨(some 11), none, .call (.c (.func (.func 17) #[] #[])) [(.t 10)]⟩,
   ⟨(some 12), none, .len (.t 11)⟩,
   ⟨(some 13), none, .move (.c (.int .i64 0))⟩] (some [0, 3, 11, 12, 13]))
 (.block 0
  (.loop
   (.seq (.ops [⟨(some 14), none, .bin .lss 3 (.t 13) (.t 12)⟩] (some [0, 3, 11, 12, 13, 14]))
   (.seq (.cond (.t 14)
    .skip
    (.exit 0))
   (.seq (.block 1
    (.seq (.ops [⟨(some 15), none, .indexAddr 1 (.t 11) (.t 13)⟩,
      ⟨(some 16), none, .load false 1 (.t 15)⟩,
      ⟨(some 5), none, .move (.t 16)⟩] (some [0, 5, 11, 12, 13]))
    (.seq (.ops [⟨(some 17), none, .move (.t 0)⟩,
      ⟨(some 18), none, .move (.t 5)⟩,
      ⟨(some 19), none, .build [(.int .i64 0), (.int .i64 0), (.int .i64 0), (.string .empty), (.slice none 0 0)] [(0, 1), (1, 1), (2, 1), (3, 1), (4, 1)] [(0, (.c (.int .i64 2))), (1, (.t 18))]⟩,
      ⟨(some 20), none, .call (.c (.func (.func 21) #[] #[])) [(.t 17), (.t 19)]⟩] (some [0, 11, 12, 13]))
    (.ops [⟨(some 3), none, .move (.c (.bool true))⟩] (some [0, 3, 11, 12, 13])))))
   (.ops [⟨(some 21), none, .bin .add 3 (.t 13) (.c (.int .i64 1))⟩,
     ⟨(some 13), none, .move (.t 21)⟩] (some [0, 3, 11, 12, 13]))))))))
 (.seq (.seq (.ops [⟨(some 6), none, .move (.c (.int .i64 (-1)))⟩] (some [0, 3, 6]))
 (.block 2
  (.loop
   (.seq (.seq (.ops [⟨(some 22), none, .move (.t 6)⟩,
     ⟨(some 23), none, .move (.t 0)⟩,
     ⟨(some 24), none, .nilCheck (.t 23)⟩,
     ⟨(some 25), none, .fieldAddr 0 (.t 24)⟩,
     ⟨(some 26), none, .load false 1 (.t 25)⟩,
     ⟨(some 27), none, .call (.c (.func (.func 14) #[] #[])) [(.t 26)]⟩,
     ⟨(some 28), none, .call (.c (.func (.func 50) #[] #[])) [(.t 27)]⟩,
     ⟨(some 29), none, .field false 3 1 (.t 28)⟩,
     ⟨(some 30), none, .len (.t 29)⟩,
     ⟨(some 31), none, .bin .lss 3 (.t 22) (.t 30)⟩] (some [0, 3, 6, 31]))
   (.cond (.t 31)
    .skip
    (.exit 2)))
   (.seq (.block 3
    (.seq (.ops [⟨(some 34), none, .move (.t 0)⟩,
      ⟨(some 35), none, .nilCheck (.t 34)⟩,
      ⟨(some 36), none, .fieldAddr 0 (.t 35)⟩,
      ⟨(some 37), none, .load false 1 (.t 36)⟩,
      ⟨(some 38), none, .move (.t 6)⟩,
      ⟨(some 39), none, .call (.c (.func (.func 18) #[] #[])) [(.t 37), (.t 38)]⟩] (some [0, 3, 6, 39]))
    (.cond (.t 39)
     (.seq (.ops [⟨(some 40), none, .move (.t 0)⟩,
       ⟨(some 41), none, .move (.t 6)⟩,
       ⟨(some 42), none, .build [(.int .i64 0), (.int .i64 0), (.int .i64 0), (.string .empty), (.slice none 0 0)] [(0, 1), (1, 1), (2, 1), (3, 1), (4, 1)] [(0, (.c (.int .i64 4))), (2, (.t 41))]⟩,
       ⟨(some 43), none, .call (.c (.func (.func 21) #[] #[])) [(.t 40), (.t 42)]⟩] (some [0, 6]))
     (.ops [⟨(some 3), none, .move (.c (.bool true))⟩] (some [0, 3, 6])))
     .skip)))
   (.ops [⟨(some 32), none, .move (.t 6)⟩,
     ⟨(some 33), none, .bin .add 3 (.t 32) (.c (.int .i64 1))⟩,
     ⟨(some 6), none, .move (.t 33)⟩] (some [0, 3, 6])))))))
 (.seq (.ops [⟨(some 44), none, .move (.t 3)⟩,
   ⟨(some 2), none, .move (.t 44)⟩] (some [2]))
 .ret))))), [.tmp 2]⟩

theorem is65 : FnIs Tryz.prog 65 x65 := ⟨Tryz.f65, _, Tryz.func65, by kernel_rfl, rfl, by kernel_rfl, by decide, by kernel_rfl⟩

/-- cloisonne/cloisonneref18.Right -/
def x73 : XDecl := .code ⟨1, 
 (.seq (.ops [⟨(some 1), none, .box (.t 0)⟩,
   ⟨(some 2), none, .move (.c (.bool false))⟩] (some [1]))
 (.seq (.seq (.ops [⟨(some 5), none, .fieldAddr 0 (.t 1)⟩,
   ⟨(some 6), none, .load false 1 (.t 5)⟩,
   ⟨(some 7), none, .bin .lss 3 (.t 6) (.c (.int .i64 1))⟩,
   ⟨(some 8), none, .move (.t 7)⟩,
   ⟨(some 9), (some (8, false)), .fieldAddr 0 (.t 1)⟩,
   ⟨(some 10), (some (8, false)), .load false 1 (.t 9)⟩,
   ⟨(some 11), (some (8, false)), .bin .gtr 3 (.t 10) (.c (.int .i64 8))⟩,
   ⟨(some 12), none, .pick (.t 8) (.c (.bool true)) (.t 11)⟩,
   ⟨(some 13), none, .move (.t 12)⟩,
   ⟨(some 14), (some (13, false)), .fieldAddr 1 (.t 1)⟩,
   ⟨(some 15), (some (13, false)), .load false 1 (.t 14)⟩,
   ⟨(some 16), (some (13, false)), .bin .lss 3 (.t 15) (.c (.int .i64 1))⟩,
   ⟨(some 17), none, .pick (.t 13) (.c (.bool true)) (.t 16)⟩,
   ⟨(some 18), none, .move (.t 17)⟩,
   ⟨(some 19), (some (18, false)), .fieldAddr 1 (.t 1)⟩,
   ⟨(some 20), (some (18, false)), .load false 1 (.t 19)⟩,
   ⟨(some 21), (some (18, false)), .bin .gtr 3 (.t 20) (.c (.int .i64 16))⟩,
   ⟨(some 22), none, .pick (.t 18) (.c (.bool true)) (.t 21)⟩,
   ⟨(some 23), none, .move (.t 22)⟩,
   ⟨(some 24), (some (23, false)), .fieldAddr 2 (.t 1)⟩,
   ⟨(some 25), (some (23, false)), .load false 1 (.t 24)⟩,
   ⟨(some 26), (some (23, false)), .bin .lss 3 (.t 25) (.c (.int .i64 1))⟩,
   ⟨(some 27), none, .pick (.t 23) (.c (.bool true)) (.t 26)⟩,
   ⟨(some 28), none, .move (.t 27)⟩,
   ⟨(some 29), (some (28, false)), .fieldAddr 2 (.t 1)⟩,
   ⟨(some 30), (some (28, false)), .load false 1 (.t 29)⟩,
   ⟨(some 31), (some (28, false)), .bin .gtr 3 (.t 30) (.c (.int .i64 128))⟩,
   ⟨(some 32), none, .pick (.t 28) (.c (.bool true)) (.t 31)⟩,
   ⟨(some 33), none, .move (.t 32)⟩,
   ⟨(some 34), (some (33, false)), .fieldAddr 3 (.t 1)⟩,
   ⟨(some 35), (some (33, false)), .load false 1 (.t 34)⟩,
   ⟨(some 36), (some (33, false)), .len (.t 35)⟩,
   ⟨(some 37), (some (33, false)), .bin .gtr 3 (.t 36) (.c (.int .i64 8))⟩,
   ⟨(some 38), none, .pick (.t 33) (.c (.bool true)) (.t 37)⟩] (some [1, 38]))
 (.cond (.t 38)
  (.seq (.ops [⟨(some 2), none, .move (.c (.bool false))⟩] (some [2]))
  .ret)
  .skip))
 (.seq (.seq (.ops [⟨(some 3), none, .move (.c (.int .i64 0))⟩] (some [1, 3]))
 (.block 0
  (.loop
   (.seq (.seq (.ops [⟨(some 39), none, .move (.t 3)⟩,
     ⟨(some 40), none, .fieldAddr 3 (.t 1)⟩,
     ⟨(some 41), none, .load false 1 (.t 40)⟩,
     ⟨(some 42), none, .len (.t 41)⟩,
     ⟨(some 43), none, .bin .lss 3 (.t 39) (.t 42)⟩] (some [1, 3, 43]))
   (.cond (.t 43)
    .skip
    (.exit 0)))
   (.seq (.block 1
    (.seq (.seq (.ops [⟨(some 46), none, .fieldAddr 3 (.t 1)⟩,
      ⟨(some 47), none, .load false 1 (.t 46)⟩,
      ⟨(some 48), none, .move (.t 3)⟩,
      ⟨(some 49), none, .indexAddr 4 (.t 47) (.t 48)⟩,
      ⟨(some 50), none, .load true 4 (.t 49)⟩,
      ⟨(some 51), none, .call (.c (.func (.func 120) #[] #[])) [(.t 50)]⟩,
      ⟨(some 52), none, .un .not (.t 51)⟩] (some [1, 3, 52]))
    (.cond (.t 52)
     (.seq (.ops [⟨(some 2), none, .move (.c (.bool false))⟩] (some [2]))
     .ret)
     .skip))
    (.seq (.ops [⟨(some 4), none, .move (.c (.int .i64 0))⟩] (some [1, 3, 4]))
    (.block 2
     (.loop
      (.seq (.seq (.ops [⟨(some 53), none, .move (.t 4)⟩,
        ⟨(some 54), none, .move (.t 3)⟩,
        ⟨(some 55), none, .bin .lss 3 (.t 53) (.t 54)⟩] (some [1, 3, 4, 55]))
      (.cond (.t 55)
       .skip
       (.exit 2)))
      (.seq (.block 3
       (.seq (.opsd [(0, 0, ⟨(some 58), none, .fieldAddr 3 (.t 1)⟩),
         (1, 1, ⟨(some 59), none, .load false 1 (.t 58)⟩),
         (2, 0, ⟨(some 60), none, .move (.t 3)⟩),
         (3, 7, ⟨(some 61), none, .indexAddr 4 (.t 59) (.t 60)⟩),
         (4, 15, ⟨(some 62), none, .fieldAddr 0 (.t 61)⟩),
         (5, 31, ⟨(some 63), none, .load false 1 (.t 62)⟩),
         (6, 0, ⟨(some 64), none, .fieldAddr 3 (.t 1)⟩),
         (7, 64, ⟨(some 65), none, .load false 1 (.t 64)⟩),
         (8, 0, ⟨(some 66), none, .move (.t 4)⟩),
         (9, 448, ⟨(some 67), none, .indexAddr 4 (.t 65) (.t 66)⟩),
         (10, 960, ⟨(some 68), none, .fieldAddr 0 (.t 67)⟩),
         (11, 1984, ⟨(some 69), none, .load false 1 (.t 68)⟩),
         (12, 4095, ⟨(some 70), none, .call (.c (.func (.func 121) #[] #[])) [(.t 63), (.t 69)]⟩)] (some [1, 3, 4, 70]))
       (.cond (.t 70)
        (.seq (.ops [⟨(some 2), none, .move (.c (.bool false))⟩] (some [2]))
        .ret)
        .skip)))
      (.ops [⟨(some 56), none, .move (.t 4)⟩,
        ⟨(some 57), none, .bin .add 3 (.t 56) (.c (.int .i64 1))⟩,
        ⟨(some 4), none, .move (.t 57)⟩] (some [1, 3, 4])))))))))
   (.ops [⟨(some 44), none, .move (.t 3)⟩,
     ⟨(some 45), none, .bin .add 3 (.t 44) (.c (.int .i64 1))⟩,
     ⟨(some 3), none, .move (.t 45)⟩] (some [1, 3])))))))
 (.seq (.ops [⟨(some 2), none, .move (.c (.bool true))⟩] (some [2]))
 .ret)))), [.tmp 2]⟩

theorem is73 : FnIs Tryz.prog 73 x73 := ⟨Tryz.f73, _, Tryz.func73, by kernel_rfl, rfl, by kernel_rfl, by decide, by kernel_rfl⟩

/-- cloisonne/ask.must -/
def x75 : XDecl := .code ⟨1, 
 (.seq (.ops [⟨(some 2), none, .move (.t 0)⟩,
   ⟨(some 3), none, .un .not (.t 2)⟩] (some [3]))
 (.cond (.t 3)
  (.ops [⟨(some 4), none, .build [] [] []⟩,
    ⟨(some 5), none, .makeIface 222 (.t 4)⟩,
    ⟨none, none, .fail⟩] (some []))
  .skip)), []⟩

theorem is75 : FnIs Tryz.prog 75 x75 := ⟨Tryz.f75, _, Tryz.func75, by kernel_rfl, rfl, by kernel_rfl, by decide, by kernel_rfl⟩

/-- cloisonne/ask.Right -/
def x76 : XDecl := .code ⟨1, 
 (.seq (.ops [⟨(some 1), none, .box (.t 0)⟩,
   ⟨(some 2), none, .move (.c (.bool false))⟩] (some [1]))
 (.seq (.ops [⟨(some 5), none, .fieldAddr 0 (.t 1)⟩,
   ⟨(some 6), none, .load false 1 (.t 5)⟩,
   ⟨(some 7), none, .call (.c (.func (.func 79) #[] #[])) [(.t 6)]⟩,
   ⟨(some 3), none, .move (.t 7)⟩] (some [1, 3]))
 (.seq (.seq (.ops [⟨(some 4), none, .move (.c (.int .i64 0))⟩] (some [1, 3, 4]))
 (.block 0
  (.loop
   (.seq (.seq (.ops [⟨(some 8), none, .move (.t 4)⟩,
     ⟨(some 9), none, .bin .leq 160 (.t 8) (.c (.int .i64 9))⟩] (some [1, 3, 4, 9]))
   (.cond (.t 9)
    .skip
    (.exit 0)))
   (.seq (.block 1
    (.seq (.ops [⟨(some 12), none, .move (.t 3)⟩,
      ⟨(some 13), none, .move (.t 4)⟩,
      ⟨(some 14), none, .call (.c (.func (.func 122) #[] #[])) [(.t 12), (.t 13)]⟩,
      ⟨(some 15), none, .move (.t 14)⟩,
      ⟨(some 16), (some (15, true)), .load true 15 (.t 1)⟩,
      ⟨(some 17), (some (15, true)), .move (.t 4)⟩,
      ⟨(some 18), (some (15, true)), .call (.c (.func (.func 123) #[] #[])) [(.t 16), (.t 17)]⟩,
      ⟨(some 19), (some (15, true)), .un .not (.t 18)⟩,
      ⟨(some 20), none, .pick (.t 15) (.t 19) (.c (.bool false))⟩,
      ⟨(some 21), none, .move (.t 20)⟩,
      ⟨(some 22), (some (21, false)), .move (.t 3)⟩,
      ⟨(some 23), (some (21, false)), .move (.t 4)⟩,
      ⟨(some 24), (some (21, false)), .call (.c (.func (.func 122) #[] #[])) [(.t 22), (.t 23)]⟩,
      ⟨(some 25), (some (21, false)), .un .not (.t 24)⟩,
      ⟨(some 26), (some (21, false)), .move (.t 25)⟩,
      ⟨(some 27), (some (26, true)), .load true 15 (.t 1)⟩,
      ⟨(some 28), (some (26, true)), .move (.t 4)⟩,
      ⟨(some 29), (some (26, true)), .call (.c (.func (.func 124) #[] #[])) [(.t 27), (.t 28)]⟩,
      ⟨(some 30), (some (26, true)), .un .not (.t 29)⟩,
      ⟨(some 31), (some (21, false)), .pick (.t 26) (.t 30) (.c (.bool false))⟩,
      ⟨(some 32), none, .pick (.t 21) (.c (.bool true)) (.t 31)⟩] (some [1, 3, 4, 32]))
    (.cond (.t 32)
     (.seq (.ops [⟨(some 2), none, .move (.c (.bool false))⟩] (some [2]))
     .ret)
     .skip)))
   (.ops [⟨(some 10), none, .move (.t 4)⟩,
     ⟨(some 11), none, .bin .add 160 (.t 10) (.c (.int .i64 1))⟩,
     ⟨(some 4), none, .move (.t 11)⟩] (some [1, 3, 4])))))))
 (.seq (.ops [⟨(some 33), none, .fieldAddr 0 (.t 1)⟩,
   ⟨(some 34), none, .load false 1 (.t 33)⟩,
   ⟨(some 35), none, .call (.c (.func (.func 125) #[] #[])) [(.t 34), (.c (.int .i64 1)), (.c (.int .i64 17))]⟩,
   ⟨(some 2), none, .move (.t 35)⟩] (some [2]))
 .ret)))), [.tmp 2]⟩

theorem is76 : FnIs Tryz.prog 76 x76 := ⟨Tryz.f76, _, Tryz.func76, by kernel_rfl, rfl, by kernel_rfl, by decide, by kernel_rfl⟩

/-- cloisonne/ask.tell -/
def x77 : XDecl := .code ⟨2, 
 (.seq (.ops [⟨(some 4), none, .move (.c (.string .empty))⟩] (some [0, 1]))
 (.seq (.ops [⟨(some 8), none, .move (.t 0)⟩,
   ⟨(some 9), none, .move (.t 1)⟩,
   ⟨(some 10), none, .call (.c (.func (.func 126) #[] #[])) [(.t 8), (.t 9)]⟩,
   ⟨(some 7), none, .move (.t 10)⟩,
   ⟨(some 11), none, .extract (.t 7) 0⟩,
   ⟨(some 12), none, .extract (.t 7) 1⟩,
   ⟨(some 5), none, .move (.t 11)⟩,
   ⟨(some 6), none, .move (.t 12)⟩] (some [5, 6]))
 (.seq (.ops [⟨(some 13), none, .move (.t 6)⟩,
   ⟨(some 14), none, .bin .eql 32 (.t 13) (.c (.int .i64 0))⟩,
   ⟨(some 15), none, .call (.c (.func (.func 75) #[] #[])) [(.t 14)]⟩] (some [5]))
 (.seq (.ops [⟨(some 16), none, .move (.t 5)⟩,
   ⟨(some 4), none, .move (.t 16)⟩] (some [4]))
 .ret)))), [.tmp 4]⟩

theorem is77 : FnIs Tryz.prog 77 x77 := ⟨Tryz.f77, _, Tryz.func77, by kernel_rfl, rfl, by kernel_rfl, by decide, by kernel_rfl⟩

/-- cloisonne/ask.number -/
def x78 : XDecl := .code ⟨1, 
 (.seq (.ops [⟨(some 2), none, .alloc [(.int .u64 0), (.string .empty), (.slice none 0 0), (.slice none 0 0)]⟩] (some [0, 2]))
 (.seq (.ops [⟨(some 3), none, .move (.t 0)⟩,
   ⟨(some 4), none, .conv 3 77 (.t 3)⟩,
   ⟨(some 5), none, .build [(.int .u64 0), (.string .empty), (.slice none 0 0), (.slice none 0 0)] [(0, 1), (1, 1), (2, 1), (3, 1)] [(0, (.t 4))]⟩,
   ⟨none, none, .store 4 (.t 2) (.t 5)⟩] (some [2]))
 .ret)), [.cell true 4 2]⟩

theorem is78 : FnIs Tryz.prog 78 x78 := ⟨Tryz.f78, _, Tryz.func78, by kernel_rfl, rfl, by kernel_rfl, by decide, by kernel_rfl⟩

def tabA : FuncId → Option XDecl
  | 4 => some x4
  | 7 => some x7
  | 8 => some x8
  | 9 => some x9
  | 10 => some x10
  | 11 => some x11
  | 12 => some x12
  | 13 => some x13
  | 14 => some x14
  | 16 => some x16
  | 17 => some x17
  | 18 => some x18
  | 20 => some x20
  | 21 => some x21
  | 22 => some x22
  | 23 => some x23
  | 24 => some x24
  | 25 => some x25
  | 26 => some x26
  | 27 => some x27
  | 28 => some x28
  | 35 => some x35
  | 36 => some x36
  | 40 => some x40
  | 41 => some x41
  | 42 => some x42
  | 43 => some x43
  | 44 => some x44
  | 49 => some x49
  | 50 => some x50
  | 51 => some x51
  | 52 => some x52
  | 53 => some x53
  | 54 => some x54
  | 55 => some x55
  | 56 => some x56
  | 59 => some x59
  | 60 => some x60
  | 61 => some x61
  | 62 => some x62
  | 65 => some x65
  | 73 => some x73
  | 75 => some x75
  | 76 => some x76
  | 77 => some x77
  | 78 => some x78
  | _ => none
theorem tabA_is : ∀ f d, tabA f = some d → FnIs Tryz.prog f d := by
  intro f d h
  unfold tabA at h
  split at h
  · cases h; exact is4
  · cases h; exact is7
  · cases h; exact is8
  · cases h; exact is9
  · cases h; exact is10
  · cases h; exact is11
  · cases h; exact is12
  · cases h; exact is13
  · cases h; exact is14
  · cases h; exact is16
  · cases h; exact is17
  · cases h; exact is18
  · cases h; exact is20
  · cases h; exact is21
  · cases h; exact is22
  · cases h; exact is23
  · cases h; exact is24
  · cases h; exact is25
  · cases h; exact is26
  · cases h; exact is27
  · cases h; exact is28
  · cases h; exact is35
  · cases h; exact is36
  · cases h; exact is40
  · cases h; exact is41
  · cases h; exact is42
  · cases h; exact is43
  · cases h; exact is44
  · cases h; exact is49
  · cases h; exact is50
  · cases h; exact is51
  · cases h; exact is52
  · cases h; exact is53
  · cases h; exact is54
  · cases h; exact is55
  · cases h; exact is56
  · cases h; exact is59
  · cases h; exact is60
  · cases h; exact is61
  · cases h; exact is62
  · cases h; exact is65
  · cases h; exact is73
  · cases h; exact is75
  · cases h; exact is76
  · cases h; exact is77
  · cases h; exact is78
  · cases h

end Go.Proofs.YtglefgcnafoafaaGreatDoor.X
