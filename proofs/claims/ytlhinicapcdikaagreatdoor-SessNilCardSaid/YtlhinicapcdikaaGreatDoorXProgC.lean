/-
  Own work, printed by a program of ours (mkprog.py): the functions of this seat as code of the abstract run, and that each is the model's.
-/
import Derived.Test.YtlhinicapcdikaaGreatDoorXLaw
import Derived.Test.YtlhinicapcdikaaGreatDoorChecked
set_option maxRecDepth 100000
namespace Go.Proofs.YtlhinicapcdikaaGreatDoor.X
open Go

/-- cloisonne/room.open -/
def x235 : XDecl := .code ⟨2, 
 (.seq (.ops [⟨(some 2), none, .box (.t 0)⟩,
   ⟨(some 4), none, .move (.c (.pointer none))⟩,
   ⟨(some 5), none, .move (.c (.int .i64 0))⟩] (some [1, 2]))
 (.seq (.seq (.ops [⟨(some 8), none, .load true 4 (.t 2)⟩,
   ⟨(some 9), none, .call (.c (.func (.func 149) #[] #[])) [(.t 8)]⟩,
   ⟨(some 10), none, .un .not (.t 9)⟩,
   ⟨(some 11), none, .move (.t 10)⟩,
   ⟨(some 12), (some (11, false)), .move (.t 1)⟩,
   ⟨(some 13), (some (11, false)), .fieldAddr 3 (.t 2)⟩,
   ⟨(some 14), (some (11, false)), .load false 1 (.t 13)⟩,
   ⟨(some 15), (some (11, false)), .call (.c (.func (.func 220) #[] #[])) [(.t 12), (.c (.int .i64 0)), (.t 14)]⟩,
   ⟨(some 16), (some (11, false)), .un .not (.t 15)⟩,
   ⟨(some 17), none, .pick (.t 11) (.c (.bool true)) (.t 16)⟩] (some [1, 2, 17]))
 (.cond (.t 17)
  (.seq (.ops [⟨(some 4), none, .move (.c (.pointer none))⟩,
    ⟨(some 5), none, .move (.c (.int .i64 1))⟩] (some [4, 5]))
  .ret)
  .skip))
 (.seq (.ops [⟨(some 19), none, .fieldAddr 1 (.t 2)⟩,
   ⟨(some 20), none, .load false 1 (.t 19)⟩,
   ⟨(some 21), none, .move (.t 1)⟩,
   ⟨(some 22), none, .call (.c (.func (.func 332) #[] #[])) [(.t 20), (.t 21)]⟩,
   ⟨(some 18), none, .move (.t 22)⟩,
   ⟨(some 23), none, .extract (.t 18) 0⟩,
   ⟨(some 24), none, .extract (.t 18) 1⟩,
   ⟨(some 6), none, .move (.t 23)⟩,
   ⟨(some 7), none, .move (.t 24)⟩] (some [2, 6, 7]))
 (.seq (.seq (.ops [⟨(some 25), none, .move (.t 7)⟩,
   ⟨(some 26), none, .bin .neq 34 (.t 25) (.c (.int .i64 0))⟩] (some [2, 6, 7, 26]))
 (.cond (.t 26)
  (.seq (.ops [⟨(some 27), none, .move (.t 7)⟩,
    ⟨(some 4), none, .move (.c (.pointer none))⟩,
    ⟨(some 5), none, .move (.t 27)⟩] (some [4, 5]))
  .ret)
  .skip))
 (.seq (.ops [⟨(some 28), none, .fieldAddr 0 (.t 2)⟩,
   ⟨(some 29), none, .load false 1 (.t 28)⟩,
   ⟨(some 30), none, .call (.c (.func (.func 54) #[] #[])) [(.t 29)]⟩,
   ⟨(some 31), none, .fieldAddr 0 (.t 2)⟩,
   ⟨none, none, .store 1 (.t 31) (.t 30)⟩] (some [2, 6]))
 (.seq (.opsd [(0, 0, ⟨(some 32), none, .load true 4 (.t 2)⟩),
   (1, 0, ⟨(some 33), none, .move (.t 6)⟩),
   (2, 0, ⟨(some 34), none, .call (.c (.func (.func 333) #[] #[])) []⟩),
   (3, 7, ⟨(some 35), none, .build [(.slice none 0 0), (.int .i64 0), (.int .i64 0), (.int .i64 0), (.pointer none), (.pointer none), (.slice none 0 0), (.slice none 0 0), (.int .i64 0), (.int .i64 0), (.int .i64 0)] [(0, 4), (4, 1), (5, 1), (6, 1), (7, 1), (8, 1), (9, 1), (10, 1)] [(0, (.t 32)), (1, (.t 33)), (2, (.t 34))]⟩),
   (4, 15, ⟨(some 36), none, .box (.t 35)⟩),
   (5, 31, ⟨(some 4), none, .move (.t 36)⟩),
   (6, 63, ⟨(some 5), none, .move (.c (.int .i64 0))⟩)] (some [4, 5]))
 .ret)))))), [.tmp 4, .tmp 5]⟩

theorem is235 : FnIs Tryz.prog 235 x235 := ⟨Tryz.f235, _, Tryz.func235, by kernel_rfl, rfl, by kernel_rfl, by decide, by kernel_rfl⟩

/-- cloisonne/record.must -/
def x236 : XDecl := .code ⟨1, 
 (.seq (.ops [⟨(some 2), none, .move (.t 0)⟩,
   ⟨(some 3), none, .un .not (.t 2)⟩] (some [3]))
 (.cond (.t 3)
  (.ops [⟨(some 4), none, .build [] [] []⟩,
    ⟨(some 5), none, .makeIface 455 (.t 4)⟩,
    ⟨none, none, .fail⟩] (some []))
  .skip)), []⟩

theorem is236 : FnIs Tryz.prog 236 x236 := ⟨Tryz.f236, _, Tryz.func236, by kernel_rfl, rfl, by kernel_rfl, by decide, by kernel_rfl⟩

/-- cloisonne/record.based -/
def x237 : XDecl := .code ⟨2, 
 (.seq (.ops [⟨(some 4), none, .move (.c (.bool false))⟩] (some [0, 1]))
 (.seq (.seq (.ops [⟨(some 7), none, .move (.t 1)⟩,
   ⟨(some 8), none, .len (.t 7)⟩,
   ⟨(some 9), none, .move (.c (.int .i64 0))⟩] (some [0, 1, 7, 8, 9]))
 (.block 0
  (.loop
   (.seq (.ops [⟨(some 10), none, .bin .lss 3 (.t 9) (.t 8)⟩] (some [0, 1, 7, 8, 9, 10]))
   (.seq (.cond (.t 10)
    .skip
    (.exit 0))
   (.seq (.block 1
    (.seq (.ops [⟨(some 11), none, .move (.t 9)⟩,
      ⟨(some 12), none, .indexAddr 5 (.t 7) (.t 9)⟩,
      ⟨(some 13), none, .load true 5 (.t 12)⟩,
      ⟨(some 6), none, .alloc [(.string .empty), (.int .i64 0), (.bool false), (.string .empty), (.int .u64 0)]⟩,
      ⟨(some 5), none, .move (.t 11)⟩,
      ⟨none, none, .store 5 (.t 6) (.t 13)⟩] (some [0, 1, 5, 6, 7, 8, 9]))
    (.seq (.opsd [(0, 0, ⟨(some 14), none, .fieldAddr 0 (.t 6)⟩),
      (1, 1, ⟨(some 15), none, .load false 1 (.t 14)⟩),
      (2, 3, ⟨(some 16), none, .bin .eql 9 (.t 15) (.c (.string .empty))⟩),
      (3, 7, ⟨(some 17), none, .move (.t 16)⟩),
      (4, 15, ⟨(some 18), (some (17, false)), .fieldAddr 0 (.t 6)⟩),
      (5, 31, ⟨(some 19), (some (17, false)), .load false 1 (.t 18)⟩),
      (6, 63, ⟨(some 20), (some (17, false)), .calcB .len [9] 3 [(.t 19)]⟩),
      (7, 127, ⟨(some 21), (some (17, false)), .bin .gtr 3 (.t 20) (.c (.int .i64 32))⟩),
      (8, 255, ⟨(some 22), none, .pick (.t 17) (.c (.bool true)) (.t 21)⟩),
      (9, 511, ⟨(some 23), none, .move (.t 22)⟩),
      (10, 1023, ⟨(some 24), (some (23, false)), .fieldAddr 1 (.t 6)⟩),
      (11, 2047, ⟨(some 25), (some (23, false)), .load false 1 (.t 24)⟩),
      (12, 4095, ⟨(some 26), (some (23, false)), .bin .lss 3 (.t 25) (.c (.int .i64 1))⟩),
      (13, 8191, ⟨(some 27), none, .pick (.t 23) (.c (.bool true)) (.t 26)⟩),
      (14, 16383, ⟨(some 28), none, .move (.t 27)⟩),
      (15, 32767, ⟨(some 29), (some (28, false)), .fieldAddr 1 (.t 6)⟩),
      (16, 65535, ⟨(some 30), (some (28, false)), .load false 1 (.t 29)⟩),
      (17, 32767, ⟨(some 31), (some (28, false)), .move (.t 0)⟩),
      (18, 262143, ⟨(some 32), (some (28, false)), .bin .gtr 3 (.t 30) (.t 31)⟩),
      (19, 524287, ⟨(some 33), none, .pick (.t 28) (.c (.bool true)) (.t 32)⟩),
      (20, 1048575, ⟨(some 34), none, .move (.t 33)⟩),
      (21, 2097151, ⟨(some 35), (some (34, false)), .fieldAddr 2 (.t 6)⟩),
      (22, 4194303, ⟨(some 36), (some (34, false)), .load true 3 (.t 35)⟩),
      (23, 8388607, ⟨(some 37), (some (34, false)), .call (.c (.func (.func 143) #[] #[])) [(.t 36)]⟩),
      (24, 16777215, ⟨(some 38), (some (34, false)), .un .not (.t 37)⟩),
      (25, 33554431, ⟨(some 39), none, .pick (.t 34) (.c (.bool true)) (.t 38)⟩),
      (26, 67108863, ⟨(some 40), none, .move (.t 39)⟩),
      (27, 134217727, ⟨(some 41), (some (40, false)), .move (.t 5)⟩),
      (28, 268435455, ⟨(some 42), (some (40, false)), .bin .gtr 3 (.t 41) (.c (.int .i64 0))⟩),
      (29, 536870911, ⟨(some 43), (some (40, false)), .move (.t 42)⟩),
      (30, 1073741823, ⟨(some 44), (some (43, true)), .move (.t 1)⟩),
      (31, 1073741823, ⟨(some 45), (some (43, true)), .move (.t 5)⟩),
      (32, 3221225471, ⟨(some 46), (some (43, true)), .bin .sub 3 (.t 45) (.c (.int .i64 1))⟩),
      (33, 8589934591, ⟨(some 47), (some (43, true)), .indexAddr 5 (.t 44) (.t 46)⟩),
      (34, 17179869183, ⟨(some 48), (some (43, true)), .fieldAddr 0 (.t 47)⟩),
      (35, 34359738367, ⟨(some 49), (some (43, true)), .load false 1 (.t 48)⟩),
      (36, 1073741823, ⟨(some 50), (some (43, true)), .fieldAddr 0 (.t 6)⟩),
      (37, 69793218559, ⟨(some 51), (some (43, true)), .load false 1 (.t 50)⟩),
      (38, 274877906943, ⟨(some 52), (some (43, true)), .bin .geq 9 (.t 49) (.t 51)⟩),
      (39, 549755813887, ⟨(some 53), (some (40, false)), .pick (.t 43) (.t 52) (.c (.bool false))⟩),
      (40, 1099511627775, ⟨(some 54), none, .pick (.t 40) (.c (.bool true)) (.t 53)⟩)] (some [0, 1, 7, 8, 9, 54]))
    (.cond (.t 54)
     (.seq (.ops [⟨(some 4), none, .move (.c (.bool false))⟩] (some [4]))
     .ret)
     .skip))))
   (.ops [⟨(some 55), none, .bin .add 3 (.t 9) (.c (.int .i64 1))⟩,
     ⟨(some 9), none, .move (.t 55)⟩] (some [0, 1, 7, 8, 9]))))))))
 (.seq (.ops [⟨(some 56), none, .move (.t 0)⟩,
   ⟨(some 57), none, .bin .geq 3 (.t 56) (.c (.int .i64 0))⟩,
   ⟨(some 58), none, .move (.t 57)⟩,
   ⟨(some 59), (some (58, true)), .move (.t 0)⟩,
   ⟨(some 60), (some (58, true)), .bin .leq 3 (.t 59) (.c (.int .i64 1073741824))⟩,
   ⟨(some 61), none, .pick (.t 58) (.t 60) (.c (.bool false))⟩,
   ⟨(some 4), none, .move (.t 61)⟩] (some [4]))
 .ret))), [.tmp 4]⟩

theorem is237 : FnIs Tryz.prog 237 x237 := ⟨Tryz.f237, _, Tryz.func237, by kernel_rfl, rfl, by kernel_rfl, by decide, by kernel_rfl⟩

/-- cloisonne/record.bytes -/
def x238 : XDecl := .code ⟨2, 
 (.seq (.ops [⟨(some 2), none, .box (.t 0)⟩,
   ⟨(some 4), none, .move (.c (.string .empty))⟩] (some [1, 2]))
 (.seq (.seq (.ops [⟨(some 7), none, .move (.t 1)⟩] (some [2, 7]))
 (.cond (.t 7)
  (.seq (.ops [⟨(some 4), none, .move (.c (.string .empty))⟩] (some [4]))
  .ret)
  .skip))
 (.seq (.ops [⟨(some 9), none, .load true 3 (.t 2)⟩,
   ⟨(some 10), none, .call (.c (.func (.func 280) #[] #[])) [(.t 9)]⟩,
   ⟨(some 8), none, .move (.t 10)⟩,
   ⟨(some 11), none, .extract (.t 8) 0⟩,
   ⟨(some 12), none, .extract (.t 8) 1⟩,
   ⟨(some 5), none, .move (.t 11)⟩,
   ⟨(some 6), none, .move (.t 12)⟩] (some [5, 6]))
 (.seq (.ops [⟨(some 13), none, .move (.t 6)⟩,
   ⟨(some 14), none, .bin .eql 34 (.t 13) (.c (.int .i64 0))⟩,
   ⟨(some 15), none, .call (.c (.func (.func 236) #[] #[])) [(.t 14)]⟩] (some [5]))
 (.seq (.ops [⟨(some 16), none, .move (.t 5)⟩,
   ⟨(some 4), none, .move (.t 16)⟩] (some [4]))
 .ret))))), [.tmp 4]⟩

theorem is238 : FnIs Tryz.prog 238 x238 := ⟨Tryz.f238, _, Tryz.func238, by kernel_rfl, rfl, by kernel_rfl, by decide, by kernel_rfl⟩

/-- (*cloisonne/room.Room).Seq -/
def x242 : XDecl := .code ⟨1, 
 (.seq (.ops [⟨(some 2), none, .move (.c (.int .i64 0))⟩] (some [0]))
 (.seq (.seq (.ops [⟨(some 3), none, .move (.t 0)⟩,
   ⟨(some 4), none, .isNil .ptr false (.t 3)⟩] (some [0, 4]))
 (.cond (.t 4)
  (.seq (.ops [⟨(some 2), none, .move (.c (.int .i64 0))⟩] (some [2]))
  .ret)
  .skip))
 (.seq (.ops [⟨(some 5), none, .move (.t 0)⟩,
   ⟨(some 6), none, .nilCheck (.t 5)⟩,
   ⟨(some 7), none, .fieldAddr 4 (.t 6)⟩,
   ⟨(some 8), none, .load false 1 (.t 7)⟩,
   ⟨(some 9), none, .call (.c (.func (.func 338) #[] #[])) [(.t 8)]⟩,
   ⟨(some 2), none, .move (.t 9)⟩] (some [2]))
 .ret))), [.tmp 2]⟩

theorem is242 : FnIs Tryz.prog 242 x242 := ⟨Tryz.f242, _, Tryz.func242, by kernel_rfl, rfl, by kernel_rfl, by decide, by kernel_rfl⟩

/-- (*cloisonne/room.Room).Commit -/
def x243 : XDecl := .code ⟨3, 
 (.seq (.ops [⟨(some 6), none, .move (.c (.int .i64 0))⟩,
   ⟨(some 7), none, .move (.c (.int .i64 0))⟩] (some [0, 1, 2]))
 (.seq (.block 0
  (.seq (.ops [⟨(some 15), none, .move (.t 0)⟩,
    ⟨(some 16), none, .isNil .ptr false (.t 15)⟩,
    ⟨(some 14), none, .move (.t 16)⟩] (some [0, 1, 2, 14]))
  (.cond (.t 14)
   (.seq (.ops [⟨(some 6), none, .move (.c (.int .i64 0))⟩,
     ⟨(some 7), none, .move (.c (.int .i64 2))⟩] (some [6, 7]))
   .ret)
   (.seq (.ops [⟨(some 18), none, .move (.t 1)⟩,
     ⟨(some 19), none, .call (.c (.func (.func 339) #[] #[])) [(.t 18)]⟩,
     ⟨(some 20), none, .un .not (.t 19)⟩,
     ⟨(some 17), none, .move (.t 20)⟩] (some [0, 1, 2, 17]))
   (.cond (.t 17)
    (.seq (.ops [⟨(some 6), none, .move (.c (.int .i64 0))⟩,
      ⟨(some 7), none, .move (.c (.int .i64 1))⟩] (some [6, 7]))
    .ret)
    .skip)))))
 (.seq (.seq (.ops [⟨(some 21), none, .move (.t 0)⟩,
   ⟨(some 22), none, .move (.t 1)⟩,
   ⟨(some 23), none, .call (.c (.func (.func 340) #[] #[])) [(.t 21), (.t 22)]⟩,
   ⟨(some 8), none, .move (.t 23)⟩] (some [0, 1, 2, 8]))
 (.seq (.ops [⟨(some 24), none, .move (.t 8)⟩,
   ⟨(some 25), none, .bin .neq 34 (.t 24) (.c (.int .i64 0))⟩] (some [0, 1, 2, 8, 25]))
 (.cond (.t 25)
  (.seq (.ops [⟨(some 26), none, .move (.t 8)⟩,
    ⟨(some 6), none, .move (.c (.int .i64 0))⟩,
    ⟨(some 7), none, .move (.t 26)⟩] (some [6, 7]))
  .ret)
  .skip)))
 (.seq (.ops [⟨(some 28), none, .move (.t 0)⟩,
   ⟨(some 29), none, .nilCheck (.t 28)⟩,
   ⟨(some 30), none, .fieldAddr 4 (.t 29)⟩,
   ⟨(some 31), none, .load false 1 (.t 30)⟩,
   ⟨(some 32), none, .move (.t 2)⟩,
   ⟨(some 33), none, .call (.c (.func (.func 341) #[] #[])) [(.t 31), (.t 32)]⟩,
   ⟨(some 27), none, .move (.t 33)⟩,
   ⟨(some 34), none, .extract (.t 27) 0⟩,
   ⟨(some 35), none, .extract (.t 27) 1⟩,
   ⟨(some 9), none, .move (.t 34)⟩,
   ⟨(some 10), none, .move (.t 35)⟩] (some [0, 1, 9, 10]))
 (.seq (.seq (.ops [⟨(some 36), none, .move (.t 10)⟩,
   ⟨(some 37), none, .bin .neq 34 (.t 36) (.c (.int .i64 0))⟩] (some [0, 1, 9, 10, 37]))
 (.cond (.t 37)
  (.seq (.ops [⟨(some 38), none, .move (.t 10)⟩,
    ⟨(some 6), none, .move (.c (.int .i64 0))⟩,
    ⟨(some 7), none, .move (.t 38)⟩] (some [6, 7]))
  .ret)
  .skip))
 (.seq (.seq (.ops [⟨(some 39), none, .move (.t 1)⟩,
   ⟨(some 40), none, .len (.t 39)⟩,
   ⟨(some 41), none, .move (.c (.int .i64 0))⟩] (some [0, 9, 39, 40, 41]))
 (.block 1
  (.loop
   (.seq (.ops [⟨(some 42), none, .bin .lss 3 (.t 41) (.t 40)⟩] (some [0, 9, 39, 40, 41, 42]))
   (.seq (.cond (.t 42)
    .skip
    (.exit 1))
   (.seq (.block 2
    (.seq (.ops [⟨(some 43), none, .indexAddr 5 (.t 39) (.t 41)⟩,
      ⟨(some 44), none, .load true 5 (.t 43)⟩,
      ⟨(some 12), none, .alloc [(.string .empty), (.bool false), (.bool false), (.string .empty), (.int .u64 0)]⟩,
      ⟨none, none, .store 5 (.t 12) (.t 44)⟩] (some [0, 9, 12, 39, 40, 41]))
    (.seq (.ops [⟨(some 45), none, .move (.t 0)⟩,
      ⟨(some 46), none, .fieldAddr 0 (.t 12)⟩,
      ⟨(some 47), none, .load false 1 (.t 46)⟩,
      ⟨(some 48), none, .move (.t 9)⟩,
      ⟨(some 49), none, .fieldAddr 1 (.t 12)⟩,
      ⟨(some 50), none, .load false 1 (.t 49)⟩,
      ⟨(some 51), none, .fieldAddr 2 (.t 12)⟩,
      ⟨(some 52), none, .load true 3 (.t 51)⟩,
      ⟨(some 53), none, .build [(.int .i64 0), (.bool false), (.bool false), (.string .empty), (.int .u64 0)] [(0, 1), (1, 1), (2, 3)] [(0, (.t 48)), (1, (.t 50)), (2, (.t 52))]⟩,
      ⟨(some 54), none, .call (.c (.func (.func 336) #[] #[])) [(.t 45), (.t 47), (.t 53)]⟩,
      ⟨(some 13), none, .move (.t 54)⟩] (some [0, 9, 13, 39, 40, 41]))
    (.seq (.ops [⟨(some 55), none, .move (.t 13)⟩,
      ⟨(some 56), none, .bin .neq 34 (.t 55) (.c (.int .i64 0))⟩] (some [0, 9, 13, 39, 40, 41, 56]))
    (.cond (.t 56)
     (.seq (.ops [⟨(some 57), none, .move (.t 13)⟩,
       ⟨(some 6), none, .move (.c (.int .i64 0))⟩,
       ⟨(some 7), none, .move (.t 57)⟩] (some [6, 7]))
     .ret)
     .skip)))))
   (.ops [⟨(some 58), none, .bin .add 3 (.t 41) (.c (.int .i64 1))⟩,
     ⟨(some 41), none, .move (.t 58)⟩] (some [0, 9, 39, 40, 41]))))))))
 (.seq (.ops [⟨(some 59), none, .move (.t 9)⟩,
   ⟨(some 6), none, .move (.t 59)⟩,
   ⟨(some 7), none, .move (.c (.int .i64 0))⟩] (some [6, 7]))
 .ret))))))), [.tmp 6, .tmp 7]⟩

theorem is243 : FnIs Tryz.prog 243 x243 := ⟨Tryz.f243, _, Tryz.func243, by kernel_rfl, rfl, by kernel_rfl, by decide, by kernel_rfl⟩

/-- (*cloisonne/vault.Vault).Table -/
def x245 : XDecl := .code ⟨1, 
 (.seq (.ops [⟨(some 2), none, .move (.c (.pointer none))⟩] (some [0]))
 (.seq (.seq (.ops [⟨(some 3), none, .move (.t 0)⟩,
   ⟨(some 4), none, .isNil .ptr false (.t 3)⟩] (some [0, 4]))
 (.cond (.t 4)
  (.seq (.ops [⟨(some 2), none, .move (.c (.pointer none))⟩] (some [2]))
  .ret)
  .skip))
 (.seq (.ops [⟨(some 5), none, .move (.t 0)⟩,
   ⟨(some 6), none, .nilCheck (.t 5)⟩,
   ⟨(some 7), none, .fieldAddr 5 (.t 6)⟩,
   ⟨(some 8), none, .load false 1 (.t 7)⟩,
   ⟨(some 2), none, .move (.t 8)⟩] (some [2]))
 .ret))), [.tmp 2]⟩

theorem is245 : FnIs Tryz.prog 245 x245 := ⟨Tryz.f245, _, Tryz.func245, by kernel_rfl, rfl, by kernel_rfl, by decide, by kernel_rfl⟩

/-- (*cloisonne/sess.Session).clear -/
def x246 : XDecl := .code ⟨2, 
 (.seq (.ops [⟨(some 4), none, .move (.c (.bool false))⟩] (some [0, 1]))
 (.seq (.opsd [(0, 0, ⟨(some 5), none, .move (.t 0)⟩),
   (1, 1, ⟨(some 6), none, .nilCheck (.t 5)⟩),
   (2, 3, ⟨(some 7), none, .fieldAddr 0 (.t 6)⟩),
   (3, 7, ⟨(some 8), none, .load false 1 (.t 7)⟩),
   (5, 0, ⟨(some 10), none, .move (.t 0)⟩),
   (6, 32, ⟨(some 11), none, .nilCheck (.t 10)⟩),
   (7, 96, ⟨(some 12), none, .fieldAddr 4 (.t 11)⟩),
   (8, 224, ⟨(some 13), none, .load false 1 (.t 12)⟩),
   (9, 0, ⟨(some 14), none, .move (.t 0)⟩),
   (10, 512, ⟨(some 15), none, .nilCheck (.t 14)⟩),
   (11, 1536, ⟨(some 16), none, .fieldAddr 5 (.t 15)⟩),
   (12, 3584, ⟨(some 17), none, .load false 1 (.t 16)⟩),
   (13, 0, ⟨(some 18), none, .move (.t 1)⟩),
   (4, 15, ⟨(some 9), none, .call (.c (.func (.func 245) #[] #[])) [(.t 8)]⟩),
   (14, 16383, ⟨(some 19), none, .call (.c (.func (.func 343) #[] #[])) [(.t 9), (.t 13), (.t 17), (.t 18)]⟩),
   (15, 32767, ⟨(some 4), none, .move (.t 19)⟩)] (some [4]))
 .ret)), [.tmp 4]⟩

theorem is246 : FnIs Tryz.prog 246 x246 := ⟨Tryz.f246, _, Tryz.func246, by kernel_rfl, rfl, by kernel_rfl, by decide, by kernel_rfl⟩

/-- (*cloisonne/sess.Session).frozen -/
def x247 : XDecl := .code ⟨1, 
 (.seq (.ops [⟨(some 2), none, .move (.c (.bool false))⟩] (some [0]))
 (.seq (.ops [⟨(some 3), none, .move (.t 0)⟩,
   ⟨(some 4), none, .nilCheck (.t 3)⟩,
   ⟨(some 5), none, .fieldAddr 6 (.t 4)⟩,
   ⟨(some 6), none, .load false 1 (.t 5)⟩,
   ⟨(some 7), none, .isNil .ptr true (.t 6)⟩,
   ⟨(some 8), none, .move (.t 7)⟩,
   ⟨(some 9), (some (8, true)), .move (.t 0)⟩,
   ⟨(some 10), (some (8, true)), .nilCheck (.t 9)⟩,
   ⟨(some 11), (some (8, true)), .fieldAddr 6 (.t 10)⟩,
   ⟨(some 12), (some (8, true)), .load false 1 (.t 11)⟩,
   ⟨(some 13), (some (8, true)), .nilCheck (.t 12)⟩,
   ⟨(some 14), (some (8, true)), .fieldAddr 2 (.t 13)⟩,
   ⟨(some 15), (some (8, true)), .load false 1 (.t 14)⟩,
   ⟨(some 16), (some (8, true)), .bin .neq 3 (.t 15) (.c (.int .i64 (-1)))⟩,
   ⟨(some 17), none, .pick (.t 8) (.t 16) (.c (.bool false))⟩,
   ⟨(some 2), none, .move (.t 17)⟩] (some [2]))
 .ret)), [.tmp 2]⟩

theorem is247 : FnIs Tryz.prog 247 x247 := ⟨Tryz.f247, _, Tryz.func247, by kernel_rfl, rfl, by kernel_rfl, by decide, by kernel_rfl⟩

/-- cloisonne/label.In -/
def x248 : XDecl := .code ⟨2, 
 (.seq (.ops [⟨(some 3), none, .box (.t 1)⟩,
   ⟨(some 4), none, .move (.c (.bool false))⟩] (some [0, 3]))
 (.seq (.ops [⟨(some 5), none, .move (.t 0)⟩,
   ⟨(some 6), none, .makeFunc (.func 345) [] [(.t 3)]⟩,
   ⟨(some 7), none, .call (.c (.func (.func 344) #[] #[])) [(.t 5), (.t 6)]⟩,
   ⟨(some 8), none, .un .not (.t 7)⟩,
   ⟨(some 4), none, .move (.t 8)⟩] (some [4]))
 .ret)), [.tmp 4]⟩

theorem is248 : FnIs Tryz.prog 248 x248 := ⟨Tryz.f248, _, Tryz.func248, by kernel_rfl, rfl, by kernel_rfl, by decide, by kernel_rfl⟩

/-- (*cloisonne/wset.Set).Len -/
def x253 : XDecl := .code ⟨1, 
 (.seq (.ops [⟨(some 2), none, .move (.c (.int .i64 0))⟩] (some [0]))
 (.seq (.seq (.ops [⟨(some 3), none, .move (.t 0)⟩,
   ⟨(some 4), none, .isNil .ptr false (.t 3)⟩] (some [0, 4]))
 (.cond (.t 4)
  (.seq (.ops [⟨(some 2), none, .move (.c (.int .i64 0))⟩] (some [2]))
  .ret)
  .skip))
 (.seq (.ops [⟨(some 5), none, .move (.t 0)⟩,
   ⟨(some 6), none, .nilCheck (.t 5)⟩,
   ⟨(some 7), none, .fieldAddr 0 (.t 6)⟩,
   ⟨(some 8), none, .load false 1 (.t 7)⟩,
   ⟨(some 9), none, .len (.t 8)⟩,
   ⟨(some 2), none, .move (.t 9)⟩] (some [2]))
 .ret))), [.tmp 2]⟩

theorem is253 : FnIs Tryz.prog 253 x253 := ⟨Tryz.f253, _, Tryz.func253, by kernel_rfl, rfl, by kernel_rfl, by decide, by kernel_rfl⟩

/-- cloisonne/job.Commit -/
def x254 : XDecl := .code ⟨5, 
 (.seq (.ops [⟨(some 10), none, .move (.c (.pointer none))⟩,
   ⟨(some 11), none, .move (.c (.int .i64 0))⟩] (some [0, 1, 2, 3, 4]))
 (.seq (.block 0
  (.seq (.ops [⟨(some 13), none, .move (.t 0)⟩,
    ⟨(some 14), none, .isNil .ptr false (.t 13)⟩,
    ⟨(some 12), none, .move (.t 14)⟩] (some [0, 1, 2, 3, 4, 12]))
  (.cond (.t 12)
   (.seq (.ops [⟨(some 10), none, .move (.c (.pointer none))⟩,
     ⟨(some 11), none, .move (.c (.int .i64 2))⟩] (some [10, 11]))
   .ret)
   (.seq (.ops [⟨(some 16), none, .move (.t 0)⟩,
     ⟨(some 17), none, .move (.t 2)⟩,
     ⟨(some 18), none, .call (.c (.func (.func 65) #[] #[])) [(.t 16), (.t 17)]⟩,
     ⟨(some 19), none, .isNil .ptr false (.t 18)⟩,
     ⟨(some 20), none, .move (.t 19)⟩,
     ⟨(some 21), (some (20, false)), .move (.t 3)⟩,
     ⟨(some 22), (some (20, false)), .call (.c (.func (.func 339) #[] #[])) [(.t 21)]⟩,
     ⟨(some 23), (some (20, false)), .un .not (.t 22)⟩,
     ⟨(some 24), none, .pick (.t 20) (.c (.bool true)) (.t 23)⟩,
     ⟨(some 15), none, .move (.t 24)⟩] (some [0, 1, 2, 3, 4, 15]))
   (.cond (.t 15)
    (.seq (.ops [⟨(some 10), none, .move (.c (.pointer none))⟩,
      ⟨(some 11), none, .move (.c (.int .i64 1))⟩] (some [10, 11]))
    .ret)
    .skip)))))
 (.seq (.ops [⟨(some 25), none, .move (.t 0)⟩,
   ⟨(some 26), none, .move (.t 1)⟩,
   ⟨(some 27), none, .move (.t 2)⟩,
   ⟨(some 28), none, .move (.t 2)⟩,
   ⟨(some 29), none, .move (.t 3)⟩,
   ⟨(some 30), none, .call (.c (.func (.func 146) #[] #[])) [(.t 29)]⟩,
   ⟨(some 31), none, .move (.t 4)⟩,
   ⟨(some 32), none, .build [(.int .i64 0), (.slice none 0 0), (.int .u64 0)] [(0, 1), (1, 1), (2, 1)] [(0, (.t 28)), (1, (.t 30)), (2, (.t 31))]⟩,
   ⟨(some 33), none, .makeIface 483 (.t 32)⟩,
   ⟨(some 34), none, .build [(.pointer none), (.int .i64 0), (.int .i64 0), .nilIface, (.int .i64 0), (.pointer none), (.int .u64 0), (.int .i64 0)] [(0, 1), (1, 1), (2, 1), (3, 1), (4, 1), (5, 1), (6, 1), (7, 1)] [(0, (.t 25)), (1, (.t 26)), (2, (.t 27)), (3, (.t 33))]⟩,
   ⟨(some 35), none, .box (.t 34)⟩,
   ⟨(some 10), none, .move (.t 35)⟩,
   ⟨(some 11), none, .move (.c (.int .i64 0))⟩] (some [10, 11]))
 .ret))), [.tmp 10, .tmp 11]⟩

theorem is254 : FnIs Tryz.prog 254 x254 := ⟨Tryz.f254, _, Tryz.func254, by kernel_rfl, rfl, by kernel_rfl, by decide, by kernel_rfl⟩

/-- (*cloisonne/wset.Set).All -/
def x255 : XDecl := .code ⟨1, 
 (.seq (.ops [⟨(some 2), none, .move (.c (.slice none 0 0))⟩] (some [0]))
 (.seq (.seq (.ops [⟨(some 3), none, .move (.t 0)⟩,
   ⟨(some 4), none, .isNil .ptr false (.t 3)⟩] (some [0, 4]))
 (.cond (.t 4)
  (.seq (.ops [⟨(some 2), none, .move (.c (.slice none 0 0))⟩] (some [2]))
  .ret)
  .skip))
 (.seq (.ops [⟨(some 5), none, .move (.t 0)⟩,
   ⟨(some 6), none, .nilCheck (.t 5)⟩,
   ⟨(some 7), none, .fieldAddr 0 (.t 6)⟩,
   ⟨(some 8), none, .load false 1 (.t 7)⟩,
   ⟨(some 9), none, .call (.c (.func (.func 146) #[] #[])) [(.t 8)]⟩,
   ⟨(some 2), none, .move (.t 9)⟩] (some [2]))
 .ret))), [.tmp 2]⟩

theorem is255 : FnIs Tryz.prog 255 x255 := ⟨Tryz.f255, _, Tryz.func255, by kernel_rfl, rfl, by kernel_rfl, by decide, by kernel_rfl⟩

/-- (*cloisonne/room.Room).AsOf -/
def x259 : XDecl := .code ⟨2, 
 (.seq (.ops [⟨(some 4), none, .move (.c (.int .i64 0))⟩,
   ⟨(some 5), none, .move (.c (.int .i64 0))⟩] (some [0, 1]))
 (.seq (.seq (.ops [⟨(some 6), none, .move (.t 0)⟩,
   ⟨(some 7), none, .isNil .ptr false (.t 6)⟩] (some [0, 1, 7]))
 (.cond (.t 7)
  (.seq (.ops [⟨(some 4), none, .move (.c (.int .i64 0))⟩,
    ⟨(some 5), none, .move (.c (.int .i64 2))⟩] (some [4, 5]))
  .ret)
  .skip))
 (.seq (.ops [⟨(some 8), none, .move (.t 0)⟩,
   ⟨(some 9), none, .nilCheck (.t 8)⟩,
   ⟨(some 10), none, .fieldAddr 4 (.t 9)⟩,
   ⟨(some 11), none, .load false 1 (.t 10)⟩,
   ⟨(some 12), none, .move (.t 1)⟩,
   ⟨(some 13), none, .call (.c (.func (.func 352) #[] #[])) [(.t 11), (.t 12)]⟩,
   ⟨(some 14), none, .extract (.t 13) 0⟩,
   ⟨(some 15), none, .extract (.t 13) 1⟩,
   ⟨(some 4), none, .move (.t 14)⟩,
   ⟨(some 5), none, .move (.t 15)⟩] (some [4, 5]))
 .ret))), [.tmp 4, .tmp 5]⟩

theorem is259 : FnIs Tryz.prog 259 x259 := ⟨Tryz.f259, _, Tryz.func259, by kernel_rfl, rfl, by kernel_rfl, by decide, by kernel_rfl⟩

/-- (*cloisonne/sess.Session).own -/
def x264 : XDecl := .code ⟨2, 
 (.seq (.ops [⟨(some 4), none, .move (.c (.int .i64 0))⟩] (some [0, 1]))
 (.seq (.ops [⟨(some 8), none, .move (.t 0)⟩,
   ⟨(some 9), none, .move (.t 1)⟩,
   ⟨(some 10), none, .call (.c (.func (.func 358) #[] #[])) [(.t 8), (.t 9)]⟩,
   ⟨(some 7), none, .move (.t 10)⟩,
   ⟨(some 11), none, .extract (.t 7) 0⟩,
   ⟨(some 12), none, .extract (.t 7) 1⟩,
   ⟨(some 5), none, .move (.t 11)⟩,
   ⟨(some 6), none, .move (.t 12)⟩] (some [0, 1, 5, 6]))
 (.seq (.block 0
  (.seq (.ops [⟨(some 14), none, .move (.t 6)⟩,
    ⟨(some 15), none, .un .not (.t 14)⟩,
    ⟨(some 13), none, .move (.t 15)⟩] (some [0, 1, 5, 13]))
  (.cond (.t 13)
   (.seq (.ops [⟨(some 4), none, .move (.c (.int .i64 1))⟩] (some [4]))
   .ret)
   (.seq (.ops [⟨(some 17), none, .move (.t 0)⟩,
     ⟨(some 18), none, .nilCheck (.t 17)⟩,
     ⟨(some 19), none, .fieldAddr 5 (.t 18)⟩,
     ⟨(some 20), none, .load false 1 (.t 19)⟩,
     ⟨(some 21), none, .move (.t 5)⟩,
     ⟨(some 22), none, .call (.c (.func (.func 248) #[] #[])) [(.t 20), (.t 21)]⟩,
     ⟨(some 23), none, .un .not (.t 22)⟩,
     ⟨(some 16), none, .move (.t 23)⟩] (some [0, 1, 5, 16]))
   (.cond (.t 16)
    (.seq (.ops [⟨(some 4), none, .move (.c (.int .i64 11))⟩] (some [4]))
    .ret)
    (.seq (.ops [⟨(some 25), none, .move (.t 0)⟩,
      ⟨(some 26), none, .move (.t 5)⟩,
      ⟨(some 27), none, .call (.c (.func (.func 246) #[] #[])) [(.t 25), (.t 26)]⟩,
      ⟨(some 28), none, .un .not (.t 27)⟩,
      ⟨(some 24), none, .move (.t 28)⟩] (some [0, 1, 5, 24]))
    (.cond (.t 24)
     (.seq (.ops [⟨(some 4), none, .move (.c (.int .i64 10))⟩] (some [4]))
     .ret)
     (.seq (.ops [⟨(some 30), none, .move (.t 0)⟩,
       ⟨(some 31), none, .call (.c (.func (.func 247) #[] #[])) [(.t 30)]⟩,
       ⟨(some 32), none, .move (.t 31)⟩,
       ⟨(some 33), (some (32, true)), .move (.t 0)⟩,
       ⟨(some 34), (some (32, true)), .nilCheck (.t 33)⟩,
       ⟨(some 35), (some (32, true)), .fieldAddr 6 (.t 34)⟩,
       ⟨(some 36), (some (32, true)), .load false 1 (.t 35)⟩,
       ⟨(some 37), (some (32, true)), .nilCheck (.t 36)⟩,
       ⟨(some 38), (some (32, true)), .fieldAddr 2 (.t 37)⟩,
       ⟨(some 39), (some (32, true)), .load false 1 (.t 38)⟩,
       ⟨(some 40), (some (32, true)), .move (.t 1)⟩,
       ⟨(some 41), (some (32, true)), .bin .neq 3 (.t 39) (.t 40)⟩,
       ⟨(some 42), none, .pick (.t 32) (.t 41) (.c (.bool false))⟩,
       ⟨(some 29), none, .move (.t 42)⟩] (some [0, 1, 5, 29]))
     (.cond (.t 29)
      (.seq (.ops [⟨(some 4), none, .move (.c (.int .i64 12))⟩] (some [4]))
      .ret)
      .skip)))))))))
 (.seq (.ops [⟨(some 43), none, .move (.t 0)⟩,
   ⟨(some 44), none, .move (.t 0)⟩,
   ⟨(some 45), none, .nilCheck (.t 44)⟩,
   ⟨(some 46), none, .fieldAddr 6 (.t 45)⟩,
   ⟨(some 47), none, .load false 1 (.t 46)⟩,
   ⟨(some 48), none, .move (.t 5)⟩,
   ⟨(some 49), none, .move (.t 1)⟩,
   ⟨(some 50), none, .nilCheck (.t 43)⟩,
   ⟨(some 51), none, .fieldAddr 5 (.t 50)⟩,
   ⟨none, none, .store 1 (.t 51) (.t 48)⟩,
   ⟨(some 52), none, .nilCheck (.t 47)⟩,
   ⟨(some 53), none, .fieldAddr 2 (.t 52)⟩,
   ⟨none, none, .store 1 (.t 53) (.t 49)⟩] (some []))
 (.seq (.ops [⟨(some 4), none, .move (.c (.int .i64 0))⟩] (some [4]))
 .ret))))), [.tmp 4]⟩

theorem is264 : FnIs Tryz.prog 264 x264 := ⟨Tryz.f264, _, Tryz.func264, by kernel_rfl, rfl, by kernel_rfl, by decide, by kernel_rfl⟩

/-- (*cloisonne/wset.Set).Put -/
def x266 : XDecl := .code ⟨3, 
 (.seq (.ops [⟨(some 5), none, .box (.t 2)⟩,
   ⟨(some 6), none, .move (.c (.int .i64 0))⟩] (some [0, 1, 5]))
 (.seq (.ops [⟨(some 7), none, .move (.t 0)⟩,
   ⟨(some 8), none, .move (.t 1)⟩,
   ⟨(some 9), none, .load true 3 (.t 5)⟩,
   ⟨(some 10), none, .build [(.string .empty), (.bool false), (.bool false), (.string .empty), (.int .u64 0)] [(0, 1), (1, 1), (2, 3)] [(0, (.t 8)), (2, (.t 9))]⟩,
   ⟨(some 11), none, .call (.c (.func (.func 361) #[] #[])) [(.t 7), (.t 10)]⟩,
   ⟨(some 6), none, .move (.t 11)⟩] (some [6]))
 .ret)), [.tmp 6]⟩

theorem is266 : FnIs Tryz.prog 266 x266 := ⟨Tryz.f266, _, Tryz.func266, by kernel_rfl, rfl, by kernel_rfl, by decide, by kernel_rfl⟩

/-- cloisonne/wire.parts -/
def x276 : XDecl := .code ⟨1, 
 (.seq (.ops [⟨(some 2), none, .move (.c (.slice none 0 0))⟩,
   ⟨(some 3), none, .move (.c (.slice none 0 0))⟩,
   ⟨(some 4), none, .move (.c (.bool false))⟩] (some [0]))
 (.seq (.ops [⟨(some 5), none, .move (.c (.slice none 0 0))⟩] (some [0, 5]))
 (.seq (.ops [⟨(some 6), none, .move (.c (.slice none 0 0))⟩] (some [0, 5, 6]))
 (.seq (.ops [⟨(some 7), none, .move (.c (.bool false))⟩] (some [0, 5, 6, 7]))
 (.seq (.seq (.ops [⟨(some 10), none, .move (.t 0)⟩,
   ⟨(some 11), none, .calcB .len [9] 3 [(.t 10)]⟩,
   ⟨(some 12), none, .move (.c (.int .i64 0))⟩] (some [0, 5, 6, 7, 11, 12]))
 (.block 0
  (.loop
   (.seq (.ops [⟨(some 13), none, .bin .lss 3 (.t 12) (.t 11)⟩] (some [0, 5, 6, 7, 11, 12, 13]))
   (.seq (.cond (.t 13)
    .skip
    (.exit 0))
   (.seq (.block 1
    (.seq (.ops [⟨(some 14), none, .move (.t 12)⟩,
      ⟨(some 8), none, .move (.t 14)⟩] (some [0, 5, 6, 7, 8, 11, 12]))
    (.seq (.ops [⟨(some 15), none, .move (.t 0)⟩,
      ⟨(some 16), none, .move (.t 8)⟩,
      ⟨(some 17), none, .index 9 (.t 15) (.t 16)⟩,
      ⟨(some 9), none, .move (.t 17)⟩] (some [0, 5, 6, 7, 9, 11, 12]))
    (.block 2
     (.seq (.ops [⟨(some 19), none, .move (.t 9)⟩,
       ⟨(some 20), none, .bin .eql 5 (.t 19) (.c (.int .u8 42))⟩,
       ⟨(some 21), none, .move (.t 20)⟩,
       ⟨(some 22), (some (21, true)), .move (.t 7)⟩,
       ⟨(some 23), (some (21, true)), .un .not (.t 22)⟩,
       ⟨(some 24), none, .pick (.t 21) (.t 23) (.c (.bool false))⟩,
       ⟨(some 18), none, .move (.t 24)⟩] (some [0, 5, 6, 7, 9, 11, 12, 18]))
     (.cond (.t 18)
      (.ops [⟨(some 7), none, .move (.c (.bool true))⟩] (some [0, 5, 6, 7, 11, 12]))
      (.seq (.ops [⟨(some 26), none, .move (.t 9)⟩,
        ⟨(some 27), none, .call (.c (.func (.func 364) #[] #[])) [(.t 26)]⟩,
        ⟨(some 25), none, .move (.t 27)⟩] (some [0, 5, 6, 7, 9, 11, 12, 25]))
      (.cond (.t 25)
       (.seq (.ops [⟨(some 28), none, .move (.t 5)⟩,
         ⟨(some 29), none, .move (.t 9)⟩,
         ⟨(some 30), none, .buildSlice [(.int .u8 0)] 1 1 [(0, (.t 29))]⟩,
         ⟨(some 31), none, .append 1 1 [(.int .u8 0)] (.t 28) (.t 30)⟩,
         ⟨(some 32), none, .move (.t 6)⟩,
         ⟨(some 33), none, .move (.t 7)⟩,
         ⟨(some 34), none, .buildSlice [(.bool false)] 1 1 [(0, (.t 33))]⟩,
         ⟨(some 35), none, .append 1 1 [(.bool false)] (.t 32) (.t 34)⟩,
         ⟨(some 5), none, .move (.t 31)⟩,
         ⟨(some 6), none, .move (.t 35)⟩] (some [0, 5, 6, 11, 12]))
       (.ops [⟨(some 7), none, .move (.c (.bool false))⟩] (some [0, 5, 6, 7, 11, 12])))
       (.seq (.ops [⟨(some 2), none, .move (.c (.slice none 0 0))⟩,
         ⟨(some 3), none, .move (.c (.slice none 0 0))⟩,
         ⟨(some 4), none, .move (.c (.bool false))⟩] (some [2, 3, 4]))
       .ret)))))))))
   (.ops [⟨(some 36), none, .bin .add 3 (.t 12) (.c (.int .i64 1))⟩,
     ⟨(some 12), none, .move (.t 36)⟩] (some [0, 5, 6, 7, 11, 12]))))))))
 (.seq (.ops [⟨(some 37), none, .move (.t 5)⟩,
   ⟨(some 38), none, .move (.t 6)⟩,
   ⟨(some 39), none, .move (.t 7)⟩,
   ⟨(some 40), none, .un .not (.t 39)⟩,
   ⟨(some 41), none, .move (.t 40)⟩,
   ⟨(some 42), (some (41, true)), .move (.t 0)⟩,
   ⟨(some 43), (some (41, true)), .calcB .len [9] 3 [(.t 42)]⟩,
   ⟨(some 44), (some (41, true)), .bin .leq 3 (.t 43) (.c (.int .i64 40))⟩,
   ⟨(some 45), none, .pick (.t 41) (.t 44) (.c (.bool false))⟩,
   ⟨(some 2), none, .move (.t 37)⟩,
   ⟨(some 3), none, .move (.t 38)⟩,
   ⟨(some 4), none, .move (.t 45)⟩] (some [2, 3, 4]))
 .ret)))))), [.tmp 2, .tmp 3, .tmp 4]⟩

theorem is276 : FnIs Tryz.prog 276 x276 := ⟨Tryz.f276, _, Tryz.func276, by kernel_rfl, rfl, by kernel_rfl, by decide, by kernel_rfl⟩

/-- cloisonne/wire.check -/
def x277 : XDecl := .code ⟨2, 
 (.seq (.ops [⟨(some 4), none, .move (.t 0)⟩,
   ⟨(some 5), none, .un .not (.t 4)⟩] (some [1, 5]))
 (.cond (.t 5)
  (.ops [⟨(some 6), none, .move (.t 1)⟩,
    ⟨(some 7), none, .makeIface 506 (.t 6)⟩,
    ⟨none, none, .fail⟩] (some []))
  .skip)), []⟩

theorem is277 : FnIs Tryz.prog 277 x277 := ⟨Tryz.f277, _, Tryz.func277, by kernel_rfl, rfl, by kernel_rfl, by decide, by kernel_rfl⟩

/-- (*cloisonne/wire.printer).one -/
def x279 : XDecl := .code ⟨3, 
 (.seq (.ops [⟨(some 5), none, .box (.t 2)⟩] (some [0, 1, 5]))
 (.seq (.ops [⟨(some 9), none, .fieldAddr 3 (.t 5)⟩,
   ⟨(some 10), none, .load false 1 (.t 9)⟩,
   ⟨(some 11), none, .len (.t 10)⟩,
   ⟨(some 12), none, .bin .eql 3 (.t 11) (.c (.int .i64 0))⟩,
   ⟨(some 13), none, .call (.c (.func (.func 277) #[] #[])) [(.t 12), (.c (.int .i64 1))]⟩] (some [0, 1, 5]))
 (.seq (.ops [⟨(some 14), none, .move (.t 1)⟩] (some [0, 5, 14]))
 (.block 0
  (.seq (.ops [⟨(some 16), none, .bin .eql 5 (.t 14) (.c (.int .u8 98))⟩,
    ⟨(some 15), none, .move (.t 16)⟩] (some [0, 5, 14, 15]))
  (.cond (.t 15)
   (.seq (.ops [⟨(some 17), none, .load true 4 (.t 5)⟩,
     ⟨(some 18), none, .call (.c (.func (.func 365) #[] #[])) [(.t 17), (.c (.bool true)), (.c (.bool false)), (.c (.bool false))]⟩,
     ⟨(some 19), none, .move (.t 18)⟩,
     ⟨(some 20), (some (19, true)), .fieldAddr 0 (.t 5)⟩,
     ⟨(some 21), (some (19, true)), .load false 1 (.t 20)⟩,
     ⟨(some 22), (some (19, true)), .bin .leq 23 (.t 21) (.c (.int .u64 255))⟩,
     ⟨(some 23), none, .pick (.t 19) (.t 22) (.c (.bool false))⟩,
     ⟨(some 24), none, .call (.c (.func (.func 277) #[] #[])) [(.t 23), (.c (.int .i64 1))]⟩] (some [0, 5]))
   (.opsd [(0, 0, ⟨(some 25), none, .move (.t 0)⟩),
     (1, 0, ⟨(some 26), none, .move (.t 0)⟩),
     (2, 2, ⟨(some 27), none, .nilCheck (.t 26)⟩),
     (3, 6, ⟨(some 28), none, .fieldAddr 0 (.t 27)⟩),
     (4, 14, ⟨(some 29), none, .load false 1 (.t 28)⟩),
     (5, 0, ⟨(some 30), none, .fieldAddr 0 (.t 5)⟩),
     (6, 32, ⟨(some 31), none, .load false 1 (.t 30)⟩),
     (7, 96, ⟨(some 32), none, .conv 23 5 (.t 31)⟩),
     (8, 224, ⟨(some 33), none, .buildSlice [(.int .u8 0)] 1 1 [(0, (.t 32))]⟩),
     (9, 510, ⟨(some 34), none, .append 1 1 [(.int .u8 0)] (.t 29) (.t 33)⟩),
     (10, 1023, ⟨(some 35), none, .nilCheck (.t 25)⟩),
     (11, 2047, ⟨(some 36), none, .fieldAddr 0 (.t 35)⟩),
     (12, 4095, ⟨none, none, .store 1 (.t 36) (.t 34)⟩)] (some [])))
   (.seq (.ops [⟨(some 38), none, .bin .eql 5 (.t 14) (.c (.int .u8 110))⟩,
     ⟨(some 37), none, .move (.t 38)⟩] (some [0, 5, 14, 37]))
   (.cond (.t 37)
    (.seq (.ops [⟨(some 39), none, .load true 4 (.t 5)⟩,
      ⟨(some 40), none, .call (.c (.func (.func 365) #[] #[])) [(.t 39), (.c (.bool true)), (.c (.bool false)), (.c (.bool false))]⟩,
      ⟨(some 41), none, .call (.c (.func (.func 277) #[] #[])) [(.t 40), (.c (.int .i64 1))]⟩] (some [0, 5]))
    (.ops [⟨(some 42), none, .move (.t 0)⟩,
      ⟨(some 43), none, .fieldAddr 0 (.t 5)⟩,
      ⟨(some 44), none, .load false 1 (.t 43)⟩,
      ⟨(some 45), none, .call (.c (.func (.func 366) #[] #[])) [(.t 42), (.t 44)]⟩] (some [])))
    (.seq (.ops [⟨(some 47), none, .bin .eql 5 (.t 14) (.c (.int .u8 116))⟩,
      ⟨(some 46), none, .move (.t 47)⟩] (some [0, 5, 14, 46]))
    (.cond (.t 46)
     (.seq (.ops [⟨(some 48), none, .load true 4 (.t 5)⟩,
       ⟨(some 49), none, .call (.c (.func (.func 365) #[] #[])) [(.t 48), (.c (.bool false)), (.c (.bool true)), (.c (.bool false))]⟩,
       ⟨(some 50), none, .move (.t 49)⟩,
       ⟨(some 51), (some (50, true)), .fieldAddr 1 (.t 5)⟩,
       ⟨(some 52), (some (50, true)), .load false 1 (.t 51)⟩,
       ⟨(some 53), (some (50, true)), .calcB .len [9] 3 [(.t 52)]⟩,
       ⟨(some 54), (some (50, true)), .bin .leq 3 (.t 53) (.c (.int .i64 200))⟩,
       ⟨(some 55), none, .pick (.t 50) (.t 54) (.c (.bool false))⟩,
       ⟨(some 56), none, .call (.c (.func (.func 277) #[] #[])) [(.t 55), (.c (.int .i64 1))]⟩] (some [0, 5]))
     (.seq (.ops [⟨(some 57), none, .move (.t 0)⟩,
       ⟨(some 58), none, .fieldAddr 1 (.t 5)⟩,
       ⟨(some 59), none, .load false 1 (.t 58)⟩,
       ⟨(some 60), none, .calcB .len [9] 3 [(.t 59)]⟩,
       ⟨(some 61), none, .conv 3 23 (.t 60)⟩,
       ⟨(some 62), none, .call (.c (.func (.func 366) #[] #[])) [(.t 57), (.t 61)]⟩] (some [0, 5]))
     (.opsd [(0, 0, ⟨(some 63), none, .move (.t 0)⟩),
       (1, 0, ⟨(some 64), none, .move (.t 0)⟩),
       (2, 2, ⟨(some 65), none, .nilCheck (.t 64)⟩),
       (3, 6, ⟨(some 66), none, .fieldAddr 0 (.t 65)⟩),
       (4, 14, ⟨(some 67), none, .load false 1 (.t 66)⟩),
       (5, 0, ⟨(some 68), none, .fieldAddr 1 (.t 5)⟩),
       (6, 32, ⟨(some 69), none, .load false 1 (.t 68)⟩),
       (7, 126, ⟨(some 70), none, .append 1 1 [(.int .u8 0)] (.t 67) (.t 69)⟩),
       (8, 255, ⟨(some 71), none, .nilCheck (.t 63)⟩),
       (9, 511, ⟨(some 72), none, .fieldAddr 0 (.t 71)⟩),
       (10, 1023, ⟨none, none, .store 1 (.t 72) (.t 70)⟩)] (some []))))
     (.seq (.ops [⟨(some 74), none, .bin .eql 5 (.t 14) (.c (.int .u8 102))⟩,
       ⟨(some 73), none, .move (.t 74)⟩] (some [0, 5, 14, 73]))
     (.cond (.t 73)
      (.seq (.ops [⟨(some 75), none, .fieldAddr 0 (.t 5)⟩,
        ⟨(some 76), none, .load false 1 (.t 75)⟩,
        ⟨(some 77), none, .call (.c (.func (.func 214) #[] #[])) [(.t 76)]⟩,
        ⟨(some 6), none, .move (.t 77)⟩] (some [0, 5, 6]))
      (.seq (.opsd [(0, 0, ⟨(some 78), none, .load true 4 (.t 5)⟩),
        (1, 1, ⟨(some 79), none, .call (.c (.func (.func 365) #[] #[])) [(.t 78), (.c (.bool true)), (.c (.bool false)), (.c (.bool false))]⟩),
        (2, 3, ⟨(some 80), none, .move (.t 79)⟩),
        (3, 7, ⟨(some 81), (some (80, true)), .move (.t 6)⟩),
        (5, 7, ⟨(some 83), (some (80, true)), .fieldAddr 0 (.t 5)⟩),
        (6, 39, ⟨(some 84), (some (80, true)), .load false 1 (.t 83)⟩),
        (4, 15, ⟨(some 82), (some (80, true)), .call (.c (.func (.func 213) #[] #[])) [(.t 81)]⟩),
        (7, 127, ⟨(some 85), (some (80, true)), .bin .eql 23 (.t 82) (.t 84)⟩),
        (8, 255, ⟨(some 86), none, .pick (.t 80) (.t 85) (.c (.bool false))⟩),
        (9, 511, ⟨(some 87), none, .call (.c (.func (.func 277) #[] #[])) [(.t 86), (.c (.int .i64 1))]⟩)] (some [0, 6]))
      (.opsd [(0, 0, ⟨(some 88), none, .move (.t 0)⟩),
        (1, 0, ⟨(some 89), none, .move (.t 0)⟩),
        (2, 2, ⟨(some 90), none, .nilCheck (.t 89)⟩),
        (3, 6, ⟨(some 91), none, .fieldAddr 0 (.t 90)⟩),
        (4, 14, ⟨(some 92), none, .load false 1 (.t 91)⟩),
        (5, 0, ⟨(some 93), none, .move (.t 6)⟩),
        (6, 32, ⟨(some 94), none, .call (.c (.func (.func 367) #[] #[])) [(.t 93)]⟩),
        (7, 126, ⟨(some 95), none, .append 1 1 [(.int .u8 0)] (.t 92) (.t 94)⟩),
        (8, 255, ⟨(some 96), none, .nilCheck (.t 88)⟩),
        (9, 511, ⟨(some 97), none, .fieldAddr 0 (.t 96)⟩),
        (10, 1023, ⟨none, none, .store 1 (.t 97) (.t 95)⟩)] (some []))))
      (.seq (.ops [⟨(some 99), none, .bin .eql 5 (.t 14) (.c (.int .u8 108))⟩,
        ⟨(some 98), none, .move (.t 99)⟩] (some [0, 5, 98]))
      (.cond (.t 98)
       (.seq (.ops [⟨(some 101), none, .fieldAddr 2 (.t 5)⟩,
         ⟨(some 102), none, .load false 1 (.t 101)⟩,
         ⟨(some 103), none, .call (.c (.func (.func 368) #[] #[])) [(.t 102)]⟩,
         ⟨(some 100), none, .move (.t 103)⟩,
         ⟨(some 104), none, .extract (.t 100) 0⟩,
         ⟨(some 105), none, .extract (.t 100) 1⟩,
         ⟨(some 7), none, .move (.t 104)⟩,
         ⟨(some 8), none, .move (.t 105)⟩] (some [0, 5, 7, 8]))
       (.seq (.ops [⟨(some 106), none, .load true 4 (.t 5)⟩,
         ⟨(some 107), none, .call (.c (.func (.func 365) #[] #[])) [(.t 106), (.c (.bool false)), (.c (.bool false)), (.c (.bool true))]⟩,
         ⟨(some 108), none, .move (.t 107)⟩,
         ⟨(some 109), (some (108, true)), .move (.t 8)⟩,
         ⟨(some 110), (some (108, true)), .bin .eql 34 (.t 109) (.c (.int .i64 0))⟩,
         ⟨(some 111), none, .pick (.t 108) (.t 110) (.c (.bool false))⟩,
         ⟨(some 112), none, .call (.c (.func (.func 277) #[] #[])) [(.t 111), (.c (.int .i64 1))]⟩] (some [0, 7]))
       (.ops [⟨(some 113), none, .move (.t 0)⟩,
         ⟨(some 114), none, .move (.t 0)⟩,
         ⟨(some 115), none, .nilCheck (.t 114)⟩,
         ⟨(some 116), none, .fieldAddr 0 (.t 115)⟩,
         ⟨(some 117), none, .load false 1 (.t 116)⟩,
         ⟨(some 118), none, .move (.t 7)⟩,
         ⟨(some 119), none, .append 1 1 [(.int .u8 0)] (.t 117) (.t 118)⟩,
         ⟨(some 120), none, .nilCheck (.t 113)⟩,
         ⟨(some 121), none, .fieldAddr 0 (.t 120)⟩,
         ⟨none, none, .store 1 (.t 121) (.t 119)⟩] (some []))))
       .skip)))))))))))))), []⟩

theorem is279 : FnIs Tryz.prog 279 x279 := ⟨Tryz.f279, _, Tryz.func279, by kernel_rfl, rfl, by kernel_rfl, by decide, by kernel_rfl⟩

/-- cloisonne/value.Pack -/
def x280 : XDecl := .code ⟨1, 
 (.seq (.ops [⟨(some 1), none, .box (.t 0)⟩,
   ⟨(some 2), none, .move (.c (.string .empty))⟩,
   ⟨(some 3), none, .move (.c (.int .i64 0))⟩] (some [1]))
 (.seq (.block 0
  (.seq (.ops [⟨(some 5), none, .load true 3 (.t 1)⟩,
    ⟨(some 6), none, .call (.c (.func (.func 143) #[] #[])) [(.t 5)]⟩,
    ⟨(some 7), none, .un .not (.t 6)⟩,
    ⟨(some 4), none, .move (.t 7)⟩] (some [1, 4]))
  (.cond (.t 4)
   (.seq (.ops [⟨(some 2), none, .move (.c (.string .empty))⟩,
     ⟨(some 3), none, .move (.c (.int .i64 1))⟩] (some [2, 3]))
   .ret)
   (.seq (.ops [⟨(some 9), none, .fieldAddr 0 (.t 1)⟩,
     ⟨(some 10), none, .load false 1 (.t 9)⟩,
     ⟨(some 8), none, .move (.t 10)⟩] (some [1, 8]))
   (.cond (.t 8)
    (.seq (.ops [⟨(some 11), none, .fieldAddr 2 (.t 1)⟩,
      ⟨(some 12), none, .load false 1 (.t 11)⟩,
      ⟨(some 13), none, .call (.c (.func (.func 214) #[] #[])) [(.t 12)]⟩,
      ⟨(some 14), none, .call (.c (.func (.func 367) #[] #[])) [(.t 13)]⟩,
      ⟨(some 15), none, .bin .add 9 (.c (.string ⟨#[1]⟩)) (.t 14)⟩,
      ⟨(some 2), none, .move (.t 15)⟩,
      ⟨(some 3), none, .move (.c (.int .i64 0))⟩] (some [2, 3]))
    .ret)
    .skip)))))
 (.seq (.ops [⟨(some 16), none, .fieldAddr 1 (.t 1)⟩,
   ⟨(some 17), none, .load false 1 (.t 16)⟩,
   ⟨(some 18), none, .bin .add 9 (.c (.string ⟨#[0]⟩)) (.t 17)⟩,
   ⟨(some 2), none, .move (.t 18)⟩,
   ⟨(some 3), none, .move (.c (.int .i64 0))⟩] (some [2, 3]))
 .ret))), [.tmp 2, .tmp 3]⟩

theorem is280 : FnIs Tryz.prog 280 x280 := ⟨Tryz.f280, _, Tryz.func280, by kernel_rfl, rfl, by kernel_rfl, by decide, by kernel_rfl⟩

/-- (*cloisonne/tree.Tree).find -/
def x290 : XDecl := .code ⟨2, 
 (.seq (.ops [⟨(some 4), none, .move (.c (.pointer none))⟩,
   ⟨(some 5), none, .move (.c (.int .i64 0))⟩,
   ⟨(some 6), none, .move (.c (.bool false))⟩] (some [0, 1]))
 (.seq (.seq (.ops [⟨(some 10), none, .move (.t 0)⟩,
   ⟨(some 11), none, .isNil .ptr false (.t 10)⟩,
   ⟨(some 12), none, .move (.t 11)⟩,
   ⟨(some 13), (some (12, false)), .move (.t 0)⟩,
   ⟨(some 14), (some (12, false)), .nilCheck (.t 13)⟩,
   ⟨(some 15), (some (12, false)), .fieldAddr 2 (.t 14)⟩,
   ⟨(some 16), (some (12, false)), .load false 1 (.t 15)⟩,
   ⟨(some 17), (some (12, false)), .bin .lss 3 (.t 16) (.c (.int .i64 0))⟩,
   ⟨(some 18), none, .pick (.t 12) (.c (.bool true)) (.t 17)⟩] (some [0, 1, 18]))
 (.cond (.t 18)
  (.seq (.ops [⟨(some 4), none, .move (.c (.pointer none))⟩,
    ⟨(some 5), none, .move (.c (.int .i64 0))⟩,
    ⟨(some 6), none, .move (.c (.bool false))⟩] (some [4, 5, 6]))
  .ret)
  .skip))
 (.seq (.opsr [⟨(some 19), none, .move (.t 0)⟩,
   ⟨(some 20), none, .nilCheck (.t 19)⟩,
   ⟨(some 21), none, .fieldAddr 0 (.t 20)⟩,
   ⟨(some 22), none, .load false 1 (.t 21)⟩,
   ⟨(some 23), none, .move (.t 0)⟩,
   ⟨(some 24), none, .nilCheck (.t 23)⟩,
   ⟨(some 25), none, .fieldAddr 2 (.t 24)⟩,
   ⟨(some 26), none, .load false 1 (.t 25)⟩,
   ⟨(some 27), none, .indexAddr 3 (.t 22) (.t 26)⟩,
   ⟨(some 7), none, .move (.t 27)⟩] (some [0, 1, 7]))
 (.seq (.block 0
  (.loop
   (.seq (.seq (.ops [⟨(some 28), none, .move (.t 7)⟩,
     ⟨(some 29), none, .call (.c (.func (.func 297) #[] #[])) [(.t 28)]⟩,
     ⟨(some 30), none, .un .not (.t 29)⟩] (some [0, 1, 7, 30]))
   (.cond (.t 30)
    .skip
    (.exit 0)))
   (.block 1
    (.opsd [(0, 0, ⟨(some 31), none, .move (.t 0)⟩),
      (1, 1, ⟨(some 32), none, .nilCheck (.t 31)⟩),
      (2, 3, ⟨(some 33), none, .fieldAddr 0 (.t 32)⟩),
      (3, 7, ⟨(some 34), none, .load false 1 (.t 33)⟩),
      (4, 0, ⟨(some 35), none, .move (.t 7)⟩),
      (5, 16, ⟨(some 36), none, .nilCheck (.t 35)⟩),
      (6, 48, ⟨(some 37), none, .fieldAddr 2 (.t 36)⟩),
      (7, 112, ⟨(some 38), none, .load false 1 (.t 37)⟩),
      (8, 0, ⟨(some 39), none, .move (.t 7)⟩),
      (9, 0, ⟨(some 40), none, .move (.t 1)⟩),
      (10, 768, ⟨(some 41), none, .call (.c (.func (.func 378) #[] #[])) [(.t 39), (.t 40)]⟩),
      (11, 2032, ⟨(some 42), none, .indexAddr 1 (.t 38) (.t 41)⟩),
      (12, 4080, ⟨(some 43), none, .load false 1 (.t 42)⟩),
      (13, 8191, ⟨(some 44), none, .indexAddr 3 (.t 34) (.t 43)⟩),
      (14, 16383, ⟨(some 7), none, .move (.t 44)⟩)] (some [0, 1, 7]))))))
 (.seq (.ops [⟨(some 46), none, .move (.t 7)⟩,
   ⟨(some 47), none, .nilCheck (.t 46)⟩,
   ⟨(some 48), none, .fieldAddr 0 (.t 47)⟩,
   ⟨(some 49), none, .load false 1 (.t 48)⟩,
   ⟨(some 50), none, .move (.t 1)⟩,
   ⟨(some 51), none, .call (.c (.func (.func 379) #[] #[])) [(.t 49), (.t 50)]⟩,
   ⟨(some 45), none, .move (.t 51)⟩,
   ⟨(some 52), none, .extract (.t 45) 0⟩,
   ⟨(some 53), none, .extract (.t 45) 1⟩,
   ⟨(some 8), none, .move (.t 52)⟩,
   ⟨(some 9), none, .move (.t 53)⟩] (some [7, 8, 9]))
 (.seq (.ops [⟨(some 54), none, .move (.t 7)⟩,
   ⟨(some 55), none, .move (.t 8)⟩,
   ⟨(some 56), none, .move (.t 9)⟩,
   ⟨(some 4), none, .move (.t 54)⟩,
   ⟨(some 5), none, .move (.t 55)⟩,
   ⟨(some 6), none, .move (.t 56)⟩] (some [4, 5, 6]))
 .ret)))))), [.tmp 4, .tmp 5, .tmp 6]⟩

theorem is290 : FnIs Tryz.prog 290 x290 := ⟨Tryz.f290, _, Tryz.func290, by kernel_rfl, rfl, by kernel_rfl, by decide, by kernel_rfl⟩

/-- cloisonne/chain.right -/
def x291 : XDecl := .code ⟨1, 
 (.seq (.ops [⟨(some 1), none, .box (.t 0)⟩,
   ⟨(some 2), none, .move (.c (.bool false))⟩] (some [1]))
 (.seq (.ops [⟨(some 3), none, .fieldAddr 0 (.t 1)⟩,
   ⟨(some 4), none, .load false 1 (.t 3)⟩,
   ⟨(some 5), none, .bin .geq 3 (.t 4) (.c (.int .i64 1))⟩,
   ⟨(some 6), none, .move (.t 5)⟩,
   ⟨(some 7), (some (6, true)), .fieldAddr 0 (.t 1)⟩,
   ⟨(some 8), (some (6, true)), .load false 1 (.t 7)⟩,
   ⟨(some 9), (some (6, true)), .bin .leq 3 (.t 8) (.c (.int .i64 1073741824))⟩,
   ⟨(some 10), none, .pick (.t 6) (.t 9) (.c (.bool false))⟩,
   ⟨(some 11), none, .move (.t 10)⟩,
   ⟨(some 12), (some (11, true)), .fieldAddr 2 (.t 1)⟩,
   ⟨(some 13), (some (11, true)), .load true 3 (.t 12)⟩,
   ⟨(some 14), (some (11, true)), .call (.c (.func (.func 143) #[] #[])) [(.t 13)]⟩,
   ⟨(some 15), none, .pick (.t 11) (.t 14) (.c (.bool false))⟩,
   ⟨(some 16), none, .move (.t 15)⟩,
   ⟨(some 17), (some (16, true)), .fieldAddr 1 (.t 1)⟩,
   ⟨(some 18), (some (16, true)), .load false 1 (.t 17)⟩,
   ⟨(some 19), (some (16, true)), .un .not (.t 18)⟩,
   ⟨(some 20), (some (16, true)), .move (.t 19)⟩,
   ⟨(some 21), (some (20, false)), .fieldAddr 2 (.t 1)⟩,
   ⟨(some 22), (some (20, false)), .load true 3 (.t 21)⟩,
   ⟨(some 23), (some (20, false)), .build [(.bool false), (.string .empty), (.int .u64 0)] [(0, 1), (1, 1), (2, 1)] []⟩,
   ⟨(some 24), (some (20, false)), .bin .eql 25 (.t 22) (.t 23)⟩,
   ⟨(some 25), (some (16, true)), .pick (.t 20) (.c (.bool true)) (.t 24)⟩,
   ⟨(some 26), none, .pick (.t 16) (.t 25) (.c (.bool false))⟩,
   ⟨(some 2), none, .move (.t 26)⟩] (some [2]))
 .ret)), [.tmp 2]⟩

theorem is291 : FnIs Tryz.prog 291 x291 := ⟨Tryz.f291, _, Tryz.func291, by kernel_rfl, rfl, by kernel_rfl, by decide, by kernel_rfl⟩

/-- cloisonne/chain.Weight -/
def x294 : XDecl := .code ⟨1, 
 (.seq (.ops [⟨(some 2), none, .move (.c (.int .i64 0))⟩] (some [0]))
 (.seq (.ops [⟨(some 6), none, .move (.t 0)⟩,
   ⟨(some 7), none, .call (.c (.func (.func 380) #[] #[])) [(.t 6)]⟩,
   ⟨(some 5), none, .move (.t 7)⟩,
   ⟨(some 8), none, .extract (.t 5) 0⟩,
   ⟨(some 9), none, .extract (.t 5) 1⟩,
   ⟨(some 3), none, .alloc [(.int .i64 0), (.bool false), (.bool false), (.string .empty), (.int .u64 0)]⟩,
   ⟨none, none, .store 5 (.t 3) (.t 8)⟩,
   ⟨(some 4), none, .move (.t 9)⟩] (some [3, 4]))
 (.seq (.seq (.ops [⟨(some 10), none, .move (.t 4)⟩,
   ⟨(some 11), none, .un .not (.t 10)⟩,
   ⟨(some 12), none, .move (.t 11)⟩,
   ⟨(some 13), (some (12, false)), .fieldAddr 1 (.t 3)⟩,
   ⟨(some 14), (some (12, false)), .load false 1 (.t 13)⟩,
   ⟨(some 15), none, .pick (.t 12) (.c (.bool true)) (.t 14)⟩] (some [3, 15]))
 (.cond (.t 15)
  (.seq (.ops [⟨(some 2), none, .move (.c (.int .i64 0))⟩] (some [2]))
  .ret)
  .skip))
 (.seq (.ops [⟨(some 16), none, .fieldAddr 2 (.t 3)⟩,
   ⟨(some 17), none, .load true 3 (.t 16)⟩,
   ⟨(some 18), none, .call (.c (.func (.func 381) #[] #[])) [(.t 17)]⟩,
   ⟨(some 2), none, .move (.t 18)⟩] (some [2]))
 .ret)))), [.tmp 2]⟩

theorem is294 : FnIs Tryz.prog 294 x294 := ⟨Tryz.f294, _, Tryz.func294, by kernel_rfl, rfl, by kernel_rfl, by decide, by kernel_rfl⟩

/-- (*cloisonne/tree.Tree).add -/
def x298 : XDecl := .code ⟨2, 
 (.seq (.ops [⟨(some 3), none, .box (.t 1)⟩,
   ⟨(some 4), none, .move (.c (.int .i64 0))⟩] (some [0, 3]))
 (.seq (.seq (.ops [⟨(some 7), none, .move (.t 0)⟩,
   ⟨(some 8), none, .nilCheck (.t 7)⟩,
   ⟨(some 9), none, .fieldAddr 1 (.t 8)⟩,
   ⟨(some 10), none, .load false 1 (.t 9)⟩,
   ⟨(some 11), none, .len (.t 10)⟩,
   ⟨(some 5), none, .move (.t 11)⟩] (some [0, 3, 5]))
 (.seq (.ops [⟨(some 12), none, .move (.t 5)⟩,
   ⟨(some 13), none, .bin .gtr 3 (.t 12) (.c (.int .i64 0))⟩] (some [0, 3, 5, 13]))
 (.cond (.t 13)
  (.seq (.ops [⟨(some 14), none, .move (.t 0)⟩,
    ⟨(some 15), none, .nilCheck (.t 14)⟩,
    ⟨(some 16), none, .fieldAddr 1 (.t 15)⟩,
    ⟨(some 17), none, .load false 1 (.t 16)⟩,
    ⟨(some 18), none, .move (.t 5)⟩,
    ⟨(some 19), none, .bin .sub 3 (.t 18) (.c (.int .i64 1))⟩,
    ⟨(some 20), none, .indexAddr 1 (.t 17) (.t 19)⟩,
    ⟨(some 21), none, .load false 1 (.t 20)⟩,
    ⟨(some 6), none, .move (.t 21)⟩] (some [0, 3, 5, 6]))
  (.seq (.ops [⟨(some 22), none, .move (.t 0)⟩,
    ⟨(some 23), none, .move (.t 0)⟩,
    ⟨(some 24), none, .nilCheck (.t 23)⟩,
    ⟨(some 25), none, .fieldAddr 1 (.t 24)⟩,
    ⟨(some 26), none, .load false 1 (.t 25)⟩,
    ⟨(some 27), none, .move (.t 5)⟩,
    ⟨(some 28), none, .bin .sub 3 (.t 27) (.c (.int .i64 1))⟩,
    ⟨(some 29), none, .slice 1 (.t 26) none (some (.t 28)) none⟩,
    ⟨(some 30), none, .nilCheck (.t 22)⟩,
    ⟨(some 31), none, .fieldAddr 1 (.t 30)⟩,
    ⟨none, none, .store 1 (.t 31) (.t 29)⟩] (some [0, 3, 6]))
  (.seq (.opsd [(0, 0, ⟨(some 32), none, .move (.t 0)⟩),
    (1, 1, ⟨(some 33), none, .nilCheck (.t 32)⟩),
    (2, 3, ⟨(some 34), none, .fieldAddr 0 (.t 33)⟩),
    (3, 7, ⟨(some 35), none, .load false 1 (.t 34)⟩),
    (4, 0, ⟨(some 36), none, .move (.t 6)⟩),
    (5, 0, ⟨(some 37), none, .load true 3 (.t 3)⟩),
    (6, 63, ⟨(some 38), none, .indexAddr 3 (.t 35) (.t 36)⟩),
    (7, 127, ⟨none, none, .store 3 (.t 38) (.t 37)⟩)] (some [6]))
  (.seq (.ops [⟨(some 39), none, .move (.t 6)⟩,
    ⟨(some 4), none, .move (.t 39)⟩] (some [4]))
  .ret))))
  .skip)))
 (.seq (.opsd [(0, 0, ⟨(some 40), none, .move (.t 0)⟩),
   (1, 0, ⟨(some 41), none, .move (.t 0)⟩),
   (2, 2, ⟨(some 42), none, .nilCheck (.t 41)⟩),
   (3, 6, ⟨(some 43), none, .fieldAddr 0 (.t 42)⟩),
   (4, 14, ⟨(some 44), none, .load false 1 (.t 43)⟩),
   (5, 0, ⟨(some 45), none, .load true 3 (.t 3)⟩),
   (6, 32, ⟨(some 46), none, .buildSlice [(.slice none 0 0), (.slice none 0 0), (.slice none 0 0)] 3 1 [(0, (.t 45))]⟩),
   (7, 126, ⟨(some 47), none, .append 3 72 [(.slice none 0 0), (.slice none 0 0), (.slice none 0 0)] (.t 44) (.t 46)⟩),
   (8, 255, ⟨(some 48), none, .nilCheck (.t 40)⟩),
   (9, 511, ⟨(some 49), none, .fieldAddr 0 (.t 48)⟩),
   (10, 1023, ⟨none, none, .store 1 (.t 49) (.t 47)⟩)] (some [0]))
 (.seq (.ops [⟨(some 50), none, .move (.t 0)⟩,
   ⟨(some 51), none, .nilCheck (.t 50)⟩,
   ⟨(some 52), none, .fieldAddr 0 (.t 51)⟩,
   ⟨(some 53), none, .load false 1 (.t 52)⟩,
   ⟨(some 54), none, .len (.t 53)⟩,
   ⟨(some 55), none, .bin .sub 3 (.t 54) (.c (.int .i64 1))⟩,
   ⟨(some 4), none, .move (.t 55)⟩] (some [4]))
 .ret)))), [.tmp 4]⟩

theorem is298 : FnIs Tryz.prog 298 x298 := ⟨Tryz.f298, _, Tryz.func298, by kernel_rfl, rfl, by kernel_rfl, by decide, by kernel_rfl⟩

/-- (*cloisonne/vault.Vault).there -/
def x302 : XDecl := .code ⟨2, 
 (.seq (.ops [⟨(some 4), none, .move (.c (.bool false))⟩] (some [0, 1]))
 (.seq (.ops [⟨(some 5), none, .move (.t 0)⟩,
   ⟨(some 6), none, .isNil .ptr true (.t 5)⟩,
   ⟨(some 7), none, .move (.t 6)⟩,
   ⟨(some 8), (some (7, true)), .move (.t 1)⟩,
   ⟨(some 9), (some (7, true)), .move (.t 0)⟩,
   ⟨(some 10), (some (7, true)), .nilCheck (.t 9)⟩,
   ⟨(some 11), (some (7, true)), .fieldAddr 6 (.t 10)⟩,
   ⟨(some 12), (some (7, true)), .load false 1 (.t 11)⟩,
   ⟨(some 13), (some (7, true)), .len (.t 12)⟩,
   ⟨(some 14), (some (7, true)), .bin .sub 3 (.t 13) (.c (.int .i64 1))⟩,
   ⟨(some 15), (some (7, true)), .call (.c (.func (.func 118) #[] #[])) [(.t 8), (.c (.int .i64 (-1))), (.t 14)]⟩,
   ⟨(some 16), none, .pick (.t 7) (.t 15) (.c (.bool false))⟩,
   ⟨(some 4), none, .move (.t 16)⟩] (some [4]))
 .ret)), [.tmp 4]⟩

theorem is302 : FnIs Tryz.prog 302 x302 := ⟨Tryz.f302, _, Tryz.func302, by kernel_rfl, rfl, by kernel_rfl, by decide, by kernel_rfl⟩

/-- (*cloisonne/vault.Vault).Hold -/
def x303 : XDecl := .code ⟨3, 
 (.seq (.ops [⟨(some 6), none, .move (.c (.bool false))⟩] (some [0, 1, 2]))
 (.seq (.seq (.ops [⟨(some 9), none, .move (.t 0)⟩,
   ⟨(some 10), none, .move (.t 1)⟩,
   ⟨(some 11), none, .call (.c (.func (.func 302) #[] #[])) [(.t 9), (.t 10)]⟩,
   ⟨(some 12), none, .un .not (.t 11)⟩] (some [0, 1, 2, 12]))
 (.cond (.t 12)
  (.seq (.ops [⟨(some 6), none, .move (.c (.bool false))⟩] (some [6]))
  .ret)
  .skip))
 (.seq (.seq (.ops [⟨(some 14), none, .move (.t 0)⟩,
   ⟨(some 15), none, .nilCheck (.t 14)⟩,
   ⟨(some 16), none, .fieldAddr 8 (.t 15)⟩,
   ⟨(some 17), none, .load false 1 (.t 16)⟩,
   ⟨(some 18), none, .move (.t 1)⟩,
   ⟨(some 19), none, .lookup true (.int .i64 0) true (.t 17) (.t 18)⟩,
   ⟨(some 13), none, .move (.t 19)⟩,
   ⟨(some 20), none, .extract (.t 13) 0⟩,
   ⟨(some 21), none, .extract (.t 13) 1⟩,
   ⟨(some 7), none, .move (.t 20)⟩,
   ⟨(some 8), none, .move (.t 21)⟩] (some [0, 1, 2, 8]))
 (.seq (.ops [⟨(some 22), none, .move (.t 8)⟩] (some [0, 1, 2, 22]))
 (.cond (.t 22)
  (.seq (.ops [⟨(some 6), none, .move (.c (.bool false))⟩] (some [6]))
  .ret)
  .skip)))
 (.seq (.ops [⟨(some 23), none, .move (.t 0)⟩,
   ⟨(some 24), none, .nilCheck (.t 23)⟩,
   ⟨(some 25), none, .fieldAddr 8 (.t 24)⟩,
   ⟨(some 26), none, .load false 1 (.t 25)⟩,
   ⟨(some 27), none, .move (.t 1)⟩,
   ⟨(some 28), none, .move (.t 2)⟩,
   ⟨none, none, .mapUpdate true (.t 26) (.t 27) (.t 28)⟩] (some []))
 (.seq (.ops [⟨(some 6), none, .move (.c (.bool true))⟩] (some [6]))
 .ret))))), [.tmp 6]⟩

theorem is303 : FnIs Tryz.prog 303 x303 := ⟨Tryz.f303, _, Tryz.func303, by kernel_rfl, rfl, by kernel_rfl, by decide, by kernel_rfl⟩

/-- (*cloisonne/job.Job).end -/
def x304 : XDecl := .code ⟨3, 
 (.seq (.ops [⟨(some 6), none, .move (.c (.int .i64 0))⟩,
   ⟨(some 7), none, .move (.c (.int .i64 0))⟩] (some [0, 1, 2]))
 (.seq (.opsd [(0, 0, ⟨(some 8), none, .move (.t 0)⟩),
   (1, 1, ⟨(some 9), none, .nilCheck (.t 8)⟩),
   (2, 3, ⟨(some 10), none, .fieldAddr 0 (.t 9)⟩),
   (3, 7, ⟨(some 11), none, .load false 1 (.t 10)⟩),
   (4, 0, ⟨(some 12), none, .move (.t 0)⟩),
   (5, 16, ⟨(some 13), none, .nilCheck (.t 12)⟩),
   (6, 48, ⟨(some 14), none, .fieldAddr 2 (.t 13)⟩),
   (7, 112, ⟨(some 15), none, .load false 1 (.t 14)⟩),
   (8, 255, ⟨(some 16), none, .call (.c (.func (.func 389) #[] #[])) [(.t 11), (.t 15)]⟩)] (some [0, 1, 2]))
 (.seq (.ops [⟨(some 17), none, .move (.t 0)⟩,
   ⟨(some 18), none, .move (.t 0)⟩,
   ⟨(some 19), none, .move (.t 2)⟩,
   ⟨(some 20), none, .nilCheck (.t 17)⟩,
   ⟨(some 21), none, .fieldAddr 4 (.t 20)⟩,
   ⟨none, none, .store 1 (.t 21) (.c (.int .i64 3))⟩,
   ⟨(some 22), none, .nilCheck (.t 18)⟩,
   ⟨(some 23), none, .fieldAddr 7 (.t 22)⟩,
   ⟨none, none, .store 1 (.t 23) (.t 19)⟩] (some [0, 1, 2]))
 (.seq (.seq (.ops [⟨(some 24), none, .move (.t 2)⟩,
   ⟨(some 25), none, .bin .eql 34 (.t 24) (.c (.int .i64 0))⟩] (some [0, 1, 25]))
 (.cond (.t 25)
  (.ops [⟨(some 26), none, .move (.t 0)⟩,
    ⟨(some 27), none, .move (.t 1)⟩,
    ⟨(some 28), none, .nilCheck (.t 26)⟩,
    ⟨(some 29), none, .fieldAddr 6 (.t 28)⟩,
    ⟨none, none, .store 1 (.t 29) (.t 27)⟩] (some []))
  .skip))
 (.seq (.ops [⟨(some 6), none, .move (.c (.int .i64 2))⟩,
   ⟨(some 7), none, .move (.c (.int .i64 0))⟩] (some [6, 7]))
 .ret))))), [.tmp 6, .tmp 7]⟩

theorem is304 : FnIs Tryz.prog 304 x304 := ⟨Tryz.f304, _, Tryz.func304, by kernel_rfl, rfl, by kernel_rfl, by decide, by kernel_rfl⟩

/-- (*cloisonne/extent.World).there -/
def x305 : XDecl := .code ⟨2, 
 (.seq (.ops [⟨(some 4), none, .move (.c (.bool false))⟩] (some [0, 1]))
 (.seq (.ops [⟨(some 5), none, .move (.t 0)⟩,
   ⟨(some 6), none, .isNil .ptr true (.t 5)⟩,
   ⟨(some 7), none, .move (.t 6)⟩,
   ⟨(some 8), (some (7, true)), .move (.t 1)⟩,
   ⟨(some 9), (some (7, true)), .bin .geq 3 (.t 8) (.c (.int .i64 0))⟩,
   ⟨(some 10), none, .pick (.t 7) (.t 9) (.c (.bool false))⟩,
   ⟨(some 11), none, .move (.t 10)⟩,
   ⟨(some 12), (some (11, true)), .move (.t 1)⟩,
   ⟨(some 13), (some (11, true)), .move (.t 0)⟩,
   ⟨(some 14), (some (11, true)), .nilCheck (.t 13)⟩,
   ⟨(some 15), (some (11, true)), .fieldAddr 2 (.t 14)⟩,
   ⟨(some 16), (some (11, true)), .load false 1 (.t 15)⟩,
   ⟨(some 17), (some (11, true)), .len (.t 16)⟩,
   ⟨(some 18), (some (11, true)), .bin .lss 3 (.t 12) (.t 17)⟩,
   ⟨(some 19), none, .pick (.t 11) (.t 18) (.c (.bool false))⟩,
   ⟨(some 4), none, .move (.t 19)⟩] (some [4]))
 .ret)), [.tmp 4]⟩

theorem is305 : FnIs Tryz.prog 305 x305 := ⟨Tryz.f305, _, Tryz.func305, by kernel_rfl, rfl, by kernel_rfl, by decide, by kernel_rfl⟩

/-- (*cloisonne/room.Room).Setting -/
def x308 : XDecl := .code ⟨1, 
 (.seq (.ops [⟨(some 2), none, .alloc [(.slice none 0 0), (.int .i64 0), (.int .i64 0), (.int .i64 0)]⟩] (some [0, 2]))
 (.seq (.seq (.ops [⟨(some 4), none, .move (.t 0)⟩,
   ⟨(some 5), none, .isNil .ptr false (.t 4)⟩] (some [0, 2, 5]))
 (.cond (.t 5)
  (.seq (.ops [⟨(some 6), none, .build [(.slice none 0 0), (.int .i64 0), (.int .i64 0), (.int .i64 0)] [(0, 1), (1, 1), (2, 1), (3, 1)] []⟩,
    ⟨none, none, .store 4 (.t 2) (.t 6)⟩] (some [2]))
  .ret)
  .skip))
 (.seq (.ops [⟨(some 7), none, .move (.t 0)⟩,
   ⟨(some 8), none, .nilCheck (.t 7)⟩,
   ⟨(some 9), none, .fieldAddr 0 (.t 8)⟩,
   ⟨(some 10), none, .load true 4 (.t 9)⟩,
   ⟨(some 3), none, .alloc [(.slice none 0 0), (.int .i64 0), (.int .i64 0), (.int .i64 0)]⟩,
   ⟨none, none, .store 4 (.t 3) (.t 10)⟩] (some [2, 3]))
 (.seq (.ops [⟨(some 11), none, .fieldAddr 0 (.t 3)⟩,
   ⟨(some 12), none, .load false 1 (.t 11)⟩,
   ⟨(some 13), none, .call (.c (.func (.func 54) #[] #[])) [(.t 12)]⟩,
   ⟨(some 14), none, .fieldAddr 0 (.t 3)⟩,
   ⟨none, none, .store 1 (.t 14) (.t 13)⟩] (some [2, 3]))
 (.seq (.ops [⟨(some 15), none, .load true 4 (.t 3)⟩,
   ⟨none, none, .store 4 (.t 2) (.t 15)⟩] (some [2]))
 .ret))))), [.cell true 4 2]⟩

theorem is308 : FnIs Tryz.prog 308 x308 := ⟨Tryz.f308, _, Tryz.func308, by kernel_rfl, rfl, by kernel_rfl, by decide, by kernel_rfl⟩

/-- (*cloisonne/extent.World).Read -/
def x317 : XDecl := .code ⟨3, 
 (.seq (.ops [⟨(some 6), none, .move (.c (.string .empty))⟩,
   ⟨(some 7), none, .move (.c (.int .i64 0))⟩] (some [0, 1, 2]))
 (.seq (.seq (.ops [⟨(some 11), none, .move (.t 0)⟩,
   ⟨(some 12), none, .move (.t 1)⟩,
   ⟨(some 13), none, .move (.t 2)⟩,
   ⟨(some 14), none, .call (.c (.func (.func 406) #[] #[])) [(.t 11), (.t 12), (.t 13)]⟩,
   ⟨(some 8), none, .move (.t 14)⟩] (some [0, 1, 2, 8]))
 (.seq (.ops [⟨(some 15), none, .move (.t 8)⟩,
   ⟨(some 16), none, .bin .neq 34 (.t 15) (.c (.int .i64 0))⟩] (some [0, 1, 2, 8, 16]))
 (.cond (.t 16)
  (.seq (.ops [⟨(some 17), none, .move (.t 8)⟩,
    ⟨(some 6), none, .move (.c (.string .empty))⟩,
    ⟨(some 7), none, .move (.t 17)⟩] (some [6, 7]))
  .ret)
  .skip)))
 (.seq (.seq (.ops [⟨(some 19), none, .move (.t 0)⟩,
   ⟨(some 20), none, .nilCheck (.t 19)⟩,
   ⟨(some 21), none, .fieldAddr 3 (.t 20)⟩,
   ⟨(some 22), none, .load false 1 (.t 21)⟩,
   ⟨(some 23), none, .move (.t 1)⟩,
   ⟨(some 24), none, .indexAddr 1 (.t 22) (.t 23)⟩,
   ⟨(some 25), none, .load false 1 (.t 24)⟩,
   ⟨(some 26), none, .move (.t 2)⟩,
   ⟨(some 27), none, .lookup true (.string .empty) true (.t 25) (.t 26)⟩,
   ⟨(some 18), none, .move (.t 27)⟩,
   ⟨(some 28), none, .extract (.t 18) 0⟩,
   ⟨(some 29), none, .extract (.t 18) 1⟩,
   ⟨(some 9), none, .move (.t 28)⟩,
   ⟨(some 10), none, .move (.t 29)⟩] (some [0, 1, 2, 9, 10]))
 (.seq (.ops [⟨(some 30), none, .move (.t 10)⟩] (some [0, 1, 2, 9, 30]))
 (.cond (.t 30)
  (.seq (.ops [⟨(some 31), none, .move (.t 9)⟩,
    ⟨(some 6), none, .move (.t 31)⟩,
    ⟨(some 7), none, .move (.c (.int .i64 0))⟩] (some [6, 7]))
  .ret)
  .skip)))
 (.seq (.ops [⟨(some 32), none, .move (.t 0)⟩,
   ⟨(some 33), none, .nilCheck (.t 32)⟩,
   ⟨(some 34), none, .fieldAddr 2 (.t 33)⟩,
   ⟨(some 35), none, .load false 1 (.t 34)⟩,
   ⟨(some 36), none, .move (.t 1)⟩,
   ⟨(some 37), none, .indexAddr 1 (.t 35) (.t 36)⟩,
   ⟨(some 38), none, .load false 1 (.t 37)⟩,
   ⟨(some 39), none, .move (.t 2)⟩,
   ⟨(some 40), none, .indexAddr 1 (.t 38) (.t 39)⟩,
   ⟨(some 41), none, .load false 1 (.t 40)⟩,
   ⟨(some 6), none, .move (.t 41)⟩,
   ⟨(some 7), none, .move (.c (.int .i64 0))⟩] (some [6, 7]))
 .ret)))), [.tmp 6, .tmp 7]⟩

theorem is317 : FnIs Tryz.prog 317 x317 := ⟨Tryz.f317, _, Tryz.func317, by kernel_rfl, rfl, by kernel_rfl, by decide, by kernel_rfl⟩

/-- cloisonne/sector.Unpack -/
def x318 : XDecl := .code ⟨1, 
 (.seq (.ops [⟨(some 2), none, .alloc [(.int .i64 0), (.int .i64 0), (.int .i64 0), (.int .i64 0), (.int .i64 0)]⟩,
   ⟨(some 3), none, .move (.c (.string .empty))⟩,
   ⟨(some 4), none, .move (.c (.int .i64 0))⟩] (some [0, 2]))
 (.seq (.seq (.ops [⟨(some 7), none, .move (.t 0)⟩,
   ⟨(some 8), none, .calcB .len [9] 3 [(.t 7)]⟩,
   ⟨(some 9), none, .bin .neq 3 (.t 8) (.c (.int .i64 64))⟩,
   ⟨(some 10), none, .move (.t 9)⟩,
   ⟨(some 11), (some (10, false)), .move (.t 0)⟩,
   ⟨(some 12), (some (10, false)), .index 9 (.t 11) (.c (.int .i64 0))⟩,
   ⟨(some 13), (some (10, false)), .bin .neq 5 (.t 12) (.c (.int .u8 193))⟩,
   ⟨(some 14), none, .pick (.t 10) (.c (.bool true)) (.t 13)⟩] (some [0, 2, 14]))
 (.cond (.t 14)
  (.seq (.ops [⟨(some 15), none, .build [(.int .i64 0), (.int .i64 0), (.int .i64 0), (.int .i64 0), (.int .i64 0)] [(0, 1), (1, 1), (2, 1), (3, 1), (4, 1)] []⟩,
    ⟨none, none, .store 5 (.t 2) (.t 15)⟩,
    ⟨(some 3), none, .move (.c (.string .empty))⟩,
    ⟨(some 4), none, .move (.c (.int .i64 4))⟩] (some [2, 3, 4]))
  .ret)
  .skip))
 (.seq (.opsd [(0, 0, ⟨(some 16), none, .move (.t 0)⟩),
   (1, 1, ⟨(some 17), none, .substr 9 (.t 16) (some (.c (.int .i64 1))) (some (.c (.int .i64 5)))⟩),
   (3, 0, ⟨(some 19), none, .move (.t 0)⟩),
   (4, 8, ⟨(some 20), none, .substr 9 (.t 19) (some (.c (.int .i64 5))) (some (.c (.int .i64 7)))⟩),
   (6, 0, ⟨(some 22), none, .move (.t 0)⟩),
   (7, 64, ⟨(some 23), none, .substr 9 (.t 22) (some (.c (.int .i64 7))) (some (.c (.int .i64 11)))⟩),
   (9, 0, ⟨(some 25), none, .move (.t 0)⟩),
   (10, 512, ⟨(some 26), none, .substr 9 (.t 25) (some (.c (.int .i64 11))) (some (.c (.int .i64 12)))⟩),
   (12, 0, ⟨(some 28), none, .move (.t 0)⟩),
   (13, 4096, ⟨(some 29), none, .substr 9 (.t 28) (some (.c (.int .i64 12))) (some (.c (.int .i64 13)))⟩),
   (16, 0, ⟨(some 5), none, .alloc [(.int .i64 0), (.int .i64 0), (.int .i64 0), (.int .i64 0), (.int .i64 0)]⟩),
   (2, 3, ⟨(some 18), none, .call (.c (.func (.func 407) #[] #[])) [(.t 17)]⟩),
   (5, 31, ⟨(some 21), none, .call (.c (.func (.func 407) #[] #[])) [(.t 20)]⟩),
   (8, 255, ⟨(some 24), none, .call (.c (.func (.func 407) #[] #[])) [(.t 23)]⟩),
   (11, 2047, ⟨(some 27), none, .call (.c (.func (.func 407) #[] #[])) [(.t 26)]⟩),
   (14, 16383, ⟨(some 30), none, .call (.c (.func (.func 407) #[] #[])) [(.t 29)]⟩),
   (15, 32767, ⟨(some 31), none, .build [(.int .i64 0), (.int .i64 0), (.int .i64 0), (.int .i64 0), (.int .i64 0)] [(0, 1), (1, 1), (2, 1), (3, 1), (4, 1)] [(0, (.t 18)), (1, (.t 21)), (2, (.t 24)), (3, (.t 27)), (4, (.t 30))]⟩),
   (17, 131071, ⟨none, none, .store 5 (.t 5) (.t 31)⟩)] (some [0, 2, 5]))
 (.seq (.ops [⟨(some 32), none, .move (.t 0)⟩,
   ⟨(some 33), none, .substr 9 (.t 32) (some (.c (.int .i64 13))) (some (.c (.int .i64 14)))⟩,
   ⟨(some 34), none, .call (.c (.func (.func 407) #[] #[])) [(.t 33)]⟩,
   ⟨(some 6), none, .move (.t 34)⟩] (some [0, 2, 5, 6]))
 (.seq (.seq (.ops [⟨(some 35), none, .load true 5 (.t 5)⟩,
   ⟨(some 36), none, .call (.c (.func (.func 408) #[] #[])) [(.t 35)]⟩,
   ⟨(some 37), none, .un .not (.t 36)⟩,
   ⟨(some 38), none, .move (.t 37)⟩,
   ⟨(some 39), (some (38, false)), .move (.t 6)⟩,
   ⟨(some 40), (some (38, false)), .bin .gtr 3 (.t 39) (.c (.int .i64 50))⟩,
   ⟨(some 41), none, .pick (.t 38) (.c (.bool true)) (.t 40)⟩,
   ⟨(some 42), none, .move (.t 41)⟩,
   ⟨(some 43), (some (42, false)), .move (.t 0)⟩,
   ⟨(some 44), (some (42, false)), .move (.t 6)⟩,
   ⟨(some 45), (some (42, false)), .bin .add 3 (.c (.int .i64 14)) (.t 44)⟩,
   ⟨(some 46), (some (42, false)), .substr 9 (.t 43) (some (.t 45)) none⟩,
   ⟨(some 47), (some (42, false)), .call (.c (.func (.func 409) #[] #[])) [(.t 46), (.c (.string ⟨#[0]⟩))]⟩,
   ⟨(some 48), (some (42, false)), .bin .neq 9 (.t 47) (.c (.string .empty))⟩,
   ⟨(some 49), none, .pick (.t 42) (.c (.bool true)) (.t 48)⟩] (some [0, 2, 5, 6, 49]))
 (.cond (.t 49)
  (.seq (.ops [⟨(some 50), none, .build [(.int .i64 0), (.int .i64 0), (.int .i64 0), (.int .i64 0), (.int .i64 0)] [(0, 1), (1, 1), (2, 1), (3, 1), (4, 1)] []⟩,
    ⟨none, none, .store 5 (.t 2) (.t 50)⟩,
    ⟨(some 3), none, .move (.c (.string .empty))⟩,
    ⟨(some 4), none, .move (.c (.int .i64 4))⟩] (some [2, 3, 4]))
  .ret)
  .skip))
 (.seq (.opsd [(0, 0, ⟨(some 51), none, .load true 5 (.t 5)⟩),
   (1, 0, ⟨(some 52), none, .move (.t 0)⟩),
   (2, 0, ⟨(some 53), none, .move (.t 6)⟩),
   (3, 4, ⟨(some 54), none, .bin .add 3 (.c (.int .i64 14)) (.t 53)⟩),
   (4, 14, ⟨(some 55), none, .substr 9 (.t 52) (some (.c (.int .i64 14))) (some (.t 54))⟩),
   (5, 1, ⟨none, none, .store 5 (.t 2) (.t 51)⟩),
   (6, 63, ⟨(some 3), none, .move (.t 55)⟩),
   (7, 127, ⟨(some 4), none, .move (.c (.int .i64 0))⟩)] (some [2, 3, 4]))
 .ret)))))), [.cell true 5 2, .tmp 3, .tmp 4]⟩

theorem is318 : FnIs Tryz.prog 318 x318 := ⟨Tryz.f318, _, Tryz.func318, by kernel_rfl, rfl, by kernel_rfl, by decide, by kernel_rfl⟩

/-- (*cloisonne/seglog.Log).Busy -/
def x320 : XDecl := .code ⟨1, 
 (.seq (.ops [⟨(some 2), none, .move (.c (.bool false))⟩] (some [0]))
 (.seq (.ops [⟨(some 3), none, .move (.t 0)⟩,
   ⟨(some 4), none, .isNil .ptr true (.t 3)⟩,
   ⟨(some 5), none, .move (.t 4)⟩,
   ⟨(some 6), (some (5, true)), .move (.t 0)⟩,
   ⟨(some 7), (some (5, true)), .nilCheck (.t 6)⟩,
   ⟨(some 8), (some (5, true)), .fieldAddr 6 (.t 7)⟩,
   ⟨(some 9), (some (5, true)), .load false 1 (.t 8)⟩,
   ⟨(some 10), (some (5, true)), .isNil .ptr true (.t 9)⟩,
   ⟨(some 11), none, .pick (.t 5) (.t 10) (.c (.bool false))⟩,
   ⟨(some 2), none, .move (.t 11)⟩] (some [2]))
 .ret)), [.tmp 2]⟩

theorem is320 : FnIs Tryz.prog 320 x320 := ⟨Tryz.f320, _, Tryz.func320, by kernel_rfl, rfl, by kernel_rfl, by decide, by kernel_rfl⟩

/-- (*cloisonne/seglog.Log).fits -/
def x321 : XDecl := .code ⟨3, 
 (.seq (.ops [⟨(some 6), none, .move (.c (.bool false))⟩] (some [0, 1, 2]))
 (.seq (.opsd [(0, 0, ⟨(some 7), none, .move (.t 1)⟩),
   (1, 1, ⟨(some 8), none, .bin .geq 3 (.t 7) (.c (.int .i64 0))⟩),
   (2, 3, ⟨(some 9), none, .move (.t 8)⟩),
   (3, 7, ⟨(some 10), (some (9, true)), .move (.t 1)⟩),
   (5, 7, ⟨(some 12), (some (9, true)), .move (.t 0)⟩),
   (6, 39, ⟨(some 13), (some (9, true)), .nilCheck (.t 12)⟩),
   (7, 103, ⟨(some 14), (some (9, true)), .fieldAddr 0 (.t 13)⟩),
   (8, 231, ⟨(some 15), (some (9, true)), .load false 1 (.t 14)⟩),
   (10, 7, ⟨(some 17), (some (9, true)), .move (.t 2)⟩),
   (4, 15, ⟨(some 11), (some (9, true)), .call (.c (.func (.func 413) #[] #[])) [(.t 10)]⟩),
   (9, 511, ⟨(some 16), (some (9, true)), .call (.c (.func (.func 94) #[] #[])) [(.t 15)]⟩),
   (11, 2047, ⟨(some 18), (some (9, true)), .bin .sub 3 (.t 16) (.t 17)⟩),
   (12, 4095, ⟨(some 19), (some (9, true)), .bin .leq 3 (.t 11) (.t 18)⟩),
   (13, 8191, ⟨(some 20), none, .pick (.t 9) (.t 19) (.c (.bool false))⟩),
   (14, 16383, ⟨(some 6), none, .move (.t 20)⟩)] (some [6]))
 .ret)), [.tmp 6]⟩

theorem is321 : FnIs Tryz.prog 321 x321 := ⟨Tryz.f321, _, Tryz.func321, by kernel_rfl, rfl, by kernel_rfl, by decide, by kernel_rfl⟩

/-- (*cloisonne/seglog.Log).begin -/
def x322 : XDecl := .code ⟨2, 
 (.seq (.ops [⟨(some 4), none, .move (.c (.pointer none))⟩,
   ⟨(some 5), none, .move (.c (.int .i64 0))⟩] (some [0, 1]))
 (.seq (.seq (.ops [⟨(some 6), none, .move (.t 1)⟩,
   ⟨(some 7), none, .nilCheck (.t 6)⟩,
   ⟨(some 8), none, .fieldAddr 2 (.t 7)⟩,
   ⟨(some 9), none, .load false 1 (.t 8)⟩,
   ⟨(some 10), none, .bin .gtr 3 (.t 9) (.c (.int .i64 2147483647))⟩,
   ⟨(some 11), none, .move (.t 10)⟩,
   ⟨(some 12), (some (11, false)), .move (.t 0)⟩,
   ⟨(some 13), (some (11, false)), .nilCheck (.t 12)⟩,
   ⟨(some 14), (some (11, false)), .fieldAddr 5 (.t 13)⟩,
   ⟨(some 15), (some (11, false)), .load false 1 (.t 14)⟩,
   ⟨(some 16), (some (11, false)), .bin .gtr 3 (.t 15) (.c (.int .i64 2147483647))⟩,
   ⟨(some 17), none, .pick (.t 11) (.c (.bool true)) (.t 16)⟩] (some [0, 1, 17]))
 (.cond (.t 17)
  (.seq (.ops [⟨(some 4), none, .move (.c (.pointer none))⟩,
    ⟨(some 5), none, .move (.c (.int .i64 17))⟩] (some [4, 5]))
  .ret)
  .skip))
 (.seq (.ops [⟨(some 18), none, .move (.t 1)⟩,
   ⟨(some 19), none, .move (.t 0)⟩,
   ⟨(some 20), none, .move (.t 0)⟩,
   ⟨(some 21), none, .move (.t 1)⟩,
   ⟨(some 22), none, .nilCheck (.t 18)⟩,
   ⟨(some 23), none, .fieldAddr 0 (.t 22)⟩,
   ⟨none, none, .store 1 (.t 23) (.t 20)⟩,
   ⟨(some 24), none, .nilCheck (.t 19)⟩,
   ⟨(some 25), none, .fieldAddr 6 (.t 24)⟩,
   ⟨none, none, .store 1 (.t 25) (.t 21)⟩] (some [1]))
 (.seq (.ops [⟨(some 26), none, .move (.t 1)⟩,
   ⟨(some 4), none, .move (.t 26)⟩,
   ⟨(some 5), none, .move (.c (.int .i64 0))⟩] (some [4, 5]))
 .ret)))), [.tmp 4, .tmp 5]⟩

theorem is322 : FnIs Tryz.prog 322 x322 := ⟨Tryz.f322, _, Tryz.func322, by kernel_rfl, rfl, by kernel_rfl, by decide, by kernel_rfl⟩

/-- cloisonne/sector.Parts -/
def x323 : XDecl := .code ⟨1, 
 (.seq (.ops [⟨(some 2), none, .move (.c (.slice none 0 0))⟩] (some [0]))
 (.seq (.ops [⟨(some 3), none, .move (.c (.slice none 0 0))⟩] (some [0, 3]))
 (.seq (.block 0
  (.loop
   (.seq (.seq (.ops [⟨(some 4), none, .move (.t 0)⟩,
     ⟨(some 5), none, .calcB .len [9] 3 [(.t 4)]⟩,
     ⟨(some 6), none, .bin .gtr 3 (.t 5) (.c (.int .i64 50))⟩] (some [0, 3, 6]))
   (.cond (.t 6)
    .skip
    (.exit 0)))
   (.block 1
    (.seq (.ops [⟨(some 7), none, .move (.t 3)⟩,
      ⟨(some 8), none, .move (.t 0)⟩,
      ⟨(some 9), none, .substr 9 (.t 8) none (some (.c (.int .i64 50)))⟩,
      ⟨(some 10), none, .buildSlice [(.string .empty)] 1 1 [(0, (.t 9))]⟩,
      ⟨(some 11), none, .append 1 16 [(.string .empty)] (.t 7) (.t 10)⟩,
      ⟨(some 3), none, .move (.t 11)⟩] (some [0, 3]))
    (.ops [⟨(some 12), none, .move (.t 0)⟩,
      ⟨(some 13), none, .substr 9 (.t 12) (some (.c (.int .i64 50))) none⟩,
      ⟨(some 0), none, .move (.t 13)⟩] (some [0, 3])))))))
 (.seq (.ops [⟨(some 14), none, .move (.t 3)⟩,
   ⟨(some 15), none, .move (.t 0)⟩,
   ⟨(some 16), none, .buildSlice [(.string .empty)] 1 1 [(0, (.t 15))]⟩,
   ⟨(some 17), none, .append 1 16 [(.string .empty)] (.t 14) (.t 16)⟩,
   ⟨(some 2), none, .move (.t 17)⟩] (some [2]))
 .ret)))), [.tmp 2]⟩

theorem is323 : FnIs Tryz.prog 323 x323 := ⟨Tryz.f323, _, Tryz.func323, by kernel_rfl, rfl, by kernel_rfl, by decide, by kernel_rfl⟩

/-- (*cloisonne/seglog.Writer).sector -/
def x324 : XDecl := .code ⟨1, 
 (.seq (.ops [⟨(some 2), none, .move (.c (.int .i64 0))⟩] (some [0]))
 (.seq (.opsd [(0, 0, ⟨(some 6), none, .move (.t 0)⟩),
   (1, 1, ⟨(some 7), none, .nilCheck (.t 6)⟩),
   (2, 3, ⟨(some 8), none, .fieldAddr 2 (.t 7)⟩),
   (3, 7, ⟨(some 9), none, .load false 1 (.t 8)⟩),
   (4, 0, ⟨(some 10), none, .move (.t 0)⟩),
   (5, 16, ⟨(some 11), none, .nilCheck (.t 10)⟩),
   (6, 48, ⟨(some 12), none, .fieldAddr 3 (.t 11)⟩),
   (7, 112, ⟨(some 13), none, .load false 1 (.t 12)⟩),
   (8, 0, ⟨(some 14), none, .move (.t 0)⟩),
   (9, 256, ⟨(some 15), none, .nilCheck (.t 14)⟩),
   (10, 768, ⟨(some 16), none, .fieldAddr 5 (.t 15)⟩),
   (11, 1792, ⟨(some 17), none, .load false 1 (.t 16)⟩),
   (12, 4080, ⟨(some 18), none, .bin .add 3 (.t 13) (.t 17)⟩),
   (13, 0, ⟨(some 19), none, .move (.t 0)⟩),
   (14, 8192, ⟨(some 20), none, .nilCheck (.t 19)⟩),
   (15, 24576, ⟨(some 21), none, .fieldAddr 0 (.t 20)⟩),
   (16, 57344, ⟨(some 22), none, .load false 1 (.t 21)⟩),
   (17, 122880, ⟨(some 23), none, .nilCheck (.t 22)⟩),
   (18, 253952, ⟨(some 24), none, .fieldAddr 5 (.t 23)⟩),
   (19, 516096, ⟨(some 25), none, .load false 1 (.t 24)⟩),
   (20, 0, ⟨(some 26), none, .move (.t 0)⟩),
   (21, 1048576, ⟨(some 27), none, .nilCheck (.t 26)⟩),
   (22, 3145728, ⟨(some 28), none, .fieldAddr 5 (.t 27)⟩),
   (23, 7340032, ⟨(some 29), none, .load false 1 (.t 28)⟩),
   (24, 0, ⟨(some 30), none, .move (.t 0)⟩),
   (25, 16777216, ⟨(some 31), none, .nilCheck (.t 30)⟩),
   (26, 50331648, ⟨(some 32), none, .fieldAddr 4 (.t 31)⟩),
   (27, 117440512, ⟨(some 33), none, .load false 1 (.t 32)⟩),
   (28, 251658240, ⟨(some 34), none, .len (.t 33)⟩),
   (29, 536870911, ⟨(some 35), none, .build [(.int .i64 0), (.int .i64 0), (.int .i64 0), (.int .i64 0), (.int .i64 0)] [(0, 1), (1, 1), (2, 1), (3, 1), (4, 1)] [(0, (.t 9)), (1, (.t 18)), (2, (.t 25)), (3, (.t 29)), (4, (.t 34))]⟩),
   (30, 0, ⟨(some 3), none, .alloc [(.int .i64 0), (.int .i64 0), (.int .i64 0), (.int .i64 0), (.int .i64 0)]⟩),
   (31, 2147483647, ⟨none, none, .store 5 (.t 3) (.t 35)⟩)] (some [0, 3]))
 (.seq (.opsd [(0, 0, ⟨(some 37), none, .load true 5 (.t 3)⟩),
   (1, 0, ⟨(some 38), none, .move (.t 0)⟩),
   (2, 2, ⟨(some 39), none, .nilCheck (.t 38)⟩),
   (3, 6, ⟨(some 40), none, .fieldAddr 4 (.t 39)⟩),
   (4, 14, ⟨(some 41), none, .load false 1 (.t 40)⟩),
   (5, 0, ⟨(some 42), none, .move (.t 0)⟩),
   (6, 32, ⟨(some 43), none, .nilCheck (.t 42)⟩),
   (7, 96, ⟨(some 44), none, .fieldAddr 5 (.t 43)⟩),
   (8, 224, ⟨(some 45), none, .load false 1 (.t 44)⟩),
   (9, 510, ⟨(some 46), none, .indexAddr 1 (.t 41) (.t 45)⟩),
   (10, 1022, ⟨(some 47), none, .load false 1 (.t 46)⟩),
   (11, 2047, ⟨(some 48), none, .call (.c (.func (.func 414) #[] #[])) [(.t 37), (.t 47)]⟩),
   (12, 4095, ⟨(some 36), none, .move (.t 48)⟩),
   (13, 8191, ⟨(some 49), none, .extract (.t 36) 0⟩),
   (14, 8191, ⟨(some 50), none, .extract (.t 36) 1⟩),
   (15, 16383, ⟨(some 4), none, .move (.t 49)⟩),
   (16, 65535, ⟨(some 5), none, .move (.t 50)⟩)] (some [0, 3, 4, 5]))
 (.seq (.seq (.ops [⟨(some 51), none, .move (.t 5)⟩,
   ⟨(some 52), none, .bin .neq 34 (.t 51) (.c (.int .i64 0))⟩] (some [0, 3, 4, 5, 52]))
 (.cond (.t 52)
  (.seq (.ops [⟨(some 53), none, .move (.t 5)⟩,
    ⟨(some 2), none, .move (.t 53)⟩] (some [2]))
  .ret)
  .skip))
 (.seq (.opsd [(0, 0, ⟨(some 54), none, .move (.t 0)⟩),
   (1, 1, ⟨(some 55), none, .nilCheck (.t 54)⟩),
   (2, 3, ⟨(some 56), none, .fieldAddr 0 (.t 55)⟩),
   (3, 7, ⟨(some 57), none, .load false 1 (.t 56)⟩),
   (4, 15, ⟨(some 58), none, .nilCheck (.t 57)⟩),
   (5, 31, ⟨(some 59), none, .fieldAddr 0 (.t 58)⟩),
   (6, 63, ⟨(some 60), none, .load false 1 (.t 59)⟩),
   (7, 0, ⟨(some 61), none, .move (.t 0)⟩),
   (8, 128, ⟨(some 62), none, .nilCheck (.t 61)⟩),
   (9, 384, ⟨(some 63), none, .fieldAddr 1 (.t 62)⟩),
   (10, 896, ⟨(some 64), none, .load false 1 (.t 63)⟩),
   (11, 0, ⟨(some 65), none, .fieldAddr 1 (.t 3)⟩),
   (12, 2048, ⟨(some 66), none, .load false 1 (.t 65)⟩),
   (13, 0, ⟨(some 67), none, .move (.t 4)⟩),
   (14, 16383, ⟨(some 68), none, .call (.c (.func (.func 415) #[] #[])) [(.t 60), (.t 64), (.t 66), (.t 67)]⟩),
   (15, 32767, ⟨(some 2), none, .move (.t 68)⟩)] (some [2]))
 .ret))))), [.tmp 2]⟩

theorem is324 : FnIs Tryz.prog 324 x324 := ⟨Tryz.f324, _, Tryz.func324, by kernel_rfl, rfl, by kernel_rfl, by decide, by kernel_rfl⟩

/-- (*cloisonne/extent.World).Flush -/
def x325 : XDecl := .code ⟨2, 
 (.seq (.ops [⟨(some 4), none, .move (.c (.int .i64 0))⟩] (some [0, 1]))
 (.seq (.seq (.ops [⟨(some 8), none, .move (.t 0)⟩,
   ⟨(some 9), none, .move (.t 1)⟩,
   ⟨(some 10), none, .call (.c (.func (.func 406) #[] #[])) [(.t 8), (.t 9), (.c (.int .i64 0))]⟩,
   ⟨(some 5), none, .move (.t 10)⟩] (some [0, 1, 5]))
 (.seq (.ops [⟨(some 11), none, .move (.t 5)⟩,
   ⟨(some 12), none, .bin .neq 34 (.t 11) (.c (.int .i64 0))⟩] (some [0, 1, 5, 12]))
 (.cond (.t 12)
  (.seq (.ops [⟨(some 13), none, .move (.t 5)⟩,
    ⟨(some 4), none, .move (.t 13)⟩] (some [4]))
  .ret)
  .skip)))
 (.seq (.seq (.ops [⟨(some 14), none, .move (.t 0)⟩,
   ⟨(some 15), none, .nilCheck (.t 14)⟩,
   ⟨(some 16), none, .fieldAddr 3 (.t 15)⟩,
   ⟨(some 17), none, .load false 1 (.t 16)⟩,
   ⟨(some 18), none, .move (.t 1)⟩,
   ⟨(some 19), none, .indexAddr 1 (.t 17) (.t 18)⟩,
   ⟨(some 20), none, .load false 1 (.t 19)⟩,
   ⟨(some 21), none, .mapRange (.t 20)⟩] (some [0, 1, 21]))
 (.block 0
  (.loop
   (.seq (.ops [⟨(some 22), none, .mapNext (.t 21)⟩,
     ⟨(some 23), none, .extract (.t 22) 0⟩] (some [0, 1, 21, 23]))
   (.seq (.cond (.t 23)
    .skip
    (.exit 0))
   (.block 1
    (.seq (.ops [⟨(some 24), none, .mapEntry (.t 21)⟩,
      ⟨(some 25), none, .extract (.t 24) 0⟩,
      ⟨(some 26), none, .extract (.t 24) 1⟩,
      ⟨(some 6), none, .move (.t 25)⟩,
      ⟨(some 7), none, .move (.t 26)⟩] (some [0, 1, 6, 7, 21]))
    (.ops [⟨(some 27), none, .move (.t 0)⟩,
      ⟨(some 28), none, .nilCheck (.t 27)⟩,
      ⟨(some 29), none, .fieldAddr 2 (.t 28)⟩,
      ⟨(some 30), none, .load false 1 (.t 29)⟩,
      ⟨(some 31), none, .move (.t 1)⟩,
      ⟨(some 32), none, .indexAddr 1 (.t 30) (.t 31)⟩,
      ⟨(some 33), none, .load false 1 (.t 32)⟩,
      ⟨(some 34), none, .move (.t 6)⟩,
      ⟨(some 35), none, .move (.t 7)⟩,
      ⟨(some 36), none, .indexAddr 1 (.t 33) (.t 34)⟩,
      ⟨none, none, .store 1 (.t 36) (.t 35)⟩] (some [0, 1, 21])))))))))
 (.seq (.ops [⟨(some 37), none, .move (.t 0)⟩,
   ⟨(some 38), none, .nilCheck (.t 37)⟩,
   ⟨(some 39), none, .fieldAddr 3 (.t 38)⟩,
   ⟨(some 40), none, .load false 1 (.t 39)⟩,
   ⟨(some 41), none, .move (.t 1)⟩,
   ⟨(some 42), none, .indexAddr 1 (.t 40) (.t 41)⟩,
   ⟨(some 43), none, .load false 1 (.t 42)⟩,
   ⟨none, none, .mapClear (.t 43)⟩] (some []))
 (.seq (.ops [⟨(some 4), none, .move (.c (.int .i64 0))⟩] (some [4]))
 .ret))))), [.tmp 4]⟩

theorem is325 : FnIs Tryz.prog 325 x325 := ⟨Tryz.f325, _, Tryz.func325, by kernel_rfl, rfl, by kernel_rfl, by decide, by kernel_rfl⟩

/-- (*cloisonne/seglog.Writer).install -/
def x326 : XDecl := .code ⟨1, 
 (.seq (.ops [⟨(some 2), none, .move (.t 0)⟩,
   ⟨(some 3), none, .nilCheck (.t 2)⟩,
   ⟨(some 4), none, .fieldAddr 6 (.t 3)⟩,
   ⟨none, none, .store 1 (.t 4) (.c (.bool true))⟩] (some [0]))
 (.seq (.ops [⟨(some 5), none, .move (.t 0)⟩,
   ⟨(some 6), none, .nilCheck (.t 5)⟩,
   ⟨(some 7), none, .fieldAddr 0 (.t 6)⟩,
   ⟨(some 8), none, .load false 1 (.t 7)⟩,
   ⟨(some 9), none, .nilCheck (.t 8)⟩,
   ⟨(some 10), none, .fieldAddr 6 (.t 9)⟩,
   ⟨none, none, .store 1 (.t 10) (.c (.pointer none))⟩] (some [0]))
 (.opsd [(0, 0, ⟨(some 11), none, .move (.t 0)⟩),
   (1, 1, ⟨(some 12), none, .nilCheck (.t 11)⟩),
   (2, 3, ⟨(some 13), none, .fieldAddr 0 (.t 12)⟩),
   (3, 7, ⟨(some 14), none, .load false 1 (.t 13)⟩),
   (4, 0, ⟨(some 15), none, .move (.t 0)⟩),
   (5, 16, ⟨(some 16), none, .nilCheck (.t 15)⟩),
   (6, 48, ⟨(some 17), none, .fieldAddr 0 (.t 16)⟩),
   (7, 112, ⟨(some 18), none, .load false 1 (.t 17)⟩),
   (8, 0, ⟨(some 19), none, .move (.t 0)⟩),
   (9, 256, ⟨(some 20), none, .nilCheck (.t 19)⟩),
   (10, 768, ⟨(some 21), none, .fieldAddr 0 (.t 20)⟩),
   (11, 1792, ⟨(some 22), none, .load false 1 (.t 21)⟩),
   (12, 0, ⟨(some 23), none, .move (.t 0)⟩),
   (13, 4096, ⟨(some 24), none, .nilCheck (.t 23)⟩),
   (14, 12288, ⟨(some 25), none, .fieldAddr 1 (.t 24)⟩),
   (15, 28672, ⟨(some 26), none, .load false 1 (.t 25)⟩),
   (16, 0, ⟨(some 27), none, .move (.t 0)⟩),
   (17, 65536, ⟨(some 28), none, .nilCheck (.t 27)⟩),
   (18, 196608, ⟨(some 29), none, .fieldAddr 2 (.t 28)⟩),
   (19, 458752, ⟨(some 30), none, .load false 1 (.t 29)⟩),
   (20, 0, ⟨(some 31), none, .move (.t 0)⟩),
   (21, 1048576, ⟨(some 32), none, .nilCheck (.t 31)⟩),
   (22, 3145728, ⟨(some 33), none, .fieldAddr 3 (.t 32)⟩),
   (23, 7340032, ⟨(some 34), none, .load false 1 (.t 33)⟩),
   (24, 0, ⟨(some 35), none, .move (.t 0)⟩),
   (25, 16777216, ⟨(some 36), none, .nilCheck (.t 35)⟩),
   (26, 50331648, ⟨(some 37), none, .fieldAddr 4 (.t 36)⟩),
   (27, 117440512, ⟨(some 38), none, .load false 1 (.t 37)⟩),
   (28, 251658240, ⟨(some 39), none, .len (.t 38)⟩),
   (29, 535822336, ⟨(some 40), none, .bin .add 3 (.t 34) (.t 39)⟩),
   (30, 268435455, ⟨(some 41), none, .nilCheck (.t 14)⟩),
   (31, 1342177279, ⟨(some 42), none, .fieldAddr 2 (.t 41)⟩),
   (32, 3489660927, ⟨none, none, .store 1 (.t 42) (.t 26)⟩),
   (33, 7784628223, ⟨(some 43), none, .nilCheck (.t 18)⟩),
   (34, 16374562815, ⟨(some 44), none, .fieldAddr 3 (.t 43)⟩),
   (35, 33554431999, ⟨none, none, .store 1 (.t 44) (.t 30)⟩),
   (36, 68719476735, ⟨(some 45), none, .nilCheck (.t 22)⟩),
   (37, 137438953471, ⟨(some 46), none, .fieldAddr 4 (.t 45)⟩),
   (38, 274877906943, ⟨none, none, .store 1 (.t 46) (.t 40)⟩)] (some [])))), []⟩

theorem is326 : FnIs Tryz.prog 326 x326 := ⟨Tryz.f326, _, Tryz.func326, by kernel_rfl, rfl, by kernel_rfl, by decide, by kernel_rfl⟩

/-- cloisonne/ring.New -/
def x332 : XDecl := .code ⟨2, 
 (.seq (.ops [⟨(some 4), none, .move (.c (.pointer none))⟩,
   ⟨(some 5), none, .move (.c (.int .i64 0))⟩] (some [0, 1]))
 (.seq (.seq (.ops [⟨(some 6), none, .move (.t 0)⟩,
   ⟨(some 7), none, .bin .lss 3 (.t 6) (.c (.int .i64 1))⟩,
   ⟨(some 8), none, .move (.t 7)⟩,
   ⟨(some 9), (some (8, false)), .move (.t 0)⟩,
   ⟨(some 10), (some (8, false)), .bin .gtr 3 (.t 9) (.c (.int .i64 16))⟩,
   ⟨(some 11), none, .pick (.t 8) (.c (.bool true)) (.t 10)⟩,
   ⟨(some 12), none, .move (.t 11)⟩,
   ⟨(some 13), (some (12, false)), .move (.t 1)⟩,
   ⟨(some 14), (some (12, false)), .bin .lss 3 (.t 13) (.c (.int .i64 0))⟩,
   ⟨(some 15), none, .pick (.t 12) (.c (.bool true)) (.t 14)⟩,
   ⟨(some 16), none, .move (.t 15)⟩,
   ⟨(some 17), (some (16, false)), .move (.t 1)⟩,
   ⟨(some 18), (some (16, false)), .bin .gtr 3 (.t 17) (.c (.int .i64 1073741824))⟩,
   ⟨(some 19), none, .pick (.t 16) (.c (.bool true)) (.t 18)⟩] (some [0, 1, 19]))
 (.cond (.t 19)
  (.seq (.ops [⟨(some 4), none, .move (.c (.pointer none))⟩,
    ⟨(some 5), none, .move (.c (.int .i64 1))⟩] (some [4, 5]))
  .ret)
  .skip))
 (.seq (.ops [⟨(some 20), none, .move (.t 0)⟩,
   ⟨(some 21), none, .move (.t 1)⟩,
   ⟨(some 22), none, .move (.t 1)⟩,
   ⟨(some 23), none, .build [(.int .i64 0), (.int .i64 0), (.int .i64 0), (.slice none 0 0)] [(0, 1), (1, 1), (2, 1), (3, 1)] [(0, (.t 20)), (1, (.t 21)), (2, (.t 22))]⟩,
   ⟨(some 24), none, .box (.t 23)⟩,
   ⟨(some 4), none, .move (.t 24)⟩,
   ⟨(some 5), none, .move (.c (.int .i64 0))⟩] (some [4, 5]))
 .ret))), [.tmp 4, .tmp 5]⟩

theorem is332 : FnIs Tryz.prog 332 x332 := ⟨Tryz.f332, _, Tryz.func332, by kernel_rfl, rfl, by kernel_rfl, by decide, by kernel_rfl⟩

/-- cloisonne/tree.New -/
def x333 : XDecl := .code ⟨0, 
 (.seq (.ops [⟨(some 0), none, .move (.c (.pointer none))⟩] (some []))
 (.seq (.ops [⟨(some 1), none, .build [(.slice none 0 0), (.slice none 0 0), (.int .i64 0), (.int .i64 0)] [(0, 1), (1, 1), (2, 1), (3, 1)] [(2, (.c (.int .i64 (-1))))]⟩,
   ⟨(some 2), none, .box (.t 1)⟩,
   ⟨(some 0), none, .move (.t 2)⟩] (some [0]))
 .ret)), [.tmp 0]⟩

theorem is333 : FnIs Tryz.prog 333 x333 := ⟨Tryz.f333, _, Tryz.func333, by kernel_rfl, rfl, by kernel_rfl, by decide, by kernel_rfl⟩

/-- cloisonne/room.key -/
def x335 : XDecl := .code ⟨1, 
 (.seq (.ops [⟨(some 2), none, .move (.c (.bool false))⟩] (some [0]))
 (.seq (.ops [⟨(some 3), none, .move (.t 0)⟩,
   ⟨(some 4), none, .calcB .len [9] 3 [(.t 3)]⟩,
   ⟨(some 5), none, .call (.c (.func (.func 220) #[] #[])) [(.t 4), (.c (.int .i64 1)), (.c (.int .i64 32))]⟩,
   ⟨(some 2), none, .move (.t 5)⟩] (some [2]))
 .ret)), [.tmp 2]⟩

theorem is335 : FnIs Tryz.prog 335 x335 := ⟨Tryz.f335, _, Tryz.func335, by kernel_rfl, rfl, by kernel_rfl, by decide, by kernel_rfl⟩

/-- (*cloisonne/room.Room).put -/
def x336 : XDecl := .code ⟨3, 
 (.seq (.ops [⟨(some 5), none, .box (.t 2)⟩,
   ⟨(some 6), none, .move (.c (.int .i64 0))⟩] (some [0, 1, 5]))
 (.seq (.opsd [(0, 0, ⟨(some 10), none, .move (.t 0)⟩),
   (1, 0, ⟨(some 11), none, .move (.t 1)⟩),
   (3, 0, ⟨(some 13), none, .load true 5 (.t 5)⟩),
   (2, 3, ⟨(some 12), none, .call (.c (.func (.func 120) #[] #[])) [(.t 10), (.t 11)]⟩),
   (4, 15, ⟨(some 14), none, .call (.c (.func (.func 423) #[] #[])) [(.t 12), (.t 13)]⟩),
   (5, 31, ⟨(some 9), none, .move (.t 14)⟩),
   (6, 63, ⟨(some 15), none, .extract (.t 9) 0⟩),
   (7, 63, ⟨(some 16), none, .extract (.t 9) 1⟩),
   (8, 127, ⟨(some 7), none, .move (.t 15)⟩),
   (9, 511, ⟨(some 8), none, .move (.t 16)⟩)] (some [0, 1, 7, 8]))
 (.seq (.seq (.ops [⟨(some 17), none, .move (.t 8)⟩,
   ⟨(some 18), none, .bin .neq 34 (.t 17) (.c (.int .i64 0))⟩] (some [0, 1, 7, 8, 18]))
 (.cond (.t 18)
  (.seq (.ops [⟨(some 19), none, .move (.t 8)⟩,
    ⟨(some 6), none, .move (.t 19)⟩] (some [6]))
  .ret)
  .skip))
 (.seq (.ops [⟨(some 20), none, .move (.t 0)⟩,
   ⟨(some 21), none, .move (.t 1)⟩,
   ⟨(some 22), none, .move (.t 7)⟩,
   ⟨(some 23), none, .call (.c (.func (.func 123) #[] #[])) [(.t 20), (.t 21), (.t 22)]⟩] (some []))
 (.seq (.ops [⟨(some 6), none, .move (.c (.int .i64 0))⟩] (some [6]))
 .ret))))), [.tmp 6]⟩

theorem is336 : FnIs Tryz.prog 336 x336 := ⟨Tryz.f336, _, Tryz.func336, by kernel_rfl, rfl, by kernel_rfl, by decide, by kernel_rfl⟩

/-- (*cloisonne/ring.Ring).Seq -/
def x338 : XDecl := .code ⟨1, 
 (.seq (.ops [⟨(some 2), none, .move (.c (.int .i64 0))⟩] (some [0]))
 (.seq (.seq (.ops [⟨(some 3), none, .move (.t 0)⟩,
   ⟨(some 4), none, .isNil .ptr false (.t 3)⟩] (some [0, 4]))
 (.cond (.t 4)
  (.seq (.ops [⟨(some 2), none, .move (.c (.int .i64 0))⟩] (some [2]))
  .ret)
  .skip))
 (.seq (.ops [⟨(some 5), none, .move (.t 0)⟩,
   ⟨(some 6), none, .nilCheck (.t 5)⟩,
   ⟨(some 7), none, .fieldAddr 2 (.t 6)⟩,
   ⟨(some 8), none, .load false 1 (.t 7)⟩,
   ⟨(some 2), none, .move (.t 8)⟩] (some [2]))
 .ret))), [.tmp 2]⟩

theorem is338 : FnIs Tryz.prog 338 x338 := ⟨Tryz.f338, _, Tryz.func338, by kernel_rfl, rfl, by kernel_rfl, by decide, by kernel_rfl⟩

/-- cloisonne/room.May -/
def x339 : XDecl := .code ⟨1, 
 (.seq (.ops [⟨(some 2), none, .move (.c (.bool false))⟩] (some [0]))
 (.seq (.seq (.ops [⟨(some 5), none, .move (.t 0)⟩,
   ⟨(some 6), none, .len (.t 5)⟩,
   ⟨(some 7), none, .move (.c (.int .i64 0))⟩] (some [0, 5, 6, 7]))
 (.block 0
  (.loop
   (.seq (.ops [⟨(some 8), none, .bin .lss 3 (.t 7) (.t 6)⟩] (some [0, 5, 6, 7, 8]))
   (.seq (.cond (.t 8)
    .skip
    (.exit 0))
   (.seq (.block 1
    (.seq (.ops [⟨(some 9), none, .move (.t 7)⟩,
      ⟨(some 10), none, .indexAddr 5 (.t 5) (.t 7)⟩,
      ⟨(some 11), none, .load true 5 (.t 10)⟩,
      ⟨(some 4), none, .alloc [(.string .empty), (.bool false), (.bool false), (.string .empty), (.int .u64 0)]⟩,
      ⟨(some 3), none, .move (.t 9)⟩,
      ⟨none, none, .store 5 (.t 4) (.t 11)⟩] (some [0, 3, 4, 5, 6, 7]))
    (.seq (.opsd [(0, 0, ⟨(some 12), none, .fieldAddr 0 (.t 4)⟩),
      (1, 1, ⟨(some 13), none, .load false 1 (.t 12)⟩),
      (2, 3, ⟨(some 14), none, .call (.c (.func (.func 335) #[] #[])) [(.t 13)]⟩),
      (3, 7, ⟨(some 15), none, .un .not (.t 14)⟩),
      (4, 15, ⟨(some 16), none, .move (.t 15)⟩),
      (5, 31, ⟨(some 17), (some (16, false)), .fieldAddr 2 (.t 4)⟩),
      (6, 63, ⟨(some 18), (some (16, false)), .load true 3 (.t 17)⟩),
      (7, 127, ⟨(some 19), (some (16, false)), .call (.c (.func (.func 143) #[] #[])) [(.t 18)]⟩),
      (8, 255, ⟨(some 20), (some (16, false)), .un .not (.t 19)⟩),
      (9, 511, ⟨(some 21), none, .pick (.t 16) (.c (.bool true)) (.t 20)⟩),
      (10, 1023, ⟨(some 22), none, .move (.t 21)⟩),
      (11, 2047, ⟨(some 23), (some (22, false)), .fieldAddr 1 (.t 4)⟩),
      (12, 4095, ⟨(some 24), (some (22, false)), .load false 1 (.t 23)⟩),
      (13, 8191, ⟨(some 25), (some (22, false)), .move (.t 24)⟩),
      (14, 16383, ⟨(some 26), (some (25, true)), .fieldAddr 2 (.t 4)⟩),
      (15, 32767, ⟨(some 27), (some (25, true)), .load true 3 (.t 26)⟩),
      (16, 16383, ⟨(some 28), (some (25, true)), .build [(.bool false), (.string .empty), (.int .u64 0)] [(0, 1), (1, 1), (2, 1)] []⟩),
      (17, 131071, ⟨(some 29), (some (25, true)), .bin .neq 25 (.t 27) (.t 28)⟩),
      (18, 262143, ⟨(some 30), (some (22, false)), .pick (.t 25) (.t 29) (.c (.bool false))⟩),
      (19, 524287, ⟨(some 31), none, .pick (.t 22) (.c (.bool true)) (.t 30)⟩),
      (20, 1048575, ⟨(some 32), none, .move (.t 31)⟩),
      (21, 2097151, ⟨(some 33), (some (32, false)), .move (.t 3)⟩),
      (22, 4194303, ⟨(some 34), (some (32, false)), .bin .gtr 3 (.t 33) (.c (.int .i64 0))⟩),
      (23, 8388607, ⟨(some 35), (some (32, false)), .move (.t 34)⟩),
      (24, 16777215, ⟨(some 36), (some (35, true)), .move (.t 0)⟩),
      (25, 16777215, ⟨(some 37), (some (35, true)), .move (.t 3)⟩),
      (26, 50331647, ⟨(some 38), (some (35, true)), .bin .sub 3 (.t 37) (.c (.int .i64 1))⟩),
      (27, 134217727, ⟨(some 39), (some (35, true)), .indexAddr 5 (.t 36) (.t 38)⟩),
      (28, 268435455, ⟨(some 40), (some (35, true)), .fieldAddr 0 (.t 39)⟩),
      (29, 536870911, ⟨(some 41), (some (35, true)), .load false 1 (.t 40)⟩),
      (30, 16777215, ⟨(some 42), (some (35, true)), .fieldAddr 0 (.t 4)⟩),
      (31, 1090519039, ⟨(some 43), (some (35, true)), .load false 1 (.t 42)⟩),
      (32, 4294967295, ⟨(some 44), (some (35, true)), .bin .geq 9 (.t 41) (.t 43)⟩),
      (33, 8589934591, ⟨(some 45), (some (32, false)), .pick (.t 35) (.t 44) (.c (.bool false))⟩),
      (34, 17179869183, ⟨(some 46), none, .pick (.t 32) (.c (.bool true)) (.t 45)⟩)] (some [0, 5, 6, 7, 46]))
    (.cond (.t 46)
     (.seq (.ops [⟨(some 2), none, .move (.c (.bool false))⟩] (some [2]))
     .ret)
     .skip))))
   (.ops [⟨(some 47), none, .bin .add 3 (.t 7) (.c (.int .i64 1))⟩,
     ⟨(some 7), none, .move (.t 47)⟩] (some [0, 5, 6, 7]))))))))
 (.seq (.ops [⟨(some 48), none, .move (.t 0)⟩,
   ⟨(some 49), none, .len (.t 48)⟩,
   ⟨(some 50), none, .call (.c (.func (.func 220) #[] #[])) [(.t 49), (.c (.int .i64 1)), (.c (.int .i64 16))]⟩,
   ⟨(some 2), none, .move (.t 50)⟩] (some [2]))
 .ret))), [.tmp 2]⟩

theorem is339 : FnIs Tryz.prog 339 x339 := ⟨Tryz.f339, _, Tryz.func339, by kernel_rfl, rfl, by kernel_rfl, by decide, by kernel_rfl⟩

/-- (*cloisonne/room.Room).room -/
def x340 : XDecl := .code ⟨2, 
 (.seq (.ops [⟨(some 4), none, .move (.c (.int .i64 0))⟩] (some [0, 1]))
 (.seq (.seq (.opsd [(0, 0, ⟨(some 8), none, .move (.t 0)⟩),
   (2, 0, ⟨(some 10), none, .move (.t 0)⟩),
   (3, 4, ⟨(some 11), none, .nilCheck (.t 10)⟩),
   (4, 12, ⟨(some 12), none, .fieldAddr 0 (.t 11)⟩),
   (5, 28, ⟨(some 13), none, .fieldAddr 3 (.t 12)⟩),
   (6, 60, ⟨(some 14), none, .load false 1 (.t 13)⟩),
   (1, 1, ⟨(some 9), none, .call (.c (.func (.func 242) #[] #[])) [(.t 8)]⟩),
   (7, 127, ⟨(some 15), none, .bin .geq 3 (.t 9) (.t 14)⟩)] (some [0, 1, 15]))
 (.cond (.t 15)
  (.seq (.ops [⟨(some 4), none, .move (.c (.int .i64 17))⟩] (some [4]))
  .ret)
  .skip))
 (.seq (.ops [⟨(some 16), none, .move (.t 0)⟩,
   ⟨(some 17), none, .nilCheck (.t 16)⟩,
   ⟨(some 18), none, .fieldAddr 8 (.t 17)⟩,
   ⟨(some 19), none, .load false 1 (.t 18)⟩,
   ⟨(some 5), none, .move (.t 19)⟩] (some [0, 1, 5]))
 (.seq (.seq (.ops [⟨(some 20), none, .move (.t 1)⟩,
   ⟨(some 21), none, .len (.t 20)⟩,
   ⟨(some 22), none, .move (.c (.int .i64 0))⟩] (some [0, 5, 20, 21, 22]))
 (.block 0
  (.loop
   (.seq (.ops [⟨(some 23), none, .bin .lss 3 (.t 22) (.t 21)⟩] (some [0, 5, 20, 21, 22, 23]))
   (.seq (.cond (.t 23)
    .skip
    (.exit 0))
   (.seq (.block 1
    (.seq (.ops [⟨(some 24), none, .indexAddr 5 (.t 20) (.t 22)⟩,
      ⟨(some 25), none, .load true 5 (.t 24)⟩,
      ⟨(some 7), none, .alloc [(.string .empty), (.bool false), (.bool false), (.string .empty), (.int .u64 0)]⟩,
      ⟨none, none, .store 5 (.t 7) (.t 25)⟩] (some [0, 5, 7, 20, 21, 22]))
    (.seq (.opsd [(0, 0, ⟨(some 26), none, .move (.t 5)⟩),
      (1, 0, ⟨(some 27), none, .fieldAddr 0 (.t 7)⟩),
      (2, 2, ⟨(some 28), none, .load false 1 (.t 27)⟩),
      (3, 0, ⟨(some 29), none, .move (.t 0)⟩),
      (4, 0, ⟨(some 30), none, .fieldAddr 0 (.t 7)⟩),
      (5, 16, ⟨(some 31), none, .load false 1 (.t 30)⟩),
      (6, 56, ⟨(some 32), none, .call (.c (.func (.func 120) #[] #[])) [(.t 29), (.t 31)]⟩),
      (7, 126, ⟨(some 33), none, .call (.c (.func (.func 197) #[] #[])) [(.t 28), (.t 32)]⟩),
      (8, 255, ⟨(some 34), none, .bin .sub 3 (.t 26) (.t 33)⟩),
      (9, 511, ⟨(some 5), none, .move (.t 34)⟩)] (some [0, 5, 7, 20, 21, 22]))
    (.seq (.ops [⟨(some 35), none, .fieldAddr 1 (.t 7)⟩,
      ⟨(some 36), none, .load false 1 (.t 35)⟩,
      ⟨(some 37), none, .un .not (.t 36)⟩] (some [0, 5, 7, 20, 21, 22, 37]))
    (.cond (.t 37)
     (.opsd [(0, 0, ⟨(some 38), none, .move (.t 5)⟩),
       (1, 0, ⟨(some 39), none, .fieldAddr 0 (.t 7)⟩),
       (2, 2, ⟨(some 40), none, .load false 1 (.t 39)⟩),
       (3, 6, ⟨(some 41), none, .calcB .len [9] 3 [(.t 40)]⟩),
       (4, 0, ⟨(some 42), none, .fieldAddr 2 (.t 7)⟩),
       (5, 16, ⟨(some 43), none, .load true 3 (.t 42)⟩),
       (6, 48, ⟨(some 44), none, .call (.c (.func (.func 381) #[] #[])) [(.t 43)]⟩),
       (7, 126, ⟨(some 45), none, .bin .add 3 (.t 41) (.t 44)⟩),
       (8, 255, ⟨(some 46), none, .bin .add 3 (.t 38) (.t 45)⟩),
       (9, 511, ⟨(some 5), none, .move (.t 46)⟩)] (some [0, 5, 20, 21, 22]))
     .skip)))))
   (.ops [⟨(some 47), none, .bin .add 3 (.t 22) (.c (.int .i64 1))⟩,
     ⟨(some 22), none, .move (.t 47)⟩] (some [0, 5, 20, 21, 22]))))))))
 (.seq (.seq (.ops [⟨(some 48), none, .move (.t 5)⟩,
   ⟨(some 49), none, .move (.t 0)⟩,
   ⟨(some 50), none, .nilCheck (.t 49)⟩,
   ⟨(some 51), none, .fieldAddr 0 (.t 50)⟩,
   ⟨(some 52), none, .fieldAddr 2 (.t 51)⟩,
   ⟨(some 53), none, .load false 1 (.t 52)⟩,
   ⟨(some 54), none, .bin .gtr 3 (.t 48) (.t 53)⟩] (some [54]))
 (.cond (.t 54)
  (.seq (.ops [⟨(some 4), none, .move (.c (.int .i64 15))⟩] (some [4]))
  .ret)
  .skip))
 (.seq (.ops [⟨(some 4), none, .move (.c (.int .i64 0))⟩] (some [4]))
 .ret)))))), [.tmp 4]⟩

theorem is340 : FnIs Tryz.prog 340 x340 := ⟨Tryz.f340, _, Tryz.func340, by kernel_rfl, rfl, by kernel_rfl, by decide, by kernel_rfl⟩

/-- (*cloisonne/ring.Ring).Push -/
def x341 : XDecl := .code ⟨2, 
 (.seq (.ops [⟨(some 4), none, .move (.c (.int .i64 0))⟩,
   ⟨(some 5), none, .move (.c (.int .i64 0))⟩] (some [0, 1]))
 (.seq (.block 0
  (.seq (.ops [⟨(some 8), none, .move (.t 0)⟩,
    ⟨(some 9), none, .isNil .ptr false (.t 8)⟩,
    ⟨(some 7), none, .move (.t 9)⟩] (some [0, 1, 7]))
  (.cond (.t 7)
   (.seq (.ops [⟨(some 4), none, .move (.c (.int .i64 0))⟩,
     ⟨(some 5), none, .move (.c (.int .i64 2))⟩] (some [4, 5]))
   .ret)
   (.seq (.ops [⟨(some 11), none, .move (.t 1)⟩,
     ⟨(some 12), none, .move (.t 0)⟩,
     ⟨(some 13), none, .call (.c (.func (.func 425) #[] #[])) [(.t 12)]⟩,
     ⟨(some 14), none, .bin .leq 23 (.t 11) (.t 13)⟩,
     ⟨(some 10), none, .move (.t 14)⟩] (some [0, 1, 10]))
   (.cond (.t 10)
    (.seq (.ops [⟨(some 4), none, .move (.c (.int .i64 0))⟩,
      ⟨(some 5), none, .move (.c (.int .i64 1))⟩] (some [4, 5]))
    .ret)
    (.seq (.ops [⟨(some 16), none, .move (.t 0)⟩,
      ⟨(some 17), none, .nilCheck (.t 16)⟩,
      ⟨(some 18), none, .fieldAddr 2 (.t 17)⟩,
      ⟨(some 19), none, .load false 1 (.t 18)⟩,
      ⟨(some 20), none, .bin .geq 3 (.t 19) (.c (.int .i64 1073741824))⟩,
      ⟨(some 15), none, .move (.t 20)⟩] (some [0, 1, 15]))
    (.cond (.t 15)
     (.seq (.ops [⟨(some 4), none, .move (.c (.int .i64 0))⟩,
       ⟨(some 5), none, .move (.c (.int .i64 17))⟩] (some [4, 5]))
     .ret)
     .skip)))))))
 (.seq (.ops [⟨(some 21), none, .move (.t 0)⟩,
   ⟨(some 22), none, .nilCheck (.t 21)⟩,
   ⟨(some 23), none, .fieldAddr 2 (.t 22)⟩,
   ⟨(some 24), none, .load false 1 (.t 23)⟩,
   ⟨(some 25), none, .bin .add 3 (.t 24) (.c (.int .i64 1))⟩,
   ⟨(some 26), none, .nilCheck (.t 21)⟩,
   ⟨(some 27), none, .fieldAddr 2 (.t 26)⟩,
   ⟨none, none, .store 1 (.t 27) (.t 25)⟩] (some [0, 1]))
 (.seq (.ops [⟨(some 28), none, .move (.t 0)⟩,
   ⟨(some 29), none, .move (.t 0)⟩,
   ⟨(some 30), none, .nilCheck (.t 29)⟩,
   ⟨(some 31), none, .fieldAddr 3 (.t 30)⟩,
   ⟨(some 32), none, .load false 1 (.t 31)⟩,
   ⟨(some 33), none, .move (.t 1)⟩,
   ⟨(some 34), none, .buildSlice [(.int .u64 0)] 1 1 [(0, (.t 33))]⟩,
   ⟨(some 35), none, .append 1 8 [(.int .u64 0)] (.t 32) (.t 34)⟩,
   ⟨(some 36), none, .nilCheck (.t 28)⟩,
   ⟨(some 37), none, .fieldAddr 3 (.t 36)⟩,
   ⟨none, none, .store 1 (.t 37) (.t 35)⟩] (some [0]))
 (.seq (.seq (.opsr [⟨(some 38), none, .move (.t 0)⟩,
   ⟨(some 39), none, .nilCheck (.t 38)⟩,
   ⟨(some 40), none, .fieldAddr 3 (.t 39)⟩,
   ⟨(some 41), none, .load false 1 (.t 40)⟩,
   ⟨(some 42), none, .len (.t 41)⟩,
   ⟨(some 43), none, .move (.t 0)⟩,
   ⟨(some 44), none, .nilCheck (.t 43)⟩,
   ⟨(some 45), none, .fieldAddr 0 (.t 44)⟩,
   ⟨(some 46), none, .load false 1 (.t 45)⟩,
   ⟨(some 47), none, .bin .sub 3 (.t 42) (.t 46)⟩,
   ⟨(some 6), none, .move (.t 47)⟩] (some [0, 6]))
 (.seq (.ops [⟨(some 48), none, .move (.t 6)⟩,
   ⟨(some 49), none, .bin .gtr 3 (.t 48) (.c (.int .i64 0))⟩] (some [0, 6, 49]))
 (.cond (.t 49)
  (.ops [⟨(some 50), none, .move (.t 0)⟩,
    ⟨(some 51), none, .move (.t 0)⟩,
    ⟨(some 52), none, .nilCheck (.t 51)⟩,
    ⟨(some 53), none, .fieldAddr 3 (.t 52)⟩,
    ⟨(some 54), none, .load false 1 (.t 53)⟩,
    ⟨(some 55), none, .move (.t 6)⟩,
    ⟨(some 56), none, .call (.c (.func (.func 426) #[] #[])) [(.t 54), (.c (.int .i64 0)), (.t 55)]⟩,
    ⟨(some 57), none, .nilCheck (.t 50)⟩,
    ⟨(some 58), none, .fieldAddr 3 (.t 57)⟩,
    ⟨none, none, .store 1 (.t 58) (.t 56)⟩] (some [0]))
  .skip)))
 (.seq (.ops [⟨(some 59), none, .move (.t 0)⟩,
   ⟨(some 60), none, .nilCheck (.t 59)⟩,
   ⟨(some 61), none, .fieldAddr 2 (.t 60)⟩,
   ⟨(some 62), none, .load false 1 (.t 61)⟩,
   ⟨(some 4), none, .move (.t 62)⟩,
   ⟨(some 5), none, .move (.c (.int .i64 0))⟩] (some [4, 5]))
 .ret)))))), [.tmp 4, .tmp 5]⟩

theorem is341 : FnIs Tryz.prog 341 x341 := ⟨Tryz.f341, _, Tryz.func341, by kernel_rfl, rfl, by kernel_rfl, by decide, by kernel_rfl⟩

/-- (*cloisonne/caps.Table).Clear -/
def x343 : XDecl := .code ⟨4, 
 (.seq (.ops [⟨(some 6), none, .box (.t 2)⟩,
   ⟨(some 8), none, .move (.c (.bool false))⟩] (some [0, 1, 3, 6]))
 (.seq (.seq (.ops [⟨(some 10), none, .move (.t 0)⟩,
   ⟨(some 11), none, .move (.t 1)⟩,
   ⟨(some 12), none, .call (.c (.func (.func 349) #[] #[])) [(.t 10), (.t 11)]⟩,
   ⟨(some 13), none, .un .not (.t 12)⟩] (some [0, 1, 3, 6, 13]))
 (.cond (.t 13)
  (.seq (.ops [⟨(some 8), none, .move (.c (.bool false))⟩] (some [8]))
  .ret)
  .skip))
 (.seq (.ops [⟨(some 14), none, .move (.t 0)⟩,
   ⟨(some 15), none, .nilCheck (.t 14)⟩,
   ⟨(some 16), none, .fieldAddr 1 (.t 15)⟩,
   ⟨(some 17), none, .load false 1 (.t 16)⟩,
   ⟨(some 18), none, .move (.t 1)⟩,
   ⟨(some 19), none, .indexAddr 2 (.t 17) (.t 18)⟩,
   ⟨(some 20), none, .fieldAddr 0 (.t 19)⟩,
   ⟨(some 21), none, .load false 1 (.t 20)⟩,
   ⟨(some 9), none, .alloc [(.int .u64 0)]⟩,
   ⟨none, none, .store 1 (.t 9) (.t 21)⟩] (some [3, 6, 9]))
 (.seq (.ops [⟨(some 22), none, .move (.t 3)⟩,
   ⟨(some 23), none, .makeFunc (.func 427) [] [(.t 9), (.t 6)]⟩,
   ⟨(some 24), none, .call (.c (.func (.func 344) #[] #[])) [(.t 22), (.t 23)]⟩,
   ⟨(some 25), none, .un .not (.t 24)⟩,
   ⟨(some 8), none, .move (.t 25)⟩] (some [8]))
 .ret)))), [.tmp 8]⟩

theorem is343 : FnIs Tryz.prog 343 x343 := ⟨Tryz.f343, _, Tryz.func343, by kernel_rfl, rfl, by kernel_rfl, by decide, by kernel_rfl⟩

/-- slices.ContainsFunc[[]uint64,uint64] -/
def x344 : XDecl := .code ⟨2, 
 (.seq (.ops [⟨(some 4), none, .move (.c (.bool false))⟩] (some [0, 1]))
 (.seq (.ops [⟨(some 5), none, .move (.t 0)⟩,
   ⟨(some 6), none, .move (.t 1)⟩,
   ⟨(some 7), none, .call (.c (.func (.func 428) #[] #[])) [(.t 5), (.t 6)]⟩,
   ⟨(some 8), none, .bin .geq 3 (.t 7) (.c (.int .i64 0))⟩,
   ⟨(some 4), none, .move (.t 8)⟩] (some [4]))
 .ret)), [.tmp 4]⟩

theorem is344 : FnIs Tryz.prog 344 x344 := ⟨Tryz.f344, _, Tryz.func344, by kernel_rfl, rfl, by kernel_rfl, by decide, by kernel_rfl⟩

/-- (*cloisonne/caps.Table).one -/
def x349 : XDecl := .code ⟨2, 
 (.seq (.ops [⟨(some 4), none, .move (.c (.bool false))⟩] (some [0, 1]))
 (.seq (.ops [⟨(some 5), none, .move (.t 0)⟩,
   ⟨(some 6), none, .isNil .ptr true (.t 5)⟩,
   ⟨(some 7), none, .move (.t 6)⟩,
   ⟨(some 8), (some (7, true)), .move (.t 1)⟩,
   ⟨(some 9), (some (7, true)), .bin .geq 3 (.t 8) (.c (.int .i64 0))⟩,
   ⟨(some 10), none, .pick (.t 7) (.t 9) (.c (.bool false))⟩,
   ⟨(some 11), none, .move (.t 10)⟩,
   ⟨(some 12), (some (11, true)), .move (.t 1)⟩,
   ⟨(some 13), (some (11, true)), .move (.t 0)⟩,
   ⟨(some 14), (some (11, true)), .nilCheck (.t 13)⟩,
   ⟨(some 15), (some (11, true)), .fieldAddr 1 (.t 14)⟩,
   ⟨(some 16), (some (11, true)), .load false 1 (.t 15)⟩,
   ⟨(some 17), (some (11, true)), .len (.t 16)⟩,
   ⟨(some 18), (some (11, true)), .bin .lss 3 (.t 12) (.t 17)⟩,
   ⟨(some 19), none, .pick (.t 11) (.t 18) (.c (.bool false))⟩,
   ⟨(some 4), none, .move (.t 19)⟩] (some [4]))
 .ret)), [.tmp 4]⟩

theorem is349 : FnIs Tryz.prog 349 x349 := ⟨Tryz.f349, _, Tryz.func349, by kernel_rfl, rfl, by kernel_rfl, by decide, by kernel_rfl⟩

/-- (*cloisonne/ring.Ring).AsOf -/
def x352 : XDecl := .code ⟨2, 
 (.seq (.ops [⟨(some 4), none, .move (.c (.int .i64 0))⟩,
   ⟨(some 5), none, .move (.c (.int .i64 0))⟩] (some [0, 1]))
 (.seq (.seq (.ops [⟨(some 9), none, .move (.t 0)⟩,
   ⟨(some 10), none, .isNil .ptr false (.t 9)⟩] (some [0, 1, 10]))
 (.cond (.t 10)
  (.seq (.ops [⟨(some 4), none, .move (.c (.int .i64 0))⟩,
    ⟨(some 5), none, .move (.c (.int .i64 2))⟩] (some [4, 5]))
  .ret)
  .skip))
 (.seq (.ops [⟨(some 12), none, .move (.t 0)⟩,
   ⟨(some 13), none, .nilCheck (.t 12)⟩,
   ⟨(some 14), none, .fieldAddr 3 (.t 13)⟩,
   ⟨(some 15), none, .load false 1 (.t 14)⟩,
   ⟨(some 16), none, .move (.t 1)⟩,
   ⟨(some 17), none, .call (.c (.func (.func 435) #[] #[])) [(.t 15), (.t 16)]⟩,
   ⟨(some 11), none, .move (.t 17)⟩,
   ⟨(some 18), none, .extract (.t 11) 0⟩,
   ⟨(some 19), none, .extract (.t 11) 1⟩,
   ⟨(some 6), none, .move (.t 18)⟩,
   ⟨(some 7), none, .move (.t 19)⟩] (some [0, 6, 7]))
 (.seq (.seq (.ops [⟨(some 20), none, .move (.t 7)⟩] (some [0, 6, 20]))
 (.cond (.t 20)
  (.ops [⟨(some 21), none, .move (.t 6)⟩,
    ⟨(some 22), none, .bin .add 3 (.t 21) (.c (.int .i64 1))⟩,
    ⟨(some 6), none, .move (.t 22)⟩] (some [0, 6]))
  .skip))
 (.seq (.opsr [⟨(some 23), none, .move (.t 0)⟩,
   ⟨(some 24), none, .nilCheck (.t 23)⟩,
   ⟨(some 25), none, .fieldAddr 2 (.t 24)⟩,
   ⟨(some 26), none, .load false 1 (.t 25)⟩,
   ⟨(some 27), none, .move (.t 0)⟩,
   ⟨(some 28), none, .nilCheck (.t 27)⟩,
   ⟨(some 29), none, .fieldAddr 3 (.t 28)⟩,
   ⟨(some 30), none, .load false 1 (.t 29)⟩,
   ⟨(some 31), none, .len (.t 30)⟩,
   ⟨(some 32), none, .bin .sub 3 (.t 26) (.t 31)⟩,
   ⟨(some 33), none, .move (.t 6)⟩,
   ⟨(some 34), none, .bin .add 3 (.t 32) (.t 33)⟩,
   ⟨(some 8), none, .move (.t 34)⟩] (some [0, 8]))
 (.seq (.seq (.ops [⟨(some 35), none, .move (.t 8)⟩,
   ⟨(some 36), none, .move (.t 0)⟩,
   ⟨(some 37), none, .call (.c (.func (.func 196) #[] #[])) [(.t 36)]⟩,
   ⟨(some 38), none, .bin .lss 3 (.t 35) (.t 37)⟩] (some [8, 38]))
 (.cond (.t 38)
  (.seq (.ops [⟨(some 4), none, .move (.c (.int .i64 0))⟩,
    ⟨(some 5), none, .move (.c (.int .i64 14))⟩] (some [4, 5]))
  .ret)
  .skip))
 (.seq (.ops [⟨(some 39), none, .move (.t 8)⟩,
   ⟨(some 4), none, .move (.t 39)⟩,
   ⟨(some 5), none, .move (.c (.int .i64 0))⟩] (some [4, 5]))
 .ret))))))), [.tmp 4, .tmp 5]⟩

theorem is352 : FnIs Tryz.prog 352 x352 := ⟨Tryz.f352, _, Tryz.func352, by kernel_rfl, rfl, by kernel_rfl, by decide, by kernel_rfl⟩

/-- (*cloisonne/sess.Session).labelOf -/
def x358 : XDecl := .code ⟨2, 
 (.seq (.ops [⟨(some 4), none, .move (.c (.slice none 0 0))⟩,
   ⟨(some 5), none, .move (.c (.bool false))⟩] (some [0, 1]))
 (.seq (.ops [⟨(some 7), none, .move (.t 0)⟩,
   ⟨(some 8), none, .nilCheck (.t 7)⟩,
   ⟨(some 9), none, .fieldAddr 0 (.t 8)⟩,
   ⟨(some 10), none, .load false 1 (.t 9)⟩,
   ⟨(some 11), none, .move (.t 1)⟩,
   ⟨(some 12), none, .call (.c (.func (.func 65) #[] #[])) [(.t 10), (.t 11)]⟩,
   ⟨(some 6), none, .move (.t 12)⟩] (some [6]))
 (.seq (.ops [⟨(some 13), none, .move (.t 6)⟩,
   ⟨(some 14), none, .call (.c (.func (.func 308) #[] #[])) [(.t 13)]⟩,
   ⟨(some 15), none, .field false 0 1 (.t 14)⟩,
   ⟨(some 16), none, .move (.t 6)⟩,
   ⟨(some 17), none, .isNil .ptr true (.t 16)⟩,
   ⟨(some 4), none, .move (.t 15)⟩,
   ⟨(some 5), none, .move (.t 17)⟩] (some [4, 5]))
 .ret))), [.tmp 4, .tmp 5]⟩

theorem is358 : FnIs Tryz.prog 358 x358 := ⟨Tryz.f358, _, Tryz.func358, by kernel_rfl, rfl, by kernel_rfl, by decide, by kernel_rfl⟩

/-- (*cloisonne/wset.Set).Get -/
def x359 : XDecl := .code ⟨2, 
 (.seq (.ops [⟨(some 4), none, .alloc [(.string .empty), (.bool false), (.bool false), (.string .empty), (.int .u64 0)]⟩,
   ⟨(some 5), none, .move (.c (.bool false))⟩] (some [0, 1, 4]))
 (.seq (.seq (.ops [⟨(some 8), none, .move (.t 0)⟩,
   ⟨(some 9), none, .isNil .ptr false (.t 8)⟩] (some [0, 1, 4, 9]))
 (.cond (.t 9)
  (.seq (.ops [⟨(some 10), none, .build [(.string .empty), (.bool false), (.bool false), (.string .empty), (.int .u64 0)] [(0, 1), (1, 1), (2, 3)] []⟩,
    ⟨none, none, .store 5 (.t 4) (.t 10)⟩,
    ⟨(some 5), none, .move (.c (.bool false))⟩] (some [4, 5]))
  .ret)
  .skip))
 (.seq (.ops [⟨(some 12), none, .move (.t 0)⟩,
   ⟨(some 13), none, .move (.t 1)⟩,
   ⟨(some 14), none, .call (.c (.func (.func 440) #[] #[])) [(.t 12), (.t 13)]⟩,
   ⟨(some 11), none, .move (.t 14)⟩,
   ⟨(some 15), none, .extract (.t 11) 0⟩,
   ⟨(some 16), none, .extract (.t 11) 1⟩,
   ⟨(some 6), none, .move (.t 15)⟩,
   ⟨(some 7), none, .move (.t 16)⟩] (some [0, 4, 6, 7]))
 (.seq (.seq (.ops [⟨(some 17), none, .move (.t 7)⟩,
   ⟨(some 18), none, .un .not (.t 17)⟩] (some [0, 4, 6, 18]))
 (.cond (.t 18)
  (.seq (.ops [⟨(some 19), none, .build [(.string .empty), (.bool false), (.bool false), (.string .empty), (.int .u64 0)] [(0, 1), (1, 1), (2, 3)] []⟩,
    ⟨none, none, .store 5 (.t 4) (.t 19)⟩,
    ⟨(some 5), none, .move (.c (.bool false))⟩] (some [4, 5]))
  .ret)
  .skip))
 (.seq (.ops [⟨(some 20), none, .move (.t 0)⟩,
   ⟨(some 21), none, .nilCheck (.t 20)⟩,
   ⟨(some 22), none, .fieldAddr 0 (.t 21)⟩,
   ⟨(some 23), none, .load false 1 (.t 22)⟩,
   ⟨(some 24), none, .move (.t 6)⟩,
   ⟨(some 25), none, .indexAddr 5 (.t 23) (.t 24)⟩,
   ⟨(some 26), none, .load true 5 (.t 25)⟩,
   ⟨none, none, .store 5 (.t 4) (.t 26)⟩,
   ⟨(some 5), none, .move (.c (.bool true))⟩] (some [4, 5]))
 .ret))))), [.cell true 5 4, .tmp 5]⟩

theorem is359 : FnIs Tryz.prog 359 x359 := ⟨Tryz.f359, _, Tryz.func359, by kernel_rfl, rfl, by kernel_rfl, by decide, by kernel_rfl⟩

/-- (*cloisonne/wset.Set).write -/
def x361 : XDecl := .code ⟨2, 
 (.seq (.ops [⟨(some 3), none, .box (.t 1)⟩,
   ⟨(some 4), none, .move (.c (.int .i64 0))⟩] (some [0, 3]))
 (.seq (.seq (.ops [⟨(some 7), none, .move (.t 0)⟩,
   ⟨(some 8), none, .isNil .ptr false (.t 7)⟩] (some [0, 3, 8]))
 (.cond (.t 8)
  (.seq (.ops [⟨(some 4), none, .move (.c (.int .i64 2))⟩] (some [4]))
  .ret)
  .skip))
 (.seq (.seq (.ops [⟨(some 9), none, .fieldAddr 0 (.t 3)⟩,
   ⟨(some 10), none, .load false 1 (.t 9)⟩,
   ⟨(some 11), none, .bin .eql 9 (.t 10) (.c (.string .empty))⟩,
   ⟨(some 12), none, .move (.t 11)⟩,
   ⟨(some 13), (some (12, false)), .fieldAddr 0 (.t 3)⟩,
   ⟨(some 14), (some (12, false)), .load false 1 (.t 13)⟩,
   ⟨(some 15), (some (12, false)), .calcB .len [9] 3 [(.t 14)]⟩,
   ⟨(some 16), (some (12, false)), .bin .gtr 3 (.t 15) (.c (.int .i64 32))⟩,
   ⟨(some 17), none, .pick (.t 12) (.c (.bool true)) (.t 16)⟩,
   ⟨(some 18), none, .move (.t 17)⟩,
   ⟨(some 19), (some (18, false)), .fieldAddr 2 (.t 3)⟩,
   ⟨(some 20), (some (18, false)), .load true 3 (.t 19)⟩,
   ⟨(some 21), (some (18, false)), .call (.c (.func (.func 143) #[] #[])) [(.t 20)]⟩,
   ⟨(some 22), (some (18, false)), .un .not (.t 21)⟩,
   ⟨(some 23), none, .pick (.t 18) (.c (.bool true)) (.t 22)⟩] (some [0, 3, 23]))
 (.cond (.t 23)
  (.seq (.ops [⟨(some 4), none, .move (.c (.int .i64 1))⟩] (some [4]))
  .ret)
  .skip))
 (.seq (.ops [⟨(some 25), none, .move (.t 0)⟩,
   ⟨(some 26), none, .fieldAddr 0 (.t 3)⟩,
   ⟨(some 27), none, .load false 1 (.t 26)⟩,
   ⟨(some 28), none, .call (.c (.func (.func 359) #[] #[])) [(.t 25), (.t 27)]⟩,
   ⟨(some 24), none, .move (.t 28)⟩,
   ⟨(some 29), none, .extract (.t 24) 0⟩,
   ⟨(some 30), none, .extract (.t 24) 1⟩,
   ⟨(some 5), none, .alloc [(.string .empty), (.bool false), (.bool false), (.string .empty), (.int .u64 0)]⟩,
   ⟨none, none, .store 5 (.t 5) (.t 29)⟩,
   ⟨(some 6), none, .move (.t 30)⟩] (some [0, 3, 5, 6]))
 (.seq (.seq (.ops [⟨(some 31), none, .move (.t 6)⟩,
   ⟨(some 32), none, .un .not (.t 31)⟩,
   ⟨(some 33), none, .move (.t 32)⟩,
   ⟨(some 34), (some (33, true)), .move (.t 0)⟩,
   ⟨(some 35), (some (33, true)), .nilCheck (.t 34)⟩,
   ⟨(some 36), (some (33, true)), .fieldAddr 0 (.t 35)⟩,
   ⟨(some 37), (some (33, true)), .load false 1 (.t 36)⟩,
   ⟨(some 38), (some (33, true)), .len (.t 37)⟩,
   ⟨(some 39), (some (33, true)), .bin .geq 3 (.t 38) (.c (.int .i64 16))⟩,
   ⟨(some 40), none, .pick (.t 33) (.t 39) (.c (.bool false))⟩] (some [0, 3, 5, 6, 40]))
 (.cond (.t 40)
  (.seq (.ops [⟨(some 4), none, .move (.c (.int .i64 18))⟩] (some [4]))
  .ret)
  .skip))
 (.seq (.seq (.ops [⟨(some 41), none, .move (.t 0)⟩,
   ⟨(some 42), none, .nilCheck (.t 41)⟩,
   ⟨(some 43), none, .fieldAddr 2 (.t 42)⟩,
   ⟨(some 44), none, .load false 1 (.t 43)⟩,
   ⟨(some 45), none, .len (.t 44)⟩,
   ⟨(some 46), none, .bin .gtr 3 (.t 45) (.c (.int .i64 0))⟩] (some [0, 3, 5, 6, 46]))
 (.cond (.t 46)
  (.opsd [(0, 0, ⟨(some 47), none, .move (.t 0)⟩),
    (1, 0, ⟨(some 48), none, .move (.t 0)⟩),
    (2, 2, ⟨(some 49), none, .nilCheck (.t 48)⟩),
    (3, 6, ⟨(some 50), none, .fieldAddr 1 (.t 49)⟩),
    (4, 14, ⟨(some 51), none, .load false 1 (.t 50)⟩),
    (5, 0, ⟨(some 52), none, .fieldAddr 0 (.t 3)⟩),
    (6, 32, ⟨(some 53), none, .load false 1 (.t 52)⟩),
    (7, 0, ⟨(some 54), none, .load true 5 (.t 5)⟩),
    (8, 0, ⟨(some 55), none, .move (.t 6)⟩),
    (9, 480, ⟨(some 56), none, .build [(.string .empty), (.string .empty), (.bool false), (.bool false), (.string .empty), (.int .u64 0), (.bool false)] [(0, 1), (1, 5), (6, 1)] [(0, (.t 53)), (1, (.t 54)), (2, (.t 55))]⟩),
    (10, 992, ⟨(some 57), none, .buildSlice [(.string .empty), (.string .empty), (.bool false), (.bool false), (.string .empty), (.int .u64 0), (.bool false)] 7 1 [(0, (.t 56))]⟩),
    (11, 2046, ⟨(some 58), none, .append 7 80 [(.string .empty), (.string .empty), (.bool false), (.bool false), (.string .empty), (.int .u64 0), (.bool false)] (.t 51) (.t 57)⟩),
    (12, 4095, ⟨(some 59), none, .nilCheck (.t 47)⟩),
    (13, 8191, ⟨(some 60), none, .fieldAddr 1 (.t 59)⟩),
    (14, 16383, ⟨none, none, .store 1 (.t 60) (.t 58)⟩)] (some [0, 3]))
  .skip))
 (.seq (.ops [⟨(some 61), none, .move (.t 0)⟩,
   ⟨(some 62), none, .load true 5 (.t 3)⟩,
   ⟨(some 63), none, .call (.c (.func (.func 363) #[] #[])) [(.t 61), (.t 62), (.c (.bool true))]⟩] (some []))
 (.seq (.ops [⟨(some 4), none, .move (.c (.int .i64 0))⟩] (some [4]))
 .ret)))))))), [.tmp 4]⟩

theorem is361 : FnIs Tryz.prog 361 x361 := ⟨Tryz.f361, _, Tryz.func361, by kernel_rfl, rfl, by kernel_rfl, by decide, by kernel_rfl⟩


end Go.Proofs.YtlhinicapcdikaaGreatDoor.X
