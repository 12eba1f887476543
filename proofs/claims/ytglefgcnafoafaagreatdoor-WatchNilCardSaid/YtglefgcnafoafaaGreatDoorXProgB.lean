/-
  Own work, printed by a program of ours (mkprog.py): the functions of this seat as code of the abstract run, and that each is the model's.
-/
import Derived.Test.YtglefgcnafoafaaGreatDoorXLaw
import Derived.Test.YtglefgcnafoafaaGreatDoorChecked
set_option maxRecDepth 100000
namespace Go.Proofs.YtglefgcnafoafaaGreatDoor.X
open Go

/-- cloisonne/ask.fields -/
def x79 : XDecl := .code ⟨1, 
 (.seq (.ops [⟨(some 2), none, .move (.c (.slice none 0 0))⟩] (some [0]))
 (.seq (.seq (.ops [⟨(some 3), none, .move (.t 0)⟩] (some [3]))
 (.block 0
  (.seq (.ops [⟨(some 5), none, .bin .eql 3 (.t 3) (.c (.int .i64 1))⟩,
    ⟨(some 4), none, .move (.t 5)⟩] (some [3, 4]))
  (.cond (.t 4)
   (.seq (.ops [⟨(some 6), none, .buildSlice [(.int .i64 0)] 1 1 [(0, (.c (.int .i64 0)))]⟩,
     ⟨(some 2), none, .move (.t 6)⟩] (some [2]))
   .ret)
   (.seq (.ops [⟨(some 8), none, .bin .eql 3 (.t 3) (.c (.int .i64 3))⟩,
     ⟨(some 7), none, .move (.t 8)⟩] (some [3, 7]))
   (.cond (.t 7)
    (.seq (.ops [⟨(some 9), none, .buildSlice [(.int .i64 0)] 1 1 [(0, (.c (.int .i64 1)))]⟩,
      ⟨(some 2), none, .move (.t 9)⟩] (some [2]))
    .ret)
    (.seq (.ops [⟨(some 11), none, .bin .eql 3 (.t 3) (.c (.int .i64 4))⟩,
      ⟨(some 10), none, .move (.t 11)⟩] (some [3, 10]))
    (.cond (.t 10)
     (.seq (.ops [⟨(some 12), none, .buildSlice [(.int .i64 0)] 1 1 [(0, (.c (.int .i64 2)))]⟩,
       ⟨(some 2), none, .move (.t 12)⟩] (some [2]))
     .ret)
     (.seq (.ops [⟨(some 14), none, .bin .eql 3 (.t 3) (.c (.int .i64 6))⟩,
       ⟨(some 13), none, .move (.t 14)⟩] (some [3, 13]))
     (.cond (.t 13)
      (.seq (.ops [⟨(some 15), none, .buildSlice [(.int .i64 0)] 1 3 [(0, (.c (.int .i64 0))), (1, (.c (.int .i64 2))), (2, (.c (.int .i64 3)))]⟩,
        ⟨(some 2), none, .move (.t 15)⟩] (some [2]))
      .ret)
      (.seq (.seq (.ops [⟨(some 17), none, .bin .eql 3 (.t 3) (.c (.int .i64 8))⟩,
        ⟨(some 16), none, .move (.t 17)⟩] (some [3, 16]))
      (.cond (.t 16)
       .skip
       (.ops [⟨(some 18), none, .bin .eql 3 (.t 3) (.c (.int .i64 10))⟩,
         ⟨(some 16), none, .move (.t 18)⟩] (some [3, 16]))))
      (.cond (.t 16)
       (.seq (.ops [⟨(some 19), none, .buildSlice [(.int .i64 0)] 1 2 [(0, (.c (.int .i64 4))), (1, (.c (.int .i64 5)))]⟩,
         ⟨(some 2), none, .move (.t 19)⟩] (some [2]))
       .ret)
       (.seq (.ops [⟨(some 21), none, .bin .eql 3 (.t 3) (.c (.int .i64 9))⟩,
         ⟨(some 20), none, .move (.t 21)⟩] (some [3, 20]))
       (.cond (.t 20)
        (.seq (.ops [⟨(some 22), none, .buildSlice [(.int .i64 0)] 1 3 [(0, (.c (.int .i64 4))), (1, (.c (.int .i64 5))), (2, (.c (.int .i64 6)))]⟩,
          ⟨(some 2), none, .move (.t 22)⟩] (some [2]))
        .ret)
        (.seq (.seq (.ops [⟨(some 24), none, .bin .eql 3 (.t 3) (.c (.int .i64 11))⟩,
          ⟨(some 23), none, .move (.t 24)⟩] (some [3, 23]))
        (.cond (.t 23)
         .skip
         (.ops [⟨(some 25), none, .bin .eql 3 (.t 3) (.c (.int .i64 17))⟩,
           ⟨(some 23), none, .move (.t 25)⟩] (some [3, 23]))))
        (.cond (.t 23)
         (.seq (.ops [⟨(some 26), none, .buildSlice [(.int .i64 0)] 1 2 [(0, (.c (.int .i64 1))), (1, (.c (.int .i64 7)))]⟩,
           ⟨(some 2), none, .move (.t 26)⟩] (some [2]))
         .ret)
         (.seq (.ops [⟨(some 28), none, .bin .eql 3 (.t 3) (.c (.int .i64 13))⟩,
           ⟨(some 27), none, .move (.t 28)⟩] (some [3, 27]))
         (.cond (.t 27)
          (.seq (.ops [⟨(some 29), none, .buildSlice [(.int .i64 0)] 1 1 [(0, (.c (.int .i64 8)))]⟩,
            ⟨(some 2), none, .move (.t 29)⟩] (some [2]))
          .ret)
          (.seq (.ops [⟨(some 31), none, .bin .eql 3 (.t 3) (.c (.int .i64 16))⟩,
            ⟨(some 30), none, .move (.t 31)⟩] (some [30]))
          (.cond (.t 30)
           (.seq (.ops [⟨(some 32), none, .buildSlice [(.int .i64 0)] 1 3 [(0, (.c (.int .i64 4))), (1, (.c (.int .i64 5))), (2, (.c (.int .i64 9)))]⟩,
             ⟨(some 2), none, .move (.t 32)⟩] (some [2]))
           .ret)
           .skip))))))))))))))))))))
 (.seq (.ops [⟨(some 2), none, .move (.c (.slice none 0 0))⟩] (some [2]))
 .ret))), [.tmp 2]⟩

theorem is79 : FnIs Tryz.prog 79 x79 := ⟨Tryz.f79, _, Tryz.func79, by kernel_rfl, rfl, by kernel_rfl, by decide, by kernel_rfl⟩

/-- cloisonne/ask.Unpack -/
def x82 : XDecl := .code ⟨1, 
 (.seq (.ops [⟨(some 2), none, .alloc [(.int .i64 0), (.int .i64 0), (.slice none 0 0), (.int .u64 0), (.bool false), (.int .i64 0), (.string .empty), (.bool false), (.string .empty), (.int .u64 0), (.string .empty), (.string .empty), (.int .i64 0), (.int .i64 0), (.slice none 0 0)]⟩,
   ⟨(some 3), none, .move (.c (.int .i64 0))⟩] (some [0, 2]))
 (.seq (.ops [⟨(some 7), none, .move (.t 0)⟩,
   ⟨(some 8), none, .call (.c (.func (.func 135) #[] #[])) [(.t 7)]⟩,
   ⟨(some 6), none, .move (.t 8)⟩,
   ⟨(some 9), none, .extract (.t 6) 0⟩,
   ⟨(some 10), none, .extract (.t 6) 1⟩,
   ⟨(some 4), none, .alloc [(.int .i64 0), (.int .i64 0), (.slice none 0 0), (.int .u64 0), (.bool false), (.int .i64 0), (.string .empty), (.bool false), (.string .empty), (.int .u64 0), (.string .empty), (.string .empty), (.int .i64 0), (.int .i64 0), (.slice none 0 0)]⟩,
   ⟨none, none, .store 15 (.t 4) (.t 9)⟩,
   ⟨(some 5), none, .move (.t 10)⟩] (some [2, 4, 5]))
 (.seq (.seq (.ops [⟨(some 11), none, .move (.t 5)⟩,
   ⟨(some 12), none, .bin .neq 32 (.t 11) (.c (.int .i64 0))⟩] (some [2, 4, 5, 12]))
 (.cond (.t 12)
  (.seq (.ops [⟨(some 13), none, .build [(.int .i64 0), (.int .i64 0), (.slice none 0 0), (.int .u64 0), (.bool false), (.int .i64 0), (.string .empty), (.bool false), (.string .empty), (.int .u64 0), (.string .empty), (.string .empty), (.int .i64 0), (.int .i64 0), (.slice none 0 0)] [(0, 1), (1, 1), (2, 1), (3, 1), (4, 1), (5, 1), (6, 1), (7, 3), (10, 3), (13, 1), (14, 1)] []⟩,
    ⟨(some 14), none, .move (.t 5)⟩,
    ⟨none, none, .store 15 (.t 2) (.t 13)⟩,
    ⟨(some 3), none, .move (.t 14)⟩] (some [2, 3]))
  .ret)
  .skip))
 (.seq (.ops [⟨(some 15), none, .load true 15 (.t 4)⟩,
   ⟨none, none, .store 15 (.t 2) (.t 15)⟩,
   ⟨(some 3), none, .move (.c (.int .i64 0))⟩] (some [2, 3]))
 .ret)))), [.cell true 15 2, .tmp 3]⟩

theorem is82 : FnIs Tryz.prog 82 x82 := ⟨Tryz.f82, _, Tryz.func82, by kernel_rfl, rfl, by kernel_rfl, by decide, by kernel_rfl⟩

/-- (*cloisonne/sess.Session).Ask -/
def x83 : XDecl := .code ⟨2, 
 (.seq (.ops [⟨(some 3), none, .box (.t 1)⟩,
   ⟨(some 4), none, .move (.c (.int .i64 0))⟩] (some [0, 3]))
 (.seq (.block 0
  (.seq (.ops [⟨(some 6), none, .move (.t 0)⟩,
    ⟨(some 7), none, .isNil .ptr false (.t 6)⟩,
    ⟨(some 5), none, .move (.t 7)⟩] (some [0, 3, 5]))
  (.cond (.t 5)
   (.seq (.ops [⟨(some 4), none, .move (.c (.int .i64 2))⟩] (some [4]))
   .ret)
   (.seq (.ops [⟨(some 9), none, .load true 15 (.t 3)⟩,
     ⟨(some 10), none, .call (.c (.func (.func 76) #[] #[])) [(.t 9)]⟩,
     ⟨(some 11), none, .un .not (.t 10)⟩,
     ⟨(some 8), none, .move (.t 11)⟩] (some [0, 3, 8]))
   (.cond (.t 8)
    (.seq (.ops [⟨(some 4), none, .move (.c (.int .i64 1))⟩] (some [4]))
    .ret)
    (.seq (.ops [⟨(some 13), none, .move (.t 0)⟩,
      ⟨(some 14), none, .nilCheck (.t 13)⟩,
      ⟨(some 15), none, .fieldAddr 7 (.t 14)⟩,
      ⟨(some 16), none, .load false 1 (.t 15)⟩,
      ⟨(some 17), none, .isNil .ptr true (.t 16)⟩,
      ⟨(some 12), none, .move (.t 17)⟩] (some [0, 3, 12]))
    (.cond (.t 12)
     (.seq (.ops [⟨(some 4), none, .move (.c (.int .i64 9))⟩] (some [4]))
     .ret)
     .skip)))))))
 (.seq (.opsd [(0, 0, ⟨(some 18), none, .fieldAddr 2 (.t 3)⟩),
   (1, 1, ⟨(some 19), none, .load false 1 (.t 18)⟩),
   (3, 0, ⟨(some 21), none, .fieldAddr 14 (.t 3)⟩),
   (4, 8, ⟨(some 22), none, .load false 1 (.t 21)⟩),
   (2, 3, ⟨(some 20), none, .call (.c (.func (.func 136) #[] #[])) [(.t 19)]⟩),
   (6, 31, ⟨(some 24), none, .fieldAddr 2 (.t 3)⟩),
   (5, 31, ⟨(some 23), none, .call (.c (.func (.func 137) #[] #[])) [(.t 22)]⟩),
   (7, 127, ⟨none, none, .store 1 (.t 24) (.t 20)⟩),
   (8, 255, ⟨(some 25), none, .fieldAddr 14 (.t 3)⟩),
   (9, 511, ⟨none, none, .store 1 (.t 25) (.t 23)⟩)] (some [0, 3]))
 (.seq (.ops [⟨(some 26), none, .move (.t 0)⟩,
   ⟨(some 27), none, .load true 15 (.t 3)⟩,
   ⟨(some 28), none, .build [(.int .i64 0), (.int .i64 0), (.slice none 0 0), (.int .u64 0), (.bool false), (.int .i64 0), (.string .empty), (.bool false), (.string .empty), (.int .u64 0), (.string .empty), (.string .empty), (.int .i64 0), (.int .i64 0), (.slice none 0 0), (.bool false), (.int .i64 0), (.pointer none), (.pointer none), (.slice none 0 0), (.slice none 0 0)] [(0, 15), (15, 1), (16, 1), (17, 1), (18, 1), (19, 1), (20, 1)] [(0, (.t 27))]⟩,
   ⟨(some 29), none, .box (.t 28)⟩,
   ⟨(some 30), none, .nilCheck (.t 26)⟩,
   ⟨(some 31), none, .fieldAddr 7 (.t 30)⟩,
   ⟨none, none, .store 1 (.t 31) (.t 29)⟩] (some []))
 (.seq (.ops [⟨(some 4), none, .move (.c (.int .i64 0))⟩] (some [4]))
 .ret))))), [.tmp 4]⟩

theorem is83 : FnIs Tryz.prog 83 x83 := ⟨Tryz.f83, _, Tryz.func83, by kernel_rfl, rfl, by kernel_rfl, by decide, by kernel_rfl⟩

/-- (*cloisonne/sess.Session).Move -/
def x84 : XDecl := .code ⟨2, 
 (.seq (.ops [⟨(some 4), none, .move (.c (.int .i64 0))⟩,
   ⟨(some 5), none, .alloc [(.int .i64 0), (.int .u64 0), (.bool false), (.bool false), (.string .empty), (.int .u64 0), (.slice none 0 0), (.int .i64 0), (.int .u64 0), (.int .u64 0), (.int .u64 0), (.int .u64 0)]⟩,
   ⟨(some 6), none, .move (.c (.int .i64 0))⟩] (some [0, 1, 5]))
 (.seq (.block 0
  (.seq (.ops [⟨(some 11), none, .move (.t 0)⟩,
    ⟨(some 12), none, .isNil .ptr false (.t 11)⟩,
    ⟨(some 10), none, .move (.t 12)⟩] (some [0, 1, 5, 10]))
  (.cond (.t 10)
   (.seq (.ops [⟨(some 13), none, .build [(.int .i64 0), (.int .u64 0), (.bool false), (.bool false), (.string .empty), (.int .u64 0), (.slice none 0 0), (.int .i64 0), (.int .u64 0), (.int .u64 0), (.int .u64 0), (.int .u64 0)] [(0, 1), (1, 1), (2, 1), (3, 3), (6, 1), (7, 5)] []⟩,
     ⟨(some 4), none, .move (.c (.int .i64 0))⟩,
     ⟨none, none, .store 12 (.t 5) (.t 13)⟩,
     ⟨(some 6), none, .move (.c (.int .i64 2))⟩] (some [4, 5, 6]))
   .ret)
   (.seq (.ops [⟨(some 15), none, .move (.t 0)⟩,
     ⟨(some 16), none, .nilCheck (.t 15)⟩,
     ⟨(some 17), none, .fieldAddr 7 (.t 16)⟩,
     ⟨(some 18), none, .load false 1 (.t 17)⟩,
     ⟨(some 19), none, .isNil .ptr false (.t 18)⟩,
     ⟨(some 14), none, .move (.t 19)⟩] (some [0, 1, 5, 14]))
   (.cond (.t 14)
    (.seq (.ops [⟨(some 20), none, .build [(.int .i64 0), (.int .u64 0), (.bool false), (.bool false), (.string .empty), (.int .u64 0), (.slice none 0 0), (.int .i64 0), (.int .u64 0), (.int .u64 0), (.int .u64 0), (.int .u64 0)] [(0, 1), (1, 1), (2, 1), (3, 3), (6, 1), (7, 5)] []⟩,
      ⟨(some 4), none, .move (.c (.int .i64 0))⟩,
      ⟨none, none, .store 12 (.t 5) (.t 20)⟩,
      ⟨(some 6), none, .move (.c (.int .i64 7))⟩] (some [4, 5, 6]))
    .ret)
    (.seq (.ops [⟨(some 22), none, .move (.t 0)⟩,
      ⟨(some 23), none, .nilCheck (.t 22)⟩,
      ⟨(some 24), none, .fieldAddr 7 (.t 23)⟩,
      ⟨(some 25), none, .load false 1 (.t 24)⟩,
      ⟨(some 26), none, .nilCheck (.t 25)⟩,
      ⟨(some 27), none, .fieldAddr 15 (.t 26)⟩,
      ⟨(some 28), none, .load false 1 (.t 27)⟩,
      ⟨(some 29), none, .un .not (.t 28)⟩,
      ⟨(some 21), none, .move (.t 29)⟩] (some [0, 1, 5, 21]))
    (.cond (.t 21)
     (.opsd [(0, 0, ⟨(some 30), none, .move (.t 0)⟩),
       (1, 1, ⟨(some 31), none, .nilCheck (.t 30)⟩),
       (2, 3, ⟨(some 32), none, .fieldAddr 7 (.t 31)⟩),
       (3, 7, ⟨(some 33), none, .load false 1 (.t 32)⟩),
       (4, 0, ⟨(some 34), none, .move (.t 0)⟩),
       (5, 16, ⟨(some 35), none, .nilCheck (.t 34)⟩),
       (6, 48, ⟨(some 36), none, .fieldAddr 7 (.t 35)⟩),
       (7, 112, ⟨(some 37), none, .load false 1 (.t 36)⟩),
       (8, 0, ⟨(some 38), none, .move (.t 1)⟩),
       (9, 255, ⟨(some 39), none, .nilCheck (.t 33)⟩),
       (10, 767, ⟨(some 40), none, .fieldAddr 15 (.t 39)⟩),
       (11, 1791, ⟨none, none, .store 1 (.t 40) (.c (.bool true))⟩),
       (12, 4095, ⟨(some 41), none, .nilCheck (.t 37)⟩),
       (13, 8191, ⟨(some 42), none, .fieldAddr 16 (.t 41)⟩),
       (14, 16383, ⟨none, none, .store 1 (.t 42) (.t 38)⟩)] (some [0, 1, 5]))
     .skip)))))))
 (.seq (.ops [⟨(some 44), none, .move (.t 0)⟩,
   ⟨(some 45), none, .call (.c (.func (.func 138) #[] #[])) [(.t 44)]⟩,
   ⟨(some 43), none, .move (.t 45)⟩,
   ⟨(some 46), none, .extract (.t 43) 0⟩,
   ⟨(some 47), none, .extract (.t 43) 1⟩,
   ⟨(some 48), none, .extract (.t 43) 2⟩,
   ⟨(some 8), none, .alloc [(.int .i64 0), (.int .u64 0), (.bool false), (.bool false), (.string .empty), (.int .u64 0), (.slice none 0 0), (.int .i64 0), (.int .u64 0), (.int .u64 0), (.int .u64 0), (.int .u64 0)]⟩,
   ⟨(some 7), none, .move (.t 46)⟩,
   ⟨none, none, .store 12 (.t 8) (.t 47)⟩,
   ⟨(some 9), none, .move (.t 48)⟩] (some [0, 1, 5, 7, 8, 9]))
 (.seq (.seq (.ops [⟨(some 49), none, .move (.t 9)⟩,
   ⟨(some 50), none, .bin .neq 32 (.t 49) (.c (.int .i64 0))⟩,
   ⟨(some 51), none, .move (.t 50)⟩,
   ⟨(some 52), (some (51, false)), .move (.t 7)⟩,
   ⟨(some 53), (some (51, false)), .bin .neq 3 (.t 52) (.c (.int .i64 2))⟩,
   ⟨(some 54), none, .pick (.t 51) (.c (.bool true)) (.t 53)⟩] (some [0, 1, 5, 7, 8, 9, 54]))
 (.cond (.t 54)
  (.seq (.ops [⟨(some 55), none, .move (.t 7)⟩,
    ⟨(some 56), none, .build [(.int .i64 0), (.int .u64 0), (.bool false), (.bool false), (.string .empty), (.int .u64 0), (.slice none 0 0), (.int .i64 0), (.int .u64 0), (.int .u64 0), (.int .u64 0), (.int .u64 0)] [(0, 1), (1, 1), (2, 1), (3, 3), (6, 1), (7, 5)] []⟩,
    ⟨(some 57), none, .move (.t 9)⟩,
    ⟨(some 4), none, .move (.t 55)⟩,
    ⟨none, none, .store 12 (.t 5) (.t 56)⟩,
    ⟨(some 6), none, .move (.t 57)⟩] (some [4, 5, 6]))
  .ret)
  .skip))
 (.seq (.ops [⟨(some 58), none, .move (.t 0)⟩,
   ⟨(some 59), none, .move (.t 1)⟩,
   ⟨(some 60), none, .nilCheck (.t 58)⟩,
   ⟨(some 61), none, .fieldAddr 8 (.t 60)⟩,
   ⟨none, none, .store 1 (.t 61) (.t 59)⟩] (some [0, 5, 7, 8]))
 (.seq (.seq (.ops [⟨(some 62), none, .move (.t 0)⟩,
   ⟨(some 63), none, .nilCheck (.t 62)⟩,
   ⟨(some 64), none, .fieldAddr 7 (.t 63)⟩,
   ⟨(some 65), none, .load false 1 (.t 64)⟩,
   ⟨(some 66), none, .nilCheck (.t 65)⟩,
   ⟨(some 67), none, .fieldAddr 18 (.t 66)⟩,
   ⟨(some 68), none, .load false 1 (.t 67)⟩,
   ⟨(some 69), none, .isNil .ptr true (.t 68)⟩,
   ⟨(some 70), none, .move (.t 69)⟩,
   ⟨(some 71), (some (70, true)), .fieldAddr 0 (.t 8)⟩,
   ⟨(some 72), (some (70, true)), .load false 1 (.t 71)⟩,
   ⟨(some 73), (some (70, true)), .bin .eql 32 (.t 72) (.c (.int .i64 0))⟩,
   ⟨(some 74), none, .pick (.t 70) (.t 73) (.c (.bool false))⟩] (some [0, 5, 7, 8, 74]))
 (.cond (.t 74)
  (.ops [⟨(some 75), none, .move (.t 0)⟩,
    ⟨(some 76), none, .move (.t 0)⟩,
    ⟨(some 77), none, .nilCheck (.t 76)⟩,
    ⟨(some 78), none, .fieldAddr 7 (.t 77)⟩,
    ⟨(some 79), none, .load false 1 (.t 78)⟩,
    ⟨(some 80), none, .nilCheck (.t 79)⟩,
    ⟨(some 81), none, .fieldAddr 16 (.t 80)⟩,
    ⟨(some 82), none, .load false 1 (.t 81)⟩,
    ⟨(some 83), none, .nilCheck (.t 75)⟩,
    ⟨(some 84), none, .fieldAddr 8 (.t 83)⟩,
    ⟨none, none, .store 1 (.t 84) (.t 82)⟩] (some [0, 5, 7, 8]))
  .skip))
 (.seq (.seq (.ops [⟨(some 85), none, .move (.t 0)⟩,
   ⟨(some 86), none, .nilCheck (.t 85)⟩,
   ⟨(some 87), none, .fieldAddr 7 (.t 86)⟩,
   ⟨(some 88), none, .load false 1 (.t 87)⟩,
   ⟨(some 89), none, .nilCheck (.t 88)⟩,
   ⟨(some 90), none, .fieldAddr 0 (.t 89)⟩,
   ⟨(some 91), none, .fieldAddr 0 (.t 90)⟩,
   ⟨(some 92), none, .load false 1 (.t 91)⟩,
   ⟨(some 93), none, .bin .eql 3 (.t 92) (.c (.int .i64 14))⟩] (some [0, 5, 7, 8, 93]))
 (.cond (.t 93)
  (.ops [⟨(some 94), none, .move (.t 0)⟩,
    ⟨(some 95), none, .nilCheck (.t 94)⟩,
    ⟨(some 96), none, .fieldAddr 6 (.t 95)⟩,
    ⟨none, none, .store 1 (.t 96) (.c (.pointer none))⟩] (some [0, 5, 7, 8]))
  .skip))
 (.seq (.ops [⟨(some 97), none, .move (.t 0)⟩,
   ⟨(some 98), none, .nilCheck (.t 97)⟩,
   ⟨(some 99), none, .fieldAddr 7 (.t 98)⟩,
   ⟨none, none, .store 1 (.t 99) (.c (.pointer none))⟩] (some [5, 7, 8]))
 (.seq (.opsd [(0, 0, ⟨(some 100), none, .move (.t 7)⟩),
   (1, 0, ⟨(some 101), none, .load true 12 (.t 8)⟩),
   (2, 1, ⟨(some 4), none, .move (.t 100)⟩),
   (3, 7, ⟨none, none, .store 12 (.t 5) (.t 101)⟩),
   (4, 15, ⟨(some 6), none, .move (.c (.int .i64 0))⟩)] (some [4, 5, 6]))
 .ret))))))))), [.tmp 4, .cell true 12 5, .tmp 6]⟩

theorem is84 : FnIs Tryz.prog 84 x84 := ⟨Tryz.f84, _, Tryz.func84, by kernel_rfl, rfl, by kernel_rfl, by decide, by kernel_rfl⟩

/-- cloisonne/ask.Tell -/
def x85 : XDecl := .code ⟨1, 
 (.seq (.ops [⟨(some 1), none, .box (.t 0)⟩,
   ⟨(some 2), none, .move (.c (.string .empty))⟩,
   ⟨(some 3), none, .alloc [(.int .i64 0)]⟩] (some [1, 3]))
 (.seq (.ops [⟨none, none, .dfr [(.t 3), (.c (.int .i64 1))]⟩] (some [1, 3]))
 (.seq (.ops [⟨(some 8), none, .load true 12 (.t 1)⟩,
   ⟨(some 9), none, .call (.c (.func (.func 132) #[] #[])) [(.t 8)]⟩,
   ⟨(some 10), none, .call (.c (.func (.func 75) #[] #[])) [(.t 9)]⟩] (some [1, 3]))
 (.seq (.ops [⟨(some 11), none, .fieldAddr 0 (.t 1)⟩,
   ⟨(some 12), none, .load false 1 (.t 11)⟩,
   ⟨(some 13), none, .call (.c (.func (.func 78) #[] #[])) [(.t 12)]⟩,
   ⟨(some 14), none, .buildSlice [(.int .u64 0), (.string .empty), (.slice none 0 0), (.slice none 0 0)] 4 1 [(0, (.t 13))]⟩,
   ⟨(some 15), none, .call (.c (.func (.func 77) #[] #[])) [(.c (.string ⟨#[98]⟩)), (.t 14)]⟩,
   ⟨(some 4), none, .move (.t 15)⟩] (some [1, 3, 4]))
 (.seq (.seq (.ops [⟨(some 16), none, .fieldAddr 0 (.t 1)⟩,
   ⟨(some 17), none, .load false 1 (.t 16)⟩,
   ⟨(some 18), none, .bin .neq 32 (.t 17) (.c (.int .i64 0))⟩] (some [1, 3, 4, 18]))
 (.cond (.t 18)
  (.seq (.ops [⟨(some 19), none, .move (.t 4)⟩,
    ⟨(some 2), none, .move (.t 19)⟩,
    ⟨none, none, .store 1 (.t 3) (.c (.int .i64 0))⟩] (some [2, 3]))
  .ret)
  .skip))
 (.seq (.opsd [(0, 0, ⟨(some 20), none, .move (.t 4)⟩),
   (1, 0, ⟨(some 21), none, .fieldAddr 1 (.t 1)⟩),
   (2, 2, ⟨(some 22), none, .load false 1 (.t 21)⟩),
   (3, 6, ⟨(some 23), none, .build [(.int .u64 0), (.string .empty), (.slice none 0 0), (.slice none 0 0)] [(0, 1), (1, 1), (2, 1), (3, 1)] [(0, (.t 22))]⟩),
   (4, 0, ⟨(some 24), none, .fieldAddr 2 (.t 1)⟩),
   (5, 16, ⟨(some 25), none, .load false 1 (.t 24)⟩),
   (6, 48, ⟨(some 26), none, .call (.c (.func (.func 127) #[] #[])) [(.t 25)]⟩),
   (7, 126, ⟨(some 27), none, .buildSlice [(.int .u64 0), (.string .empty), (.slice none 0 0), (.slice none 0 0)] 4 2 [(0, (.t 23)), (1, (.t 26))]⟩),
   (8, 254, ⟨(some 28), none, .call (.c (.func (.func 77) #[] #[])) [(.c (.string ⟨#[110, 98]⟩)), (.t 27)]⟩),
   (9, 511, ⟨(some 29), none, .bin .add 9 (.t 20) (.t 28)⟩),
   (10, 1023, ⟨(some 4), none, .move (.t 29)⟩)] (some [1, 3, 4]))
 (.seq (.seq (.ops [⟨(some 30), none, .fieldAddr 2 (.t 1)⟩,
   ⟨(some 31), none, .load false 1 (.t 30)⟩] (some [1, 3, 4, 31]))
 (.cond (.t 31)
  (.ops [⟨(some 32), none, .move (.t 4)⟩,
    ⟨(some 33), none, .fieldAddr 3 (.t 1)⟩,
    ⟨(some 34), none, .load true 3 (.t 33)⟩,
    ⟨(some 35), none, .call (.c (.func (.func 129) #[] #[])) [(.t 34)]⟩,
    ⟨(some 36), none, .buildSlice [(.int .u64 0), (.string .empty), (.slice none 0 0), (.slice none 0 0)] 4 1 [(0, (.t 35))]⟩,
    ⟨(some 37), none, .call (.c (.func (.func 77) #[] #[])) [(.c (.string ⟨#[116]⟩)), (.t 36)]⟩,
    ⟨(some 38), none, .bin .add 9 (.t 32) (.t 37)⟩,
    ⟨(some 4), none, .move (.t 38)⟩] (some [1, 3, 4]))
  .skip))
 (.seq (.ops [⟨(some 39), none, .move (.t 4)⟩,
   ⟨(some 40), none, .fieldAddr 6 (.t 1)⟩,
   ⟨(some 41), none, .load false 1 (.t 40)⟩,
   ⟨(some 42), none, .len (.t 41)⟩,
   ⟨(some 43), none, .call (.c (.func (.func 78) #[] #[])) [(.t 42)]⟩,
   ⟨(some 44), none, .buildSlice [(.int .u64 0), (.string .empty), (.slice none 0 0), (.slice none 0 0)] 4 1 [(0, (.t 43))]⟩,
   ⟨(some 45), none, .call (.c (.func (.func 77) #[] #[])) [(.c (.string ⟨#[110]⟩)), (.t 44)]⟩,
   ⟨(some 46), none, .bin .add 9 (.t 39) (.t 45)⟩,
   ⟨(some 4), none, .move (.t 46)⟩] (some [1, 3, 4]))
 (.seq (.seq (.ops [⟨(some 47), none, .fieldAddr 6 (.t 1)⟩,
   ⟨(some 48), none, .load false 1 (.t 47)⟩,
   ⟨(some 49), none, .len (.t 48)⟩,
   ⟨(some 50), none, .move (.c (.int .i64 0))⟩] (some [1, 3, 4, 48, 49, 50]))
 (.block 0
  (.loop
   (.seq (.ops [⟨(some 51), none, .bin .lss 3 (.t 50) (.t 49)⟩] (some [1, 3, 4, 48, 49, 50, 51]))
   (.seq (.cond (.t 51)
    .skip
    (.exit 0))
   (.seq (.block 1
    (.seq (.ops [⟨(some 52), none, .indexAddr 5 (.t 48) (.t 50)⟩,
      ⟨(some 53), none, .load true 5 (.t 52)⟩,
      ⟨(some 6), none, .alloc [(.int .i64 0), (.string .empty), (.bool false), (.string .empty), (.int .u64 0)]⟩,
      ⟨none, none, .store 5 (.t 6) (.t 53)⟩] (some [1, 3, 4, 6, 48, 49, 50]))
    (.opsd [(0, 0, ⟨(some 54), none, .move (.t 4)⟩),
      (1, 0, ⟨(some 55), none, .fieldAddr 0 (.t 6)⟩),
      (2, 2, ⟨(some 56), none, .load false 1 (.t 55)⟩),
      (4, 0, ⟨(some 58), none, .fieldAddr 1 (.t 6)⟩),
      (5, 16, ⟨(some 59), none, .load false 1 (.t 58)⟩),
      (7, 0, ⟨(some 61), none, .fieldAddr 2 (.t 6)⟩),
      (8, 128, ⟨(some 62), none, .load true 3 (.t 61)⟩),
      (3, 6, ⟨(some 57), none, .call (.c (.func (.func 78) #[] #[])) [(.t 56)]⟩),
      (6, 62, ⟨(some 60), none, .call (.c (.func (.func 128) #[] #[])) [(.t 59)]⟩),
      (9, 510, ⟨(some 63), none, .call (.c (.func (.func 129) #[] #[])) [(.t 62)]⟩),
      (10, 1022, ⟨(some 64), none, .buildSlice [(.int .u64 0), (.string .empty), (.slice none 0 0), (.slice none 0 0)] 4 3 [(0, (.t 57)), (1, (.t 60)), (2, (.t 63))]⟩),
      (11, 2046, ⟨(some 65), none, .call (.c (.func (.func 77) #[] #[])) [(.c (.string ⟨#[110, 116, 116]⟩)), (.t 64)]⟩),
      (12, 4095, ⟨(some 66), none, .bin .add 9 (.t 54) (.t 65)⟩),
      (13, 8191, ⟨(some 4), none, .move (.t 66)⟩)] (some [1, 3, 4, 48, 49, 50]))))
   (.ops [⟨(some 67), none, .bin .add 3 (.t 50) (.c (.int .i64 1))⟩,
     ⟨(some 50), none, .move (.t 67)⟩] (some [1, 3, 4, 48, 49, 50]))))))))
 (.seq (.ops [⟨(some 68), none, .fieldAddr 7 (.t 1)⟩,
   ⟨(some 69), none, .load true 5 (.t 68)⟩,
   ⟨(some 7), none, .alloc [(.int .i64 0), (.int .u64 0), (.int .u64 0), (.int .u64 0), (.int .u64 0)]⟩,
   ⟨none, none, .store 5 (.t 7) (.t 69)⟩] (some [3, 4, 7]))
 (.seq (.opsd [(0, 0, ⟨(some 70), none, .move (.t 4)⟩),
   (1, 0, ⟨(some 71), none, .fieldAddr 0 (.t 7)⟩),
   (2, 2, ⟨(some 72), none, .load false 1 (.t 71)⟩),
   (4, 0, ⟨(some 74), none, .fieldAddr 1 (.t 7)⟩),
   (5, 16, ⟨(some 75), none, .load false 1 (.t 74)⟩),
   (6, 48, ⟨(some 76), none, .build [(.int .u64 0), (.string .empty), (.slice none 0 0), (.slice none 0 0)] [(0, 1), (1, 1), (2, 1), (3, 1)] [(0, (.t 75))]⟩),
   (7, 0, ⟨(some 77), none, .fieldAddr 2 (.t 7)⟩),
   (8, 128, ⟨(some 78), none, .load false 1 (.t 77)⟩),
   (9, 384, ⟨(some 79), none, .build [(.int .u64 0), (.string .empty), (.slice none 0 0), (.slice none 0 0)] [(0, 1), (1, 1), (2, 1), (3, 1)] [(0, (.t 78))]⟩),
   (10, 0, ⟨(some 80), none, .fieldAddr 3 (.t 7)⟩),
   (11, 1024, ⟨(some 81), none, .load false 1 (.t 80)⟩),
   (12, 3072, ⟨(some 82), none, .build [(.int .u64 0), (.string .empty), (.slice none 0 0), (.slice none 0 0)] [(0, 1), (1, 1), (2, 1), (3, 1)] [(0, (.t 81))]⟩),
   (13, 0, ⟨(some 83), none, .fieldAddr 4 (.t 7)⟩),
   (14, 8192, ⟨(some 84), none, .load false 1 (.t 83)⟩),
   (15, 24576, ⟨(some 85), none, .build [(.int .u64 0), (.string .empty), (.slice none 0 0), (.slice none 0 0)] [(0, 1), (1, 1), (2, 1), (3, 1)] [(0, (.t 84))]⟩),
   (3, 6, ⟨(some 73), none, .call (.c (.func (.func 78) #[] #[])) [(.t 72)]⟩),
   (16, 65534, ⟨(some 86), none, .buildSlice [(.int .u64 0), (.string .empty), (.slice none 0 0), (.slice none 0 0)] 4 5 [(0, (.t 73)), (1, (.t 76)), (2, (.t 79)), (3, (.t 82)), (4, (.t 85))]⟩),
   (17, 131070, ⟨(some 87), none, .call (.c (.func (.func 77) #[] #[])) [(.c (.string ⟨#[110, 110, 110, 110, 110]⟩)), (.t 86)]⟩),
   (18, 262143, ⟨(some 88), none, .bin .add 9 (.t 70) (.t 87)⟩),
   (19, 524287, ⟨(some 2), none, .move (.t 88)⟩),
   (20, 1048575, ⟨none, none, .store 1 (.t 3) (.c (.int .i64 0))⟩)] (some [2, 3]))
 .ret))))))))))), [.tmp 2, .cell false 1 3]⟩

theorem is85 : FnIs Tryz.prog 85 x85 := ⟨Tryz.f85, _, Tryz.func85, by kernel_rfl, rfl, by kernel_rfl, by decide, by kernel_rfl⟩

/-- cloisonne/vault.within -/
def x86 : XDecl := .code ⟨3, 
 (.seq (.ops [⟨(some 6), none, .move (.c (.bool false))⟩] (some [0, 1, 2]))
 (.seq (.ops [⟨(some 7), none, .move (.t 0)⟩,
   ⟨(some 8), none, .move (.t 1)⟩,
   ⟨(some 9), none, .bin .geq 3 (.t 7) (.t 8)⟩,
   ⟨(some 10), none, .move (.t 9)⟩,
   ⟨(some 11), (some (10, true)), .move (.t 0)⟩,
   ⟨(some 12), (some (10, true)), .move (.t 2)⟩,
   ⟨(some 13), (some (10, true)), .bin .leq 3 (.t 11) (.t 12)⟩,
   ⟨(some 14), none, .pick (.t 10) (.t 13) (.c (.bool false))⟩,
   ⟨(some 6), none, .move (.t 14)⟩] (some [6]))
 .ret)), [.tmp 6]⟩

theorem is86 : FnIs Tryz.prog 86 x86 := ⟨Tryz.f86, _, Tryz.func86, by kernel_rfl, rfl, by kernel_rfl, by decide, by kernel_rfl⟩

/-- (*cloisonne/room.Room).chain -/
def x88 : XDecl := .code ⟨2, 
 (.seq (.ops [⟨(some 4), none, .move (.c (.slice none 0 0))⟩] (some [0, 1]))
 (.seq (.seq (.ops [⟨(some 7), none, .move (.t 0)⟩,
   ⟨(some 8), none, .isNil .ptr false (.t 7)⟩] (some [0, 1, 8]))
 (.cond (.t 8)
  (.seq (.ops [⟨(some 4), none, .move (.c (.slice none 0 0))⟩] (some [4]))
  .ret)
  .skip))
 (.seq (.ops [⟨(some 10), none, .move (.t 0)⟩,
   ⟨(some 11), none, .nilCheck (.t 10)⟩,
   ⟨(some 12), none, .fieldAddr 5 (.t 11)⟩,
   ⟨(some 13), none, .load false 1 (.t 12)⟩,
   ⟨(some 14), none, .move (.t 1)⟩,
   ⟨(some 15), none, .call (.c (.func (.func 141) #[] #[])) [(.t 13), (.t 14)]⟩,
   ⟨(some 9), none, .move (.t 15)⟩,
   ⟨(some 16), none, .extract (.t 9) 0⟩,
   ⟨(some 17), none, .extract (.t 9) 1⟩,
   ⟨(some 5), none, .move (.t 16)⟩,
   ⟨(some 6), none, .move (.t 17)⟩] (some [0, 5, 6]))
 (.seq (.seq (.ops [⟨(some 18), none, .move (.t 6)⟩,
   ⟨(some 19), none, .un .not (.t 18)⟩] (some [0, 5, 19]))
 (.cond (.t 19)
  (.seq (.ops [⟨(some 4), none, .move (.c (.slice none 0 0))⟩] (some [4]))
  .ret)
  .skip))
 (.seq (.ops [⟨(some 20), none, .move (.t 0)⟩,
   ⟨(some 21), none, .nilCheck (.t 20)⟩,
   ⟨(some 22), none, .fieldAddr 6 (.t 21)⟩,
   ⟨(some 23), none, .load false 1 (.t 22)⟩,
   ⟨(some 24), none, .move (.t 5)⟩,
   ⟨(some 25), none, .indexAddr 1 (.t 23) (.t 24)⟩,
   ⟨(some 26), none, .load false 1 (.t 25)⟩,
   ⟨(some 4), none, .move (.t 26)⟩] (some [4]))
 .ret))))), [.tmp 4]⟩

theorem is88 : FnIs Tryz.prog 88 x88 := ⟨Tryz.f88, _, Tryz.func88, by kernel_rfl, rfl, by kernel_rfl, by decide, by kernel_rfl⟩

/-- (*cloisonne/room.Room).Floor -/
def x90 : XDecl := .code ⟨1, 
 (.seq (.ops [⟨(some 2), none, .move (.c (.int .i64 0))⟩] (some [0]))
 (.seq (.seq (.ops [⟨(some 3), none, .move (.t 0)⟩,
   ⟨(some 4), none, .isNil .ptr false (.t 3)⟩] (some [0, 4]))
 (.cond (.t 4)
  (.seq (.ops [⟨(some 2), none, .move (.c (.int .i64 0))⟩] (some [2]))
  .ret)
  .skip))
 (.seq (.ops [⟨(some 5), none, .move (.t 0)⟩,
   ⟨(some 6), none, .nilCheck (.t 5)⟩,
   ⟨(some 7), none, .fieldAddr 4 (.t 6)⟩,
   ⟨(some 8), none, .load false 1 (.t 7)⟩,
   ⟨(some 9), none, .call (.c (.func (.func 144) #[] #[])) [(.t 8)]⟩,
   ⟨(some 2), none, .move (.t 9)⟩] (some [2]))
 .ret))), [.tmp 2]⟩

theorem is90 : FnIs Tryz.prog 90 x90 := ⟨Tryz.f90, _, Tryz.func90, by kernel_rfl, rfl, by kernel_rfl, by decide, by kernel_rfl⟩

/-- (*cloisonne/room.Room).lay -/
def x91 : XDecl := .code ⟨3, 
 (.seq (.ops [⟨(some 11), none, .move (.t 0)⟩,
   ⟨(some 12), none, .move (.t 1)⟩,
   ⟨(some 13), none, .call (.c (.func (.func 88) #[] #[])) [(.t 11), (.t 12)]⟩,
   ⟨(some 6), none, .move (.t 13)⟩] (some [0, 1, 2, 6]))
 (.seq (.ops [⟨(some 14), none, .move (.t 0)⟩,
   ⟨(some 15), none, .nilCheck (.t 14)⟩,
   ⟨(some 16), none, .fieldAddr 10 (.t 15)⟩,
   ⟨(some 17), none, .load false 1 (.t 16)⟩,
   ⟨(some 18), none, .move (.t 2)⟩,
   ⟨(some 19), none, .len (.t 18)⟩,
   ⟨(some 20), none, .move (.t 6)⟩,
   ⟨(some 21), none, .len (.t 20)⟩,
   ⟨(some 22), none, .bin .sub 3 (.t 19) (.t 21)⟩,
   ⟨(some 23), none, .bin .add 3 (.t 17) (.t 22)⟩,
   ⟨(some 24), none, .nilCheck (.t 14)⟩,
   ⟨(some 25), none, .fieldAddr 10 (.t 24)⟩,
   ⟨none, none, .store 1 (.t 25) (.t 23)⟩] (some [0, 1, 2, 6]))
 (.seq (.ops [⟨(some 26), none, .move (.t 1)⟩,
   ⟨(some 27), none, .move (.t 6)⟩,
   ⟨(some 28), none, .call (.c (.func (.func 145) #[] #[])) [(.t 26), (.t 27)]⟩,
   ⟨(some 29), none, .move (.t 1)⟩,
   ⟨(some 30), none, .move (.t 2)⟩,
   ⟨(some 31), none, .call (.c (.func (.func 145) #[] #[])) [(.t 29), (.t 30)]⟩,
   ⟨(some 7), none, .move (.t 28)⟩,
   ⟨(some 8), none, .move (.t 31)⟩] (some [0, 1, 2, 7, 8]))
 (.seq (.ops [⟨(some 32), none, .move (.t 0)⟩,
   ⟨(some 33), none, .nilCheck (.t 32)⟩,
   ⟨(some 34), none, .fieldAddr 8 (.t 33)⟩,
   ⟨(some 35), none, .load false 1 (.t 34)⟩,
   ⟨(some 36), none, .move (.t 8)⟩,
   ⟨(some 37), none, .move (.t 7)⟩,
   ⟨(some 38), none, .bin .sub 3 (.t 36) (.t 37)⟩,
   ⟨(some 39), none, .bin .add 3 (.t 35) (.t 38)⟩,
   ⟨(some 40), none, .nilCheck (.t 32)⟩,
   ⟨(some 41), none, .fieldAddr 8 (.t 40)⟩,
   ⟨none, none, .store 1 (.t 41) (.t 39)⟩] (some [0, 1, 2, 7, 8]))
 (.seq (.ops [⟨(some 42), none, .move (.t 0)⟩,
   ⟨(some 43), none, .nilCheck (.t 42)⟩,
   ⟨(some 44), none, .fieldAddr 9 (.t 43)⟩,
   ⟨(some 45), none, .load false 1 (.t 44)⟩,
   ⟨(some 46), none, .move (.t 8)⟩,
   ⟨(some 47), none, .calcB .min [3, 3] 3 [(.t 46), (.c (.int .i64 1))]⟩,
   ⟨(some 48), none, .move (.t 7)⟩,
   ⟨(some 49), none, .calcB .min [3, 3] 3 [(.t 48), (.c (.int .i64 1))]⟩,
   ⟨(some 50), none, .bin .sub 3 (.t 47) (.t 49)⟩,
   ⟨(some 51), none, .bin .add 3 (.t 45) (.t 50)⟩,
   ⟨(some 52), none, .nilCheck (.t 42)⟩,
   ⟨(some 53), none, .fieldAddr 9 (.t 52)⟩,
   ⟨none, none, .store 1 (.t 53) (.t 51)⟩] (some [0, 1, 2]))
 (.seq (.ops [⟨(some 55), none, .move (.t 0)⟩,
   ⟨(some 56), none, .nilCheck (.t 55)⟩,
   ⟨(some 57), none, .fieldAddr 5 (.t 56)⟩,
   ⟨(some 58), none, .load false 1 (.t 57)⟩,
   ⟨(some 59), none, .move (.t 1)⟩,
   ⟨(some 60), none, .call (.c (.func (.func 141) #[] #[])) [(.t 58), (.t 59)]⟩,
   ⟨(some 54), none, .move (.t 60)⟩,
   ⟨(some 61), none, .extract (.t 54) 0⟩,
   ⟨(some 62), none, .extract (.t 54) 1⟩,
   ⟨(some 9), none, .move (.t 61)⟩,
   ⟨(some 10), none, .move (.t 62)⟩] (some [0, 1, 2, 9, 10]))
 (.block 0
  (.seq (.ops [⟨(some 64), none, .move (.t 10)⟩,
    ⟨(some 65), none, .move (.t 64)⟩,
    ⟨(some 66), (some (65, true)), .move (.t 2)⟩,
    ⟨(some 67), (some (65, true)), .len (.t 66)⟩,
    ⟨(some 68), (some (65, true)), .bin .eql 3 (.t 67) (.c (.int .i64 0))⟩,
    ⟨(some 69), none, .pick (.t 65) (.t 68) (.c (.bool false))⟩,
    ⟨(some 63), none, .move (.t 69)⟩] (some [0, 1, 2, 9, 10, 63]))
  (.cond (.t 63)
   (.seq (.ops [⟨(some 70), none, .move (.t 0)⟩,
     ⟨(some 71), none, .nilCheck (.t 70)⟩,
     ⟨(some 72), none, .fieldAddr 5 (.t 71)⟩,
     ⟨(some 73), none, .load false 1 (.t 72)⟩,
     ⟨(some 74), none, .move (.t 1)⟩,
     ⟨(some 75), none, .call (.c (.func (.func 146) #[] #[])) [(.t 73), (.t 74)]⟩] (some [0, 9]))
   (.seq (.ops [⟨(some 76), none, .move (.t 0)⟩,
     ⟨(some 77), none, .nilCheck (.t 76)⟩,
     ⟨(some 78), none, .fieldAddr 6 (.t 77)⟩,
     ⟨(some 79), none, .load false 1 (.t 78)⟩,
     ⟨(some 80), none, .move (.t 9)⟩,
     ⟨(some 81), none, .indexAddr 1 (.t 79) (.t 80)⟩,
     ⟨none, none, .store 1 (.t 81) (.c (.slice none 0 0))⟩] (some [0, 9]))
   (.ops [⟨(some 82), none, .move (.t 0)⟩,
     ⟨(some 83), none, .move (.t 0)⟩,
     ⟨(some 84), none, .nilCheck (.t 83)⟩,
     ⟨(some 85), none, .fieldAddr 7 (.t 84)⟩,
     ⟨(some 86), none, .load false 1 (.t 85)⟩,
     ⟨(some 87), none, .move (.t 9)⟩,
     ⟨(some 88), none, .buildSlice [(.int .i64 0)] 1 1 [(0, (.t 87))]⟩,
     ⟨(some 89), none, .append 1 8 [(.int .i64 0)] (.t 86) (.t 88)⟩,
     ⟨(some 90), none, .nilCheck (.t 82)⟩,
     ⟨(some 91), none, .fieldAddr 7 (.t 90)⟩,
     ⟨none, none, .store 1 (.t 91) (.t 89)⟩] (some []))))
   (.seq (.ops [⟨(some 93), none, .move (.t 10)⟩,
     ⟨(some 92), none, .move (.t 93)⟩] (some [0, 1, 2, 9, 92]))
   (.cond (.t 92)
    (.ops [⟨(some 94), none, .move (.t 0)⟩,
      ⟨(some 95), none, .nilCheck (.t 94)⟩,
      ⟨(some 96), none, .fieldAddr 6 (.t 95)⟩,
      ⟨(some 97), none, .load false 1 (.t 96)⟩,
      ⟨(some 98), none, .move (.t 9)⟩,
      ⟨(some 99), none, .move (.t 2)⟩,
      ⟨(some 100), none, .indexAddr 1 (.t 97) (.t 98)⟩,
      ⟨none, none, .store 1 (.t 100) (.t 99)⟩] (some []))
    (.seq (.ops [⟨(some 102), none, .move (.t 2)⟩,
      ⟨(some 103), none, .len (.t 102)⟩,
      ⟨(some 104), none, .bin .gtr 3 (.t 103) (.c (.int .i64 0))⟩,
      ⟨(some 105), none, .move (.t 104)⟩,
      ⟨(some 106), (some (105, true)), .move (.t 0)⟩,
      ⟨(some 107), (some (105, true)), .nilCheck (.t 106)⟩,
      ⟨(some 108), (some (105, true)), .fieldAddr 7 (.t 107)⟩,
      ⟨(some 109), (some (105, true)), .load false 1 (.t 108)⟩,
      ⟨(some 110), (some (105, true)), .len (.t 109)⟩,
      ⟨(some 111), (some (105, true)), .bin .gtr 3 (.t 110) (.c (.int .i64 0))⟩,
      ⟨(some 112), none, .pick (.t 105) (.t 111) (.c (.bool false))⟩,
      ⟨(some 101), none, .move (.t 112)⟩] (some [0, 1, 2, 101]))
    (.cond (.t 101)
     (.seq (.opsr [⟨(some 113), none, .move (.t 0)⟩,
       ⟨(some 114), none, .nilCheck (.t 113)⟩,
       ⟨(some 115), none, .fieldAddr 7 (.t 114)⟩,
       ⟨(some 116), none, .load false 1 (.t 115)⟩,
       ⟨(some 117), none, .move (.t 0)⟩,
       ⟨(some 118), none, .nilCheck (.t 117)⟩,
       ⟨(some 119), none, .fieldAddr 7 (.t 118)⟩,
       ⟨(some 120), none, .load false 1 (.t 119)⟩,
       ⟨(some 121), none, .len (.t 120)⟩,
       ⟨(some 122), none, .bin .sub 3 (.t 121) (.c (.int .i64 1))⟩,
       ⟨(some 123), none, .indexAddr 1 (.t 116) (.t 122)⟩,
       ⟨(some 124), none, .load false 1 (.t 123)⟩,
       ⟨(some 9), none, .move (.t 124)⟩] (some [0, 1, 2, 9]))
     (.seq (.opsd [(0, 0, ⟨(some 125), none, .move (.t 0)⟩),
       (1, 0, ⟨(some 126), none, .move (.t 0)⟩),
       (2, 2, ⟨(some 127), none, .nilCheck (.t 126)⟩),
       (3, 6, ⟨(some 128), none, .fieldAddr 7 (.t 127)⟩),
       (4, 14, ⟨(some 129), none, .load false 1 (.t 128)⟩),
       (5, 0, ⟨(some 130), none, .move (.t 0)⟩),
       (6, 32, ⟨(some 131), none, .nilCheck (.t 130)⟩),
       (7, 96, ⟨(some 132), none, .fieldAddr 7 (.t 131)⟩),
       (8, 224, ⟨(some 133), none, .load false 1 (.t 132)⟩),
       (9, 480, ⟨(some 134), none, .len (.t 133)⟩),
       (10, 992, ⟨(some 135), none, .bin .sub 3 (.t 134) (.c (.int .i64 1))⟩),
       (11, 2046, ⟨(some 136), none, .slice 1 (.t 129) none (some (.t 135)) none⟩),
       (12, 4095, ⟨(some 137), none, .nilCheck (.t 125)⟩),
       (13, 8191, ⟨(some 138), none, .fieldAddr 7 (.t 137)⟩),
       (14, 16383, ⟨none, none, .store 1 (.t 138) (.t 136)⟩)] (some [0, 1, 2, 9]))
     (.seq (.ops [⟨(some 139), none, .move (.t 0)⟩,
       ⟨(some 140), none, .nilCheck (.t 139)⟩,
       ⟨(some 141), none, .fieldAddr 6 (.t 140)⟩,
       ⟨(some 142), none, .load false 1 (.t 141)⟩,
       ⟨(some 143), none, .move (.t 9)⟩,
       ⟨(some 144), none, .move (.t 2)⟩,
       ⟨(some 145), none, .indexAddr 1 (.t 142) (.t 143)⟩,
       ⟨none, none, .store 1 (.t 145) (.t 144)⟩] (some [0, 1, 9]))
     (.ops [⟨(some 146), none, .move (.t 0)⟩,
       ⟨(some 147), none, .nilCheck (.t 146)⟩,
       ⟨(some 148), none, .fieldAddr 5 (.t 147)⟩,
       ⟨(some 149), none, .load false 1 (.t 148)⟩,
       ⟨(some 150), none, .move (.t 1)⟩,
       ⟨(some 151), none, .move (.t 9)⟩,
       ⟨(some 152), none, .call (.c (.func (.func 147) #[] #[])) [(.t 149), (.t 150), (.t 151)]⟩] (some [])))))
     (.seq (.ops [⟨(some 154), none, .move (.t 2)⟩,
       ⟨(some 155), none, .len (.t 154)⟩,
       ⟨(some 156), none, .bin .gtr 3 (.t 155) (.c (.int .i64 0))⟩,
       ⟨(some 153), none, .move (.t 156)⟩] (some [0, 1, 2, 153]))
     (.cond (.t 153)
      (.seq (.opsd [(0, 0, ⟨(some 157), none, .move (.t 0)⟩),
        (1, 1, ⟨(some 158), none, .nilCheck (.t 157)⟩),
        (2, 3, ⟨(some 159), none, .fieldAddr 5 (.t 158)⟩),
        (3, 7, ⟨(some 160), none, .load false 1 (.t 159)⟩),
        (4, 0, ⟨(some 161), none, .move (.t 1)⟩),
        (5, 0, ⟨(some 162), none, .move (.t 0)⟩),
        (6, 32, ⟨(some 163), none, .nilCheck (.t 162)⟩),
        (7, 96, ⟨(some 164), none, .fieldAddr 6 (.t 163)⟩),
        (8, 224, ⟨(some 165), none, .load false 1 (.t 164)⟩),
        (9, 480, ⟨(some 166), none, .len (.t 165)⟩),
        (10, 1023, ⟨(some 167), none, .call (.c (.func (.func 147) #[] #[])) [(.t 160), (.t 161), (.t 166)]⟩)] (some [0, 2]))
      (.ops [⟨(some 168), none, .move (.t 0)⟩,
        ⟨(some 169), none, .move (.t 0)⟩,
        ⟨(some 170), none, .nilCheck (.t 169)⟩,
        ⟨(some 171), none, .fieldAddr 6 (.t 170)⟩,
        ⟨(some 172), none, .load false 1 (.t 171)⟩,
        ⟨(some 173), none, .move (.t 2)⟩,
        ⟨(some 174), none, .buildSlice [(.slice none 0 0)] 1 1 [(0, (.t 173))]⟩,
        ⟨(some 175), none, .append 1 24 [(.slice none 0 0)] (.t 172) (.t 174)⟩,
        ⟨(some 176), none, .nilCheck (.t 168)⟩,
        ⟨(some 177), none, .fieldAddr 6 (.t 176)⟩,
        ⟨none, none, .store 1 (.t 177) (.t 175)⟩] (some [])))
      .skip))))))))))))))), []⟩

theorem is91 : FnIs Tryz.prog 91 x91 := ⟨Tryz.f91, _, Tryz.func91, by kernel_rfl, rfl, by kernel_rfl, by decide, by kernel_rfl⟩

/-- (*cloisonne/job.Job).Move -/
def x94 : XDecl := .code ⟨1, 
 (.seq (.ops [⟨(some 2), none, .move (.c (.int .i64 0))⟩,
   ⟨(some 3), none, .move (.c (.int .i64 0))⟩] (some [0]))
 (.seq (.seq (.ops [⟨(some 4), none, .move (.t 0)⟩,
   ⟨(some 5), none, .isNil .ptr false (.t 4)⟩] (some [0, 5]))
 (.cond (.t 5)
  (.seq (.ops [⟨(some 2), none, .move (.c (.int .i64 0))⟩,
    ⟨(some 3), none, .move (.c (.int .i64 2))⟩] (some [2, 3]))
  .ret)
  .skip))
 (.seq (.seq (.ops [⟨(some 6), none, .move (.t 0)⟩,
   ⟨(some 7), none, .nilCheck (.t 6)⟩,
   ⟨(some 8), none, .fieldAddr 4 (.t 7)⟩,
   ⟨(some 9), none, .load false 1 (.t 8)⟩] (some [0, 9]))
 (.block 0
  (.seq (.ops [⟨(some 11), none, .bin .eql 3 (.t 9) (.c (.int .i64 0))⟩,
    ⟨(some 10), none, .move (.t 11)⟩] (some [0, 9, 10]))
  (.cond (.t 10)
   (.seq (.ops [⟨(some 12), none, .move (.t 0)⟩,
     ⟨(some 13), none, .call (.c (.func (.func 150) #[] #[])) [(.t 12)]⟩,
     ⟨(some 14), none, .extract (.t 13) 0⟩,
     ⟨(some 15), none, .extract (.t 13) 1⟩,
     ⟨(some 2), none, .move (.t 14)⟩,
     ⟨(some 3), none, .move (.t 15)⟩] (some [2, 3]))
   .ret)
   (.seq (.ops [⟨(some 17), none, .bin .eql 3 (.t 9) (.c (.int .i64 1))⟩,
     ⟨(some 16), none, .move (.t 17)⟩] (some [0, 9, 16]))
   (.cond (.t 16)
    (.seq (.ops [⟨(some 18), none, .move (.t 0)⟩,
      ⟨(some 19), none, .call (.c (.func (.func 151) #[] #[])) [(.t 18)]⟩,
      ⟨(some 20), none, .extract (.t 19) 0⟩,
      ⟨(some 21), none, .extract (.t 19) 1⟩,
      ⟨(some 2), none, .move (.t 20)⟩,
      ⟨(some 3), none, .move (.t 21)⟩] (some [2, 3]))
    .ret)
    (.seq (.ops [⟨(some 23), none, .bin .eql 3 (.t 9) (.c (.int .i64 2))⟩,
      ⟨(some 22), none, .move (.t 23)⟩] (some [0, 22]))
    (.cond (.t 22)
     (.seq (.ops [⟨(some 24), none, .move (.t 0)⟩,
       ⟨(some 25), none, .call (.c (.func (.func 152) #[] #[])) [(.t 24)]⟩,
       ⟨(some 26), none, .extract (.t 25) 0⟩,
       ⟨(some 27), none, .extract (.t 25) 1⟩,
       ⟨(some 2), none, .move (.t 26)⟩,
       ⟨(some 3), none, .move (.t 27)⟩] (some [2, 3]))
     .ret)
     .skip))))))))
 (.seq (.ops [⟨(some 2), none, .move (.c (.int .i64 2))⟩,
   ⟨(some 3), none, .move (.c (.int .i64 0))⟩] (some [2, 3]))
 .ret)))), [.tmp 2, .tmp 3]⟩

theorem is94 : FnIs Tryz.prog 94 x94 := ⟨Tryz.f94, _, Tryz.func94, by kernel_rfl, rfl, by kernel_rfl, by decide, by kernel_rfl⟩

/-- (*cloisonne/job.Job).Done -/
def x95 : XDecl := .code ⟨1, 
 (.seq (.ops [⟨(some 2), none, .move (.c (.int .u64 0))⟩,
   ⟨(some 3), none, .move (.c (.int .i64 0))⟩,
   ⟨(some 4), none, .move (.c (.bool false))⟩] (some [0]))
 (.seq (.seq (.ops [⟨(some 5), none, .move (.t 0)⟩,
   ⟨(some 6), none, .isNil .ptr false (.t 5)⟩] (some [0, 6]))
 (.cond (.t 6)
  (.seq (.ops [⟨(some 2), none, .move (.c (.int .u64 0))⟩,
    ⟨(some 3), none, .move (.c (.int .i64 2))⟩,
    ⟨(some 4), none, .move (.c (.bool false))⟩] (some [2, 3, 4]))
  .ret)
  .skip))
 (.seq (.opsr [⟨(some 7), none, .move (.t 0)⟩,
   ⟨(some 8), none, .nilCheck (.t 7)⟩,
   ⟨(some 9), none, .fieldAddr 6 (.t 8)⟩,
   ⟨(some 10), none, .load false 1 (.t 9)⟩,
   ⟨(some 11), none, .move (.t 0)⟩,
   ⟨(some 12), none, .nilCheck (.t 11)⟩,
   ⟨(some 13), none, .fieldAddr 7 (.t 12)⟩,
   ⟨(some 14), none, .load false 1 (.t 13)⟩,
   ⟨(some 15), none, .move (.t 0)⟩,
   ⟨(some 16), none, .nilCheck (.t 15)⟩,
   ⟨(some 17), none, .fieldAddr 4 (.t 16)⟩,
   ⟨(some 18), none, .load false 1 (.t 17)⟩,
   ⟨(some 19), none, .bin .eql 3 (.t 18) (.c (.int .i64 3))⟩,
   ⟨(some 2), none, .move (.t 10)⟩,
   ⟨(some 3), none, .move (.t 14)⟩,
   ⟨(some 4), none, .move (.t 19)⟩] (some [2, 3, 4]))
 .ret))), [.tmp 2, .tmp 3, .tmp 4]⟩

theorem is95 : FnIs Tryz.prog 95 x95 := ⟨Tryz.f95, _, Tryz.func95, by kernel_rfl, rfl, by kernel_rfl, by decide, by kernel_rfl⟩

/-- (*cloisonne/extent.World).On -/
def x97 : XDecl := .code ⟨1, 
 (.seq (.ops [⟨(some 2), none, .move (.c (.bool false))⟩] (some [0]))
 (.seq (.ops [⟨(some 3), none, .move (.t 0)⟩,
   ⟨(some 4), none, .isNil .ptr true (.t 3)⟩,
   ⟨(some 5), none, .move (.t 4)⟩,
   ⟨(some 6), (some (5, true)), .move (.t 0)⟩,
   ⟨(some 7), (some (5, true)), .nilCheck (.t 6)⟩,
   ⟨(some 8), (some (5, true)), .fieldAddr 0 (.t 7)⟩,
   ⟨(some 9), (some (5, true)), .load false 1 (.t 8)⟩,
   ⟨(some 10), (some (5, true)), .un .not (.t 9)⟩,
   ⟨(some 11), none, .pick (.t 5) (.t 10) (.c (.bool false))⟩,
   ⟨(some 2), none, .move (.t 11)⟩] (some [2]))
 .ret)), [.tmp 2]⟩

theorem is97 : FnIs Tryz.prog 97 x97 := ⟨Tryz.f97, _, Tryz.func97, by kernel_rfl, rfl, by kernel_rfl, by decide, by kernel_rfl⟩

/-- cloisonne/vault.Open -/
def x99 : XDecl := .code ⟨2, 
 (.seq (.ops [⟨(some 2), none, .box (.t 0)⟩,
   ⟨(some 4), none, .move (.c (.pointer none))⟩,
   ⟨(some 5), none, .move (.c (.int .i64 0))⟩] (some [1, 2]))
 (.seq (.block 0
  (.seq (.ops [⟨(some 12), none, .move (.t 1)⟩,
    ⟨(some 13), none, .isNil .ptr false (.t 12)⟩,
    ⟨(some 11), none, .move (.t 13)⟩] (some [1, 2, 11]))
  (.cond (.t 11)
   (.seq (.ops [⟨(some 4), none, .move (.c (.pointer none))⟩,
     ⟨(some 5), none, .move (.c (.int .i64 2))⟩] (some [4, 5]))
   .ret)
   (.seq (.opsd [(0, 0, ⟨(some 15), none, .load true 4 (.t 2)⟩),
     (1, 1, ⟨(some 16), none, .call (.c (.func (.func 154) #[] #[])) [(.t 15)]⟩),
     (2, 3, ⟨(some 17), none, .un .not (.t 16)⟩),
     (3, 7, ⟨(some 18), none, .move (.t 17)⟩),
     (4, 15, ⟨(some 19), (some (18, false)), .move (.t 1)⟩),
     (6, 15, ⟨(some 21), (some (18, false)), .fieldAddr 3 (.t 2)⟩),
     (7, 79, ⟨(some 22), (some (18, false)), .load false 1 (.t 21)⟩),
     (8, 207, ⟨(some 23), (some (18, false)), .len (.t 22)⟩),
     (9, 463, ⟨(some 24), (some (18, false)), .bin .mul 3 (.c (.int .i64 2)) (.t 23)⟩),
     (10, 975, ⟨(some 25), (some (18, false)), .bin .add 3 (.c (.int .i64 2)) (.t 24)⟩),
     (5, 31, ⟨(some 20), (some (18, false)), .call (.c (.func (.func 155) #[] #[])) [(.t 19)]⟩),
     (11, 2047, ⟨(some 26), (some (18, false)), .bin .lss 3 (.t 20) (.t 25)⟩),
     (12, 4095, ⟨(some 27), none, .pick (.t 18) (.c (.bool true)) (.t 26)⟩),
     (13, 8191, ⟨(some 28), none, .move (.t 27)⟩),
     (14, 16383, ⟨(some 29), (some (28, false)), .move (.t 1)⟩),
     (16, 16383, ⟨(some 31), (some (28, false)), .fieldAddr 2 (.t 2)⟩),
     (17, 81919, ⟨(some 32), (some (28, false)), .load false 1 (.t 31)⟩),
     (15, 32767, ⟨(some 30), (some (28, false)), .call (.c (.func (.func 156) #[] #[])) [(.t 29)]⟩),
     (18, 262143, ⟨(some 33), (some (28, false)), .bin .neq 3 (.t 30) (.t 32)⟩),
     (19, 524287, ⟨(some 34), none, .pick (.t 28) (.c (.bool true)) (.t 33)⟩),
     (20, 1048575, ⟨(some 14), none, .move (.t 34)⟩)] (some [1, 2, 14]))
   (.cond (.t 14)
    (.seq (.ops [⟨(some 4), none, .move (.c (.pointer none))⟩,
      ⟨(some 5), none, .move (.c (.int .i64 1))⟩] (some [4, 5]))
    .ret)
    (.seq (.ops [⟨(some 36), none, .move (.t 1)⟩,
      ⟨(some 37), none, .call (.c (.func (.func 97) #[] #[])) [(.t 36)]⟩,
      ⟨(some 38), none, .un .not (.t 37)⟩,
      ⟨(some 35), none, .move (.t 38)⟩] (some [1, 2, 35]))
    (.cond (.t 35)
     (.seq (.ops [⟨(some 4), none, .move (.c (.pointer none))⟩,
       ⟨(some 5), none, .move (.c (.int .i64 6))⟩] (some [4, 5]))
     .ret)
     .skip)))))))
 (.seq (.ops [⟨(some 39), none, .load true 4 (.t 2)⟩,
   ⟨(some 40), none, .call (.c (.func (.func 101) #[] #[])) [(.t 39)]⟩,
   ⟨(some 41), none, .move (.t 1)⟩,
   ⟨(some 42), none, .makeMap⟩,
   ⟨(some 43), none, .build [(.int .i64 0), (.int .i64 0), (.int .i64 0), (.slice none 0 0), (.pointer none), (.pointer none), (.slice none 0 0), (.slice none 0 0), (.map none), (.int .u64 0)] [(0, 4), (4, 1), (5, 1), (6, 1), (7, 1), (8, 1), (9, 1)] [(0, (.t 40)), (1, (.t 41)), (5, (.t 42))]⟩,
   ⟨(some 44), none, .box (.t 43)⟩,
   ⟨(some 6), none, .move (.t 44)⟩] (some [6]))
 (.seq (.seq (.ops [⟨(some 45), none, .move (.t 6)⟩,
   ⟨(some 46), none, .call (.c (.func (.func 157) #[] #[])) [(.t 45)]⟩,
   ⟨(some 7), none, .move (.t 46)⟩] (some [6, 7]))
 (.seq (.ops [⟨(some 47), none, .move (.t 7)⟩,
   ⟨(some 48), none, .bin .neq 32 (.t 47) (.c (.int .i64 0))⟩] (some [6, 7, 48]))
 (.cond (.t 48)
  (.seq (.ops [⟨(some 49), none, .move (.t 7)⟩,
    ⟨(some 4), none, .move (.c (.pointer none))⟩,
    ⟨(some 5), none, .move (.t 49)⟩] (some [4, 5]))
  .ret)
  .skip)))
 (.seq (.seq (.ops [⟨(some 50), none, .move (.t 6)⟩,
   ⟨(some 51), none, .nilCheck (.t 50)⟩,
   ⟨(some 52), none, .fieldAddr 0 (.t 51)⟩,
   ⟨(some 53), none, .fieldAddr 3 (.t 52)⟩,
   ⟨(some 54), none, .load false 1 (.t 53)⟩,
   ⟨(some 55), none, .len (.t 54)⟩,
   ⟨(some 56), none, .move (.c (.int .i64 0))⟩] (some [6, 54, 55, 56]))
 (.block 1
  (.loop
   (.seq (.ops [⟨(some 57), none, .bin .lss 3 (.t 56) (.t 55)⟩] (some [6, 54, 55, 56, 57]))
   (.seq (.cond (.t 57)
    .skip
    (.exit 1))
   (.seq (.block 2
    (.seq (.ops [⟨(some 58), none, .indexAddr 4 (.t 54) (.t 56)⟩,
      ⟨(some 59), none, .load true 4 (.t 58)⟩,
      ⟨(some 9), none, .alloc [(.slice none 0 0), (.int .i64 0), (.int .i64 0), (.int .i64 0)]⟩,
      ⟨none, none, .store 4 (.t 9) (.t 59)⟩] (some [6, 9, 54, 55, 56]))
    (.seq (.ops [⟨(some 60), none, .move (.t 6)⟩,
      ⟨(some 61), none, .load true 4 (.t 9)⟩,
      ⟨(some 62), none, .call (.c (.func (.func 158) #[] #[])) [(.t 60), (.t 61)]⟩,
      ⟨(some 10), none, .move (.t 62)⟩] (some [6, 10, 54, 55, 56]))
    (.seq (.ops [⟨(some 63), none, .move (.t 10)⟩,
      ⟨(some 64), none, .bin .neq 32 (.t 63) (.c (.int .i64 0))⟩] (some [6, 10, 54, 55, 56, 64]))
    (.cond (.t 64)
     (.seq (.ops [⟨(some 65), none, .move (.t 10)⟩,
       ⟨(some 4), none, .move (.c (.pointer none))⟩,
       ⟨(some 5), none, .move (.t 65)⟩] (some [4, 5]))
     .ret)
     .skip)))))
   (.ops [⟨(some 66), none, .bin .add 3 (.t 56) (.c (.int .i64 1))⟩,
     ⟨(some 56), none, .move (.t 66)⟩] (some [6, 54, 55, 56]))))))))
 (.seq (.ops [⟨(some 67), none, .move (.t 6)⟩,
   ⟨(some 4), none, .move (.t 67)⟩,
   ⟨(some 5), none, .move (.c (.int .i64 0))⟩] (some [4, 5]))
 .ret)))))), [.tmp 4, .tmp 5]⟩

theorem is99 : FnIs Tryz.prog 99 x99 := ⟨Tryz.f99, _, Tryz.func99, by kernel_rfl, rfl, by kernel_rfl, by decide, by kernel_rfl⟩

/-- cloisonne/sess.New -/
def x100 : XDecl := .code ⟨2, 
 (.seq (.ops [⟨(some 4), none, .move (.c (.pointer none))⟩,
   ⟨(some 5), none, .move (.c (.int .i64 0))⟩] (some [0, 1]))
 (.seq (.seq (.ops [⟨(some 6), none, .move (.t 0)⟩,
   ⟨(some 7), none, .isNil .ptr false (.t 6)⟩] (some [0, 1, 7]))
 (.cond (.t 7)
  (.seq (.ops [⟨(some 4), none, .move (.c (.pointer none))⟩,
    ⟨(some 5), none, .move (.c (.int .i64 2))⟩] (some [4, 5]))
  .ret)
  .skip))
 (.seq (.ops [⟨(some 8), none, .move (.t 0)⟩,
   ⟨(some 9), none, .move (.t 1)⟩,
   ⟨(some 10), none, .build [(.pointer none), (.int .i64 0), (.bool false), (.bool false), (.int .i64 0), (.slice none 0 0), (.pointer none), (.pointer none), (.int .i64 0)] [(0, 1), (1, 1), (2, 1), (3, 1), (4, 1), (5, 1), (6, 1), (7, 1), (8, 1)] [(0, (.t 8)), (1, (.t 9))]⟩,
   ⟨(some 11), none, .box (.t 10)⟩,
   ⟨(some 4), none, .move (.t 11)⟩,
   ⟨(some 5), none, .move (.c (.int .i64 0))⟩] (some [4, 5]))
 .ret))), [.tmp 4, .tmp 5]⟩

theorem is100 : FnIs Tryz.prog 100 x100 := ⟨Tryz.f100, _, Tryz.func100, by kernel_rfl, rfl, by kernel_rfl, by decide, by kernel_rfl⟩

/-- cloisonne/vault.copied -/
def x101 : XDecl := .code ⟨1, 
 (.seq (.ops [⟨(some 1), none, .box (.t 0)⟩,
   ⟨(some 2), none, .alloc [(.int .i64 0), (.int .i64 0), (.int .i64 0), (.slice none 0 0)]⟩] (some [1, 2]))
 (.seq (.ops [⟨(some 4), none, .fieldAddr 3 (.t 1)⟩,
   ⟨(some 5), none, .load false 1 (.t 4)⟩,
   ⟨(some 6), none, .call (.c (.func (.func 159) #[] #[])) [(.t 5)]⟩,
   ⟨(some 7), none, .fieldAddr 3 (.t 1)⟩,
   ⟨none, none, .store 1 (.t 7) (.t 6)⟩] (some [1, 2]))
 (.seq (.seq (.ops [⟨(some 8), none, .fieldAddr 3 (.t 1)⟩,
   ⟨(some 9), none, .load false 1 (.t 8)⟩,
   ⟨(some 10), none, .len (.t 9)⟩,
   ⟨(some 11), none, .move (.c (.int .i64 0))⟩] (some [1, 2, 10, 11]))
 (.block 0
  (.loop
   (.seq (.ops [⟨(some 12), none, .bin .lss 3 (.t 11) (.t 10)⟩] (some [1, 2, 10, 11, 12]))
   (.seq (.cond (.t 12)
    .skip
    (.exit 0))
   (.seq (.block 1
    (.seq (.ops [⟨(some 13), none, .move (.t 11)⟩,
      ⟨(some 3), none, .move (.t 13)⟩] (some [1, 2, 3, 10, 11]))
    (.opsd [(0, 0, ⟨(some 14), none, .fieldAddr 3 (.t 1)⟩),
      (1, 1, ⟨(some 15), none, .load false 1 (.t 14)⟩),
      (2, 0, ⟨(some 16), none, .move (.t 3)⟩),
      (3, 0, ⟨(some 17), none, .fieldAddr 3 (.t 1)⟩),
      (4, 8, ⟨(some 18), none, .load false 1 (.t 17)⟩),
      (5, 0, ⟨(some 19), none, .move (.t 3)⟩),
      (6, 56, ⟨(some 20), none, .indexAddr 4 (.t 18) (.t 19)⟩),
      (7, 120, ⟨(some 21), none, .fieldAddr 0 (.t 20)⟩),
      (8, 248, ⟨(some 22), none, .load false 1 (.t 21)⟩),
      (9, 504, ⟨(some 23), none, .call (.c (.func (.func 136) #[] #[])) [(.t 22)]⟩),
      (10, 1023, ⟨(some 24), none, .indexAddr 4 (.t 15) (.t 16)⟩),
      (11, 2047, ⟨(some 25), none, .fieldAddr 0 (.t 24)⟩),
      (12, 4095, ⟨none, none, .store 1 (.t 25) (.t 23)⟩)] (some [1, 2, 10, 11]))))
   (.ops [⟨(some 26), none, .bin .add 3 (.t 11) (.c (.int .i64 1))⟩,
     ⟨(some 11), none, .move (.t 26)⟩] (some [1, 2, 10, 11]))))))))
 (.seq (.ops [⟨(some 27), none, .load true 4 (.t 1)⟩,
   ⟨none, none, .store 4 (.t 2) (.t 27)⟩] (some [2]))
 .ret)))), [.cell true 4 2]⟩

theorem is101 : FnIs Tryz.prog 101 x101 := ⟨Tryz.f101, _, Tryz.func101, by kernel_rfl, rfl, by kernel_rfl, by decide, by kernel_rfl⟩

/-- cloisonne/cloisonneref20.n -/
def x102 : XDecl := .code ⟨1, 
 (.seq (.ops [⟨(some 2), none, .move (.c (.string .empty))⟩] (some [0]))
 (.seq (.ops [⟨(some 3), none, .move (.t 0)⟩,
   ⟨(some 4), none, .call (.c (.func (.func 160) #[] #[])) [(.t 3)]⟩,
   ⟨(some 2), none, .move (.t 4)⟩] (some [2]))
 .ret)), [.tmp 2]⟩

theorem is102 : FnIs Tryz.prog 102 x102 := ⟨Tryz.f102, _, Tryz.func102, by kernel_rfl, rfl, by kernel_rfl, by decide, by kernel_rfl⟩

/-- cloisonne/cloisonneref20.t -/
def x105 : XDecl := .code ⟨1, 
 (.seq (.ops [⟨(some 2), none, .move (.c (.string .empty))⟩] (some [0]))
 (.seq (.ops [⟨(some 3), none, .move (.t 0)⟩,
   ⟨(some 4), none, .calcB .len [9] 3 [(.t 3)]⟩,
   ⟨(some 5), none, .conv 3 77 (.t 4)⟩,
   ⟨(some 6), none, .call (.c (.func (.func 102) #[] #[])) [(.t 5)]⟩,
   ⟨(some 7), none, .move (.t 0)⟩,
   ⟨(some 8), none, .bin .add 9 (.t 6) (.t 7)⟩,
   ⟨(some 2), none, .move (.t 8)⟩] (some [2]))
 .ret)), [.tmp 2]⟩

theorem is105 : FnIs Tryz.prog 105 x105 := ⟨Tryz.f105, _, Tryz.func105, by kernel_rfl, rfl, by kernel_rfl, by decide, by kernel_rfl⟩

/-- cloisonne/cloisonneref04.Pack -/
def x106 : XDecl := .code ⟨1, 
 (.seq (.ops [⟨(some 1), none, .box (.t 0)⟩,
   ⟨(some 2), none, .move (.c (.string .empty))⟩] (some [1]))
 (.seq (.seq (.ops [⟨(some 3), none, .fieldAddr 0 (.t 1)⟩,
   ⟨(some 4), none, .load false 1 (.t 3)⟩] (some [1, 4]))
 (.cond (.t 4)
  (.seq (.opsd [(0, 0, ⟨(some 5), none, .buildSlice [(.int .u8 0)] 1 1 [(0, (.c (.int .u8 1)))]⟩),
    (1, 1, ⟨(some 6), none, .bstr (.t 5)⟩),
    (2, 0, ⟨(some 7), none, .fieldAddr 2 (.t 1)⟩),
    (3, 4, ⟨(some 8), none, .load false 1 (.t 7)⟩),
    (4, 12, ⟨(some 9), none, .call (.c (.func (.func 162) #[] #[])) [(.t 8)]⟩),
    (5, 28, ⟨(some 10), none, .call (.c (.func (.func 161) #[] #[])) [(.t 9)]⟩),
    (6, 63, ⟨(some 11), none, .bin .add 9 (.t 6) (.t 10)⟩),
    (7, 127, ⟨(some 2), none, .move (.t 11)⟩)] (some [2]))
  .ret)
  .skip))
 (.seq (.ops [⟨(some 12), none, .buildSlice [(.int .u8 0)] 1 1 [(0, (.c (.int .u8 0)))]⟩,
   ⟨(some 13), none, .bstr (.t 12)⟩,
   ⟨(some 14), none, .fieldAddr 1 (.t 1)⟩,
   ⟨(some 15), none, .load false 1 (.t 14)⟩,
   ⟨(some 16), none, .bin .add 9 (.t 13) (.t 15)⟩,
   ⟨(some 2), none, .move (.t 16)⟩] (some [2]))
 .ret))), [.tmp 2]⟩

theorem is106 : FnIs Tryz.prog 106 x106 := ⟨Tryz.f106, _, Tryz.func106, by kernel_rfl, rfl, by kernel_rfl, by decide, by kernel_rfl⟩

/-- (*cloisonne/sess.Session).Point -/
def x107 : XDecl := .code ⟨1, 
 (.seq (.ops [⟨(some 2), none, .move (.c (.int .i64 0))⟩] (some [0]))
 (.seq (.seq (.ops [⟨(some 3), none, .move (.t 0)⟩,
   ⟨(some 4), none, .isNil .ptr false (.t 3)⟩] (some [0, 4]))
 (.cond (.t 4)
  (.seq (.ops [⟨(some 2), none, .move (.c (.int .i64 0))⟩] (some [2]))
  .ret)
  .skip))
 (.seq (.ops [⟨(some 5), none, .move (.t 0)⟩,
   ⟨(some 6), none, .nilCheck (.t 5)⟩,
   ⟨(some 7), none, .fieldAddr 8 (.t 6)⟩,
   ⟨(some 8), none, .load false 1 (.t 7)⟩,
   ⟨(some 2), none, .move (.t 8)⟩] (some [2]))
 .ret))), [.tmp 2]⟩

theorem is107 : FnIs Tryz.prog 107 x107 := ⟨Tryz.f107, _, Tryz.func107, by kernel_rfl, rfl, by kernel_rfl, by decide, by kernel_rfl⟩

/-- slices.stableCmpFunc[cloisonne/api.Call] -/
def x108 : XDecl := .code ⟨3, 
 (.seq (.ops [⟨(some 6), none, .move (.c (.int .i64 20))⟩] (some [0, 1, 2, 6]))
 (.seq (.ops [⟨(some 10), none, .move (.t 6)⟩,
   ⟨(some 7), none, .move (.c (.int .i64 0))⟩,
   ⟨(some 8), none, .move (.t 10)⟩] (some [0, 1, 2, 6, 7, 8]))
 (.seq (.block 0
  (.loop
   (.seq (.seq (.ops [⟨(some 11), none, .move (.t 8)⟩,
     ⟨(some 12), none, .move (.t 1)⟩,
     ⟨(some 13), none, .bin .leq 3 (.t 11) (.t 12)⟩] (some [0, 1, 2, 6, 7, 8, 13]))
   (.cond (.t 13)
    .skip
    (.exit 0)))
   (.block 1
    (.seq (.ops [⟨(some 14), none, .move (.t 0)⟩,
      ⟨(some 15), none, .move (.t 7)⟩,
      ⟨(some 16), none, .move (.t 8)⟩,
      ⟨(some 17), none, .move (.t 2)⟩,
      ⟨(some 18), none, .call (.c (.func (.func 163) #[] #[])) [(.t 14), (.t 15), (.t 16), (.t 17)]⟩] (some [0, 1, 2, 6, 8]))
    (.seq (.ops [⟨(some 19), none, .move (.t 8)⟩,
      ⟨(some 7), none, .move (.t 19)⟩] (some [0, 1, 2, 6, 7, 8]))
    (.ops [⟨(some 20), none, .move (.t 8)⟩,
      ⟨(some 21), none, .move (.t 6)⟩,
      ⟨(some 22), none, .bin .add 3 (.t 20) (.t 21)⟩,
      ⟨(some 8), none, .move (.t 22)⟩] (some [0, 1, 2, 6, 7, 8]))))))))
 (.seq (.ops [⟨(some 23), none, .move (.t 0)⟩,
   ⟨(some 24), none, .move (.t 7)⟩,
   ⟨(some 25), none, .move (.t 1)⟩,
   ⟨(some 26), none, .move (.t 2)⟩,
   ⟨(some 27), none, .call (.c (.func (.func 163) #[] #[])) [(.t 23), (.t 24), (.t 25), (.t 26)]⟩] (some [0, 1, 2, 6]))
 (.block 2
  (.loop
   (.seq (.seq (.ops [⟨(some 28), none, .move (.t 6)⟩,
     ⟨(some 29), none, .move (.t 1)⟩,
     ⟨(some 30), none, .bin .lss 3 (.t 28) (.t 29)⟩] (some [0, 1, 2, 6, 30]))
   (.cond (.t 30)
    .skip
    (.exit 2)))
   (.block 3
    (.seq (.ops [⟨(some 31), none, .move (.t 6)⟩,
      ⟨(some 32), none, .bin .mul 3 (.c (.int .i64 2)) (.t 31)⟩,
      ⟨(some 7), none, .move (.c (.int .i64 0))⟩,
      ⟨(some 8), none, .move (.t 32)⟩] (some [0, 1, 2, 6, 7, 8]))
    (.seq (.block 4
     (.loop
      (.seq (.seq (.ops [⟨(some 33), none, .move (.t 8)⟩,
        ⟨(some 34), none, .move (.t 1)⟩,
        ⟨(some 35), none, .bin .leq 3 (.t 33) (.t 34)⟩] (some [0, 1, 2, 6, 7, 8, 35]))
      (.cond (.t 35)
       .skip
       (.exit 4)))
      (.block 5
       (.seq (.ops [⟨(some 36), none, .move (.t 0)⟩,
         ⟨(some 37), none, .move (.t 7)⟩,
         ⟨(some 38), none, .move (.t 7)⟩,
         ⟨(some 39), none, .move (.t 6)⟩,
         ⟨(some 40), none, .bin .add 3 (.t 38) (.t 39)⟩,
         ⟨(some 41), none, .move (.t 8)⟩,
         ⟨(some 42), none, .move (.t 2)⟩,
         ⟨(some 43), none, .call (.c (.func (.func 164) #[] #[])) [(.t 36), (.t 37), (.t 40), (.t 41), (.t 42)]⟩] (some [0, 1, 2, 6, 8]))
       (.seq (.ops [⟨(some 44), none, .move (.t 8)⟩,
         ⟨(some 7), none, .move (.t 44)⟩] (some [0, 1, 2, 6, 7, 8]))
       (.ops [⟨(some 45), none, .move (.t 8)⟩,
         ⟨(some 46), none, .move (.t 6)⟩,
         ⟨(some 47), none, .bin .mul 3 (.c (.int .i64 2)) (.t 46)⟩,
         ⟨(some 48), none, .bin .add 3 (.t 45) (.t 47)⟩,
         ⟨(some 8), none, .move (.t 48)⟩] (some [0, 1, 2, 6, 7, 8]))))))))
    (.seq (.seq (.ops [⟨(some 49), none, .move (.t 7)⟩,
      ⟨(some 50), none, .move (.t 6)⟩,
      ⟨(some 51), none, .bin .add 3 (.t 49) (.t 50)⟩,
      ⟨(some 9), none, .move (.t 51)⟩] (some [0, 1, 2, 6, 7, 9]))
    (.seq (.ops [⟨(some 52), none, .move (.t 9)⟩,
      ⟨(some 53), none, .move (.t 1)⟩,
      ⟨(some 54), none, .bin .lss 3 (.t 52) (.t 53)⟩] (some [0, 1, 2, 6, 7, 9, 54]))
    (.cond (.t 54)
     (.ops [⟨(some 55), none, .move (.t 0)⟩,
       ⟨(some 56), none, .move (.t 7)⟩,
       ⟨(some 57), none, .move (.t 9)⟩,
       ⟨(some 58), none, .move (.t 1)⟩,
       ⟨(some 59), none, .move (.t 2)⟩,
       ⟨(some 60), none, .call (.c (.func (.func 164) #[] #[])) [(.t 55), (.t 56), (.t 57), (.t 58), (.t 59)]⟩] (some [0, 1, 2, 6]))
     .skip)))
    (.ops [⟨(some 61), none, .move (.t 6)⟩,
      ⟨(some 62), none, .bin .mul 3 (.t 61) (.c (.int .i64 2))⟩,
      ⟨(some 6), none, .move (.t 62)⟩] (some [0, 1, 2, 6]))))))))))))), []⟩

theorem is108 : FnIs Tryz.prog 108 x108 := ⟨Tryz.f108, _, Tryz.func108, by kernel_rfl, rfl, by kernel_rfl, by decide, by kernel_rfl⟩

/-- cmp.isNaN[int] -/
def x109 : XDecl := .code ⟨1, 
 (.seq (.ops [⟨(some 2), none, .move (.c (.bool false))⟩] (some [0]))
 (.seq (.ops [⟨(some 3), none, .move (.t 0)⟩,
   ⟨(some 4), none, .move (.t 0)⟩,
   ⟨(some 5), none, .bin .neq 3 (.t 3) (.t 4)⟩,
   ⟨(some 2), none, .move (.t 5)⟩] (some [2]))
 .ret)), [.tmp 2]⟩

theorem is109 : FnIs Tryz.prog 109 x109 := ⟨Tryz.f109, _, Tryz.func109, by kernel_rfl, rfl, by kernel_rfl, by decide, by kernel_rfl⟩

/-- cloisonne/value.Right -/
def x116 : XDecl := .code ⟨1, 
 (.seq (.ops [⟨(some 1), none, .box (.t 0)⟩,
   ⟨(some 2), none, .move (.c (.bool false))⟩] (some [1]))
 (.seq (.seq (.ops [⟨(some 3), none, .fieldAddr 0 (.t 1)⟩,
   ⟨(some 4), none, .load false 1 (.t 3)⟩] (some [1, 4]))
 (.cond (.t 4)
  (.seq (.opsd [(0, 0, ⟨(some 5), none, .fieldAddr 1 (.t 1)⟩),
    (1, 1, ⟨(some 6), none, .load false 1 (.t 5)⟩),
    (2, 3, ⟨(some 7), none, .bin .eql 9 (.t 6) (.c (.string .empty))⟩),
    (3, 7, ⟨(some 8), none, .move (.t 7)⟩),
    (4, 15, ⟨(some 9), (some (8, true)), .fieldAddr 2 (.t 1)⟩),
    (5, 31, ⟨(some 10), (some (8, true)), .load false 1 (.t 9)⟩),
    (8, 15, ⟨(some 13), (some (8, true)), .fieldAddr 2 (.t 1)⟩),
    (9, 271, ⟨(some 14), (some (8, true)), .load false 1 (.t 13)⟩),
    (6, 63, ⟨(some 11), (some (8, true)), .call (.c (.func (.func 168) #[] #[])) [(.t 10)]⟩),
    (7, 127, ⟨(some 12), (some (8, true)), .call (.c (.func (.func 167) #[] #[])) [(.t 11)]⟩),
    (10, 1023, ⟨(some 15), (some (8, true)), .bin .eql 77 (.t 12) (.t 14)⟩),
    (11, 2047, ⟨(some 16), none, .pick (.t 8) (.t 15) (.c (.bool false))⟩),
    (12, 4095, ⟨(some 2), none, .move (.t 16)⟩)] (some [2]))
  .ret)
  .skip))
 (.seq (.ops [⟨(some 17), none, .fieldAddr 2 (.t 1)⟩,
   ⟨(some 18), none, .load false 1 (.t 17)⟩,
   ⟨(some 19), none, .bin .eql 77 (.t 18) (.c (.int .u64 0))⟩,
   ⟨(some 20), none, .move (.t 19)⟩,
   ⟨(some 21), (some (20, true)), .fieldAddr 1 (.t 1)⟩,
   ⟨(some 22), (some (20, true)), .load false 1 (.t 21)⟩,
   ⟨(some 23), (some (20, true)), .calcB .len [9] 3 [(.t 22)]⟩,
   ⟨(some 24), (some (20, true)), .bin .leq 3 (.t 23) (.c (.int .i64 64))⟩,
   ⟨(some 25), none, .pick (.t 20) (.t 24) (.c (.bool false))⟩,
   ⟨(some 2), none, .move (.t 25)⟩] (some [2]))
 .ret))), [.tmp 2]⟩

theorem is116 : FnIs Tryz.prog 116 x116 := ⟨Tryz.f116, _, Tryz.func116, by kernel_rfl, rfl, by kernel_rfl, by decide, by kernel_rfl⟩

/-- slices.Clone[[]cloisonne/api.Write,cloisonne/api.Write] -/
def x119 : XDecl := .code ⟨1, 
 (.seq (.ops [⟨(some 2), none, .move (.c (.slice none 0 0))⟩] (some [0]))
 (.seq (.seq (.ops [⟨(some 3), none, .move (.t 0)⟩,
   ⟨(some 4), none, .isNil .slice false (.t 3)⟩] (some [0, 4]))
 (.cond (.t 4)
  (.seq (.ops [⟨(some 2), none, .move (.c (.slice none 0 0))⟩] (some [2]))
  .ret)
  .skip))
 (.seq (.ops [⟨(some 5), none, .buildSlice [(.string .empty), (.bool false), (.bool false), (.string .empty), (.int .u64 0)] 5 0 []⟩,
   ⟨(some 6), none, .move (.t 0)⟩,
   ⟨(some 7), none, .append 5 56 [(.string .empty), (.bool false), (.bool false), (.string .empty), (.int .u64 0)] (.t 5) (.t 6)⟩,
   ⟨(some 2), none, .move (.t 7)⟩] (some [2]))
 .ret))), [.tmp 2]⟩

theorem is119 : FnIs Tryz.prog 119 x119 := ⟨Tryz.f119, _, Tryz.func119, by kernel_rfl, rfl, by kernel_rfl, by decide, by kernel_rfl⟩

/-- cloisonne/cloisonneref11.Right -/
def x120 : XDecl := .code ⟨1, 
 (.seq (.ops [⟨(some 1), none, .box (.t 0)⟩,
   ⟨(some 2), none, .move (.c (.bool false))⟩] (some [1]))
 (.seq (.ops [⟨(some 3), none, .fieldAddr 0 (.t 1)⟩,
   ⟨(some 4), none, .load false 1 (.t 3)⟩,
   ⟨(some 5), none, .call (.c (.func (.func 172) #[] #[])) [(.t 4)]⟩,
   ⟨(some 6), none, .move (.t 5)⟩,
   ⟨(some 7), (some (6, true)), .fieldAddr 1 (.t 1)⟩,
   ⟨(some 8), (some (6, true)), .load false 1 (.t 7)⟩,
   ⟨(some 9), (some (6, true)), .bin .geq 3 (.t 8) (.c (.int .i64 1))⟩,
   ⟨(some 10), none, .pick (.t 6) (.t 9) (.c (.bool false))⟩,
   ⟨(some 11), none, .move (.t 10)⟩,
   ⟨(some 12), (some (11, true)), .fieldAddr 1 (.t 1)⟩,
   ⟨(some 13), (some (11, true)), .load false 1 (.t 12)⟩,
   ⟨(some 14), (some (11, true)), .bin .leq 3 (.t 13) (.c (.int .i64 16))⟩,
   ⟨(some 15), none, .pick (.t 11) (.t 14) (.c (.bool false))⟩,
   ⟨(some 16), none, .move (.t 15)⟩,
   ⟨(some 17), (some (16, true)), .fieldAddr 2 (.t 1)⟩,
   ⟨(some 18), (some (16, true)), .load false 1 (.t 17)⟩,
   ⟨(some 19), (some (16, true)), .bin .geq 3 (.t 18) (.c (.int .i64 0))⟩,
   ⟨(some 20), none, .pick (.t 16) (.t 19) (.c (.bool false))⟩,
   ⟨(some 21), none, .move (.t 20)⟩,
   ⟨(some 22), (some (21, true)), .fieldAddr 2 (.t 1)⟩,
   ⟨(some 23), (some (21, true)), .load false 1 (.t 22)⟩,
   ⟨(some 24), (some (21, true)), .bin .leq 3 (.t 23) (.c (.int .i64 1048576))⟩,
   ⟨(some 25), none, .pick (.t 21) (.t 24) (.c (.bool false))⟩,
   ⟨(some 26), none, .move (.t 25)⟩,
   ⟨(some 27), (some (26, true)), .fieldAddr 3 (.t 1)⟩,
   ⟨(some 28), (some (26, true)), .load false 1 (.t 27)⟩,
   ⟨(some 29), (some (26, true)), .bin .geq 3 (.t 28) (.c (.int .i64 1))⟩,
   ⟨(some 30), none, .pick (.t 26) (.t 29) (.c (.bool false))⟩,
   ⟨(some 31), none, .move (.t 30)⟩,
   ⟨(some 32), (some (31, true)), .fieldAddr 3 (.t 1)⟩,
   ⟨(some 33), (some (31, true)), .load false 1 (.t 32)⟩,
   ⟨(some 34), (some (31, true)), .bin .leq 3 (.t 33) (.c (.int .i64 1073741824))⟩,
   ⟨(some 35), none, .pick (.t 31) (.t 34) (.c (.bool false))⟩,
   ⟨(some 2), none, .move (.t 35)⟩] (some [2]))
 .ret)), [.tmp 2]⟩

theorem is120 : FnIs Tryz.prog 120 x120 := ⟨Tryz.f120, _, Tryz.func120, by kernel_rfl, rfl, by kernel_rfl, by decide, by kernel_rfl⟩

/-- cloisonne/cloisonneref02.Same -/
def x121 : XDecl := .code ⟨2, 
 (.seq (.ops [⟨(some 4), none, .move (.c (.bool false))⟩] (some [0, 1]))
 (.seq (.ops [⟨(some 5), none, .move (.t 0)⟩,
   ⟨(some 6), none, .move (.t 1)⟩,
   ⟨(some 7), none, .call (.c (.func (.func 173) #[] #[])) [(.t 5), (.t 6)]⟩,
   ⟨(some 8), none, .bin .eql 3 (.t 7) (.c (.int .i64 0))⟩,
   ⟨(some 4), none, .move (.t 8)⟩] (some [4]))
 .ret)), [.tmp 4]⟩

theorem is121 : FnIs Tryz.prog 121 x121 := ⟨Tryz.f121, _, Tryz.func121, by kernel_rfl, rfl, by kernel_rfl, by decide, by kernel_rfl⟩

/-- slices.Contains[[]cloisonne/ask.field,cloisonne/ask.field] -/
def x122 : XDecl := .code ⟨2, 
 (.seq (.ops [⟨(some 4), none, .move (.c (.bool false))⟩] (some [0, 1]))
 (.seq (.ops [⟨(some 5), none, .move (.t 0)⟩,
   ⟨(some 6), none, .move (.t 1)⟩,
   ⟨(some 7), none, .call (.c (.func (.func 174) #[] #[])) [(.t 5), (.t 6)]⟩,
   ⟨(some 8), none, .bin .geq 3 (.t 7) (.c (.int .i64 0))⟩,
   ⟨(some 4), none, .move (.t 8)⟩] (some [4]))
 .ret)), [.tmp 4]⟩

theorem is122 : FnIs Tryz.prog 122 x122 := ⟨Tryz.f122, _, Tryz.func122, by kernel_rfl, rfl, by kernel_rfl, by decide, by kernel_rfl⟩

/-- cloisonne/ask.named -/
def x123 : XDecl := .code ⟨2, 
 (.seq (.ops [⟨(some 2), none, .box (.t 0)⟩,
   ⟨(some 4), none, .move (.c (.bool false))⟩] (some [1, 2]))
 (.seq (.seq (.ops [⟨(some 5), none, .move (.t 1)⟩] (some [2, 5]))
 (.block 0
  (.seq (.ops [⟨(some 7), none, .bin .eql 160 (.t 5) (.c (.int .i64 0))⟩,
    ⟨(some 6), none, .move (.t 7)⟩] (some [2, 5, 6]))
  (.cond (.t 6)
   (.seq (.ops [⟨(some 8), none, .fieldAddr 1 (.t 2)⟩,
     ⟨(some 9), none, .load false 1 (.t 8)⟩,
     ⟨(some 10), none, .call (.c (.func (.func 125) #[] #[])) [(.t 9), (.c (.int .i64 0)), (.c (.int .i64 7))]⟩,
     ⟨(some 4), none, .move (.t 10)⟩] (some [4]))
   .ret)
   (.seq (.ops [⟨(some 12), none, .bin .eql 160 (.t 5) (.c (.int .i64 1))⟩,
     ⟨(some 11), none, .move (.t 12)⟩] (some [2, 5, 11]))
   (.cond (.t 11)
    (.seq (.ops [⟨(some 13), none, .fieldAddr 2 (.t 2)⟩,
      ⟨(some 14), none, .load false 1 (.t 13)⟩,
      ⟨(some 15), none, .call (.c (.func (.func 175) #[] #[])) [(.t 14)]⟩,
      ⟨(some 4), none, .move (.t 15)⟩] (some [4]))
    .ret)
    (.seq (.ops [⟨(some 17), none, .bin .eql 160 (.t 5) (.c (.int .i64 2))⟩,
      ⟨(some 16), none, .move (.t 17)⟩] (some [2, 5, 16]))
    (.cond (.t 16)
     (.seq (.ops [⟨(some 18), none, .fieldAddr 3 (.t 2)⟩,
       ⟨(some 19), none, .load false 1 (.t 18)⟩,
       ⟨(some 20), none, .bin .geq 77 (.t 19) (.c (.int .u64 1))⟩,
       ⟨(some 4), none, .move (.t 20)⟩] (some [4]))
     .ret)
     (.seq (.ops [⟨(some 22), none, .bin .eql 160 (.t 5) (.c (.int .i64 4))⟩,
       ⟨(some 21), none, .move (.t 22)⟩] (some [2, 5, 21]))
     (.cond (.t 21)
      (.seq (.ops [⟨(some 23), none, .fieldAddr 5 (.t 2)⟩,
        ⟨(some 24), none, .load false 1 (.t 23)⟩,
        ⟨(some 25), none, .call (.c (.func (.func 125) #[] #[])) [(.t 24), (.c (.int .i64 0)), (.c (.int .i64 7))]⟩,
        ⟨(some 4), none, .move (.t 25)⟩] (some [4]))
      .ret)
      (.seq (.ops [⟨(some 27), none, .bin .eql 160 (.t 5) (.c (.int .i64 5))⟩,
        ⟨(some 26), none, .move (.t 27)⟩] (some [2, 5, 26]))
      (.cond (.t 26)
       (.seq (.ops [⟨(some 28), none, .fieldAddr 6 (.t 2)⟩,
         ⟨(some 29), none, .load false 1 (.t 28)⟩,
         ⟨(some 30), none, .calcB .len [9] 3 [(.t 29)]⟩,
         ⟨(some 31), none, .call (.c (.func (.func 125) #[] #[])) [(.t 30), (.c (.int .i64 1)), (.c (.int .i64 32))]⟩,
         ⟨(some 4), none, .move (.t 31)⟩] (some [4]))
       .ret)
       (.seq (.ops [⟨(some 33), none, .bin .eql 160 (.t 5) (.c (.int .i64 6))⟩,
         ⟨(some 32), none, .move (.t 33)⟩] (some [2, 5, 32]))
       (.cond (.t 32)
        (.seq (.ops [⟨(some 34), none, .fieldAddr 7 (.t 2)⟩,
          ⟨(some 35), none, .load true 3 (.t 34)⟩,
          ⟨(some 36), none, .call (.c (.func (.func 116) #[] #[])) [(.t 35)]⟩,
          ⟨(some 4), none, .move (.t 36)⟩] (some [4]))
        .ret)
        (.seq (.ops [⟨(some 38), none, .bin .eql 160 (.t 5) (.c (.int .i64 7))⟩,
          ⟨(some 37), none, .move (.t 38)⟩] (some [2, 5, 37]))
        (.cond (.t 37)
         (.seq (.ops [⟨(some 39), none, .fieldAddr 10 (.t 2)⟩,
           ⟨(some 40), none, .load true 3 (.t 39)⟩,
           ⟨(some 41), none, .call (.c (.func (.func 176) #[] #[])) [(.t 40)]⟩,
           ⟨(some 42), none, .move (.t 41)⟩,
           ⟨(some 43), (some (42, true)), .fieldAddr 10 (.t 2)⟩,
           ⟨(some 44), (some (42, true)), .fieldAddr 0 (.t 43)⟩,
           ⟨(some 45), (some (42, true)), .load false 1 (.t 44)⟩,
           ⟨(some 46), (some (42, true)), .calcB .len [9] 3 [(.t 45)]⟩,
           ⟨(some 47), (some (42, true)), .bin .leq 3 (.t 46) (.c (.int .i64 32))⟩,
           ⟨(some 48), none, .pick (.t 42) (.t 47) (.c (.bool false))⟩,
           ⟨(some 49), none, .move (.t 48)⟩,
           ⟨(some 50), (some (49, true)), .fieldAddr 10 (.t 2)⟩,
           ⟨(some 51), (some (49, true)), .fieldAddr 1 (.t 50)⟩,
           ⟨(some 52), (some (49, true)), .load false 1 (.t 51)⟩,
           ⟨(some 53), (some (49, true)), .calcB .len [9] 3 [(.t 52)]⟩,
           ⟨(some 54), (some (49, true)), .bin .leq 3 (.t 53) (.c (.int .i64 32))⟩,
           ⟨(some 55), none, .pick (.t 49) (.t 54) (.c (.bool false))⟩,
           ⟨(some 4), none, .move (.t 55)⟩] (some [4]))
         .ret)
         (.seq (.ops [⟨(some 57), none, .bin .eql 160 (.t 5) (.c (.int .i64 8))⟩,
           ⟨(some 56), none, .move (.t 57)⟩] (some [2, 5, 56]))
         (.cond (.t 56)
          (.seq (.ops [⟨(some 58), none, .fieldAddr 13 (.t 2)⟩,
            ⟨(some 59), none, .load false 1 (.t 58)⟩,
            ⟨(some 60), none, .call (.c (.func (.func 125) #[] #[])) [(.t 59), (.c (.int .i64 1)), (.c (.int .i64 4))]⟩,
            ⟨(some 4), none, .move (.t 60)⟩] (some [4]))
          .ret)
          (.seq (.ops [⟨(some 62), none, .bin .eql 160 (.t 5) (.c (.int .i64 9))⟩,
            ⟨(some 61), none, .move (.t 62)⟩] (some [2, 61]))
          (.cond (.t 61)
           (.seq (.ops [⟨(some 63), none, .fieldAddr 14 (.t 2)⟩,
             ⟨(some 64), none, .load false 1 (.t 63)⟩,
             ⟨(some 65), none, .call (.c (.func (.func 177) #[] #[])) [(.t 64)]⟩,
             ⟨(some 4), none, .move (.t 65)⟩] (some [4]))
           .ret)
           .skip))))))))))))))))))))
 (.seq (.ops [⟨(some 4), none, .move (.c (.bool true))⟩] (some [4]))
 .ret))), [.tmp 4]⟩

theorem is123 : FnIs Tryz.prog 123 x123 := ⟨Tryz.f123, _, Tryz.func123, by kernel_rfl, rfl, by kernel_rfl, by decide, by kernel_rfl⟩

/-- cloisonne/ask.zero -/
def x124 : XDecl := .code ⟨2, 
 (.seq (.ops [⟨(some 2), none, .box (.t 0)⟩,
   ⟨(some 4), none, .move (.c (.bool false))⟩] (some [1, 2]))
 (.seq (.seq (.ops [⟨(some 5), none, .move (.t 1)⟩] (some [2, 5]))
 (.block 0
  (.seq (.ops [⟨(some 7), none, .bin .eql 160 (.t 5) (.c (.int .i64 0))⟩,
    ⟨(some 6), none, .move (.t 7)⟩] (some [2, 5, 6]))
  (.cond (.t 6)
   (.seq (.ops [⟨(some 8), none, .fieldAddr 1 (.t 2)⟩,
     ⟨(some 9), none, .load false 1 (.t 8)⟩,
     ⟨(some 10), none, .bin .eql 3 (.t 9) (.c (.int .i64 0))⟩,
     ⟨(some 4), none, .move (.t 10)⟩] (some [4]))
   .ret)
   (.seq (.ops [⟨(some 12), none, .bin .eql 160 (.t 5) (.c (.int .i64 1))⟩,
     ⟨(some 11), none, .move (.t 12)⟩] (some [2, 5, 11]))
   (.cond (.t 11)
    (.seq (.ops [⟨(some 13), none, .fieldAddr 2 (.t 2)⟩,
      ⟨(some 14), none, .load false 1 (.t 13)⟩,
      ⟨(some 15), none, .len (.t 14)⟩,
      ⟨(some 16), none, .bin .eql 3 (.t 15) (.c (.int .i64 0))⟩,
      ⟨(some 4), none, .move (.t 16)⟩] (some [4]))
    .ret)
    (.seq (.ops [⟨(some 18), none, .bin .eql 160 (.t 5) (.c (.int .i64 2))⟩,
      ⟨(some 17), none, .move (.t 18)⟩] (some [2, 5, 17]))
    (.cond (.t 17)
     (.seq (.ops [⟨(some 19), none, .fieldAddr 3 (.t 2)⟩,
       ⟨(some 20), none, .load false 1 (.t 19)⟩,
       ⟨(some 21), none, .bin .eql 77 (.t 20) (.c (.int .u64 0))⟩,
       ⟨(some 4), none, .move (.t 21)⟩] (some [4]))
     .ret)
     (.seq (.ops [⟨(some 23), none, .bin .eql 160 (.t 5) (.c (.int .i64 3))⟩,
       ⟨(some 22), none, .move (.t 23)⟩] (some [2, 5, 22]))
     (.cond (.t 22)
      (.seq (.ops [⟨(some 24), none, .fieldAddr 4 (.t 2)⟩,
        ⟨(some 25), none, .load false 1 (.t 24)⟩,
        ⟨(some 26), none, .un .not (.t 25)⟩,
        ⟨(some 4), none, .move (.t 26)⟩] (some [4]))
      .ret)
      (.seq (.ops [⟨(some 28), none, .bin .eql 160 (.t 5) (.c (.int .i64 4))⟩,
        ⟨(some 27), none, .move (.t 28)⟩] (some [2, 5, 27]))
      (.cond (.t 27)
       (.seq (.ops [⟨(some 29), none, .fieldAddr 5 (.t 2)⟩,
         ⟨(some 30), none, .load false 1 (.t 29)⟩,
         ⟨(some 31), none, .bin .eql 3 (.t 30) (.c (.int .i64 0))⟩,
         ⟨(some 4), none, .move (.t 31)⟩] (some [4]))
       .ret)
       (.seq (.ops [⟨(some 33), none, .bin .eql 160 (.t 5) (.c (.int .i64 5))⟩,
         ⟨(some 32), none, .move (.t 33)⟩] (some [2, 5, 32]))
       (.cond (.t 32)
        (.seq (.ops [⟨(some 34), none, .fieldAddr 6 (.t 2)⟩,
          ⟨(some 35), none, .load false 1 (.t 34)⟩,
          ⟨(some 36), none, .bin .eql 9 (.t 35) (.c (.string .empty))⟩,
          ⟨(some 4), none, .move (.t 36)⟩] (some [4]))
        .ret)
        (.seq (.ops [⟨(some 38), none, .bin .eql 160 (.t 5) (.c (.int .i64 6))⟩,
          ⟨(some 37), none, .move (.t 38)⟩] (some [2, 5, 37]))
        (.cond (.t 37)
         (.seq (.ops [⟨(some 39), none, .fieldAddr 7 (.t 2)⟩,
           ⟨(some 40), none, .load true 3 (.t 39)⟩,
           ⟨(some 41), none, .build [(.bool false), (.string .empty), (.int .u64 0)] [(0, 1), (1, 1), (2, 1)] []⟩,
           ⟨(some 42), none, .bin .eql 79 (.t 40) (.t 41)⟩,
           ⟨(some 4), none, .move (.t 42)⟩] (some [4]))
         .ret)
         (.seq (.ops [⟨(some 44), none, .bin .eql 160 (.t 5) (.c (.int .i64 7))⟩,
           ⟨(some 43), none, .move (.t 44)⟩] (some [2, 5, 43]))
         (.cond (.t 43)
          (.seq (.ops [⟨(some 45), none, .fieldAddr 10 (.t 2)⟩,
            ⟨(some 46), none, .load true 3 (.t 45)⟩,
            ⟨(some 47), none, .build [(.string .empty), (.string .empty), (.int .i64 0)] [(0, 1), (1, 1), (2, 1)] []⟩,
            ⟨(some 48), none, .bin .eql 81 (.t 46) (.t 47)⟩,
            ⟨(some 4), none, .move (.t 48)⟩] (some [4]))
          .ret)
          (.seq (.ops [⟨(some 50), none, .bin .eql 160 (.t 5) (.c (.int .i64 8))⟩,
            ⟨(some 49), none, .move (.t 50)⟩] (some [2, 49]))
          (.cond (.t 49)
           (.seq (.ops [⟨(some 51), none, .fieldAddr 13 (.t 2)⟩,
             ⟨(some 52), none, .load false 1 (.t 51)⟩,
             ⟨(some 53), none, .bin .eql 3 (.t 52) (.c (.int .i64 0))⟩,
             ⟨(some 4), none, .move (.t 53)⟩] (some [4]))
           .ret)
           .skip))))))))))))))))))))
 (.seq (.ops [⟨(some 54), none, .fieldAddr 14 (.t 2)⟩,
   ⟨(some 55), none, .load false 1 (.t 54)⟩,
   ⟨(some 56), none, .len (.t 55)⟩,
   ⟨(some 57), none, .bin .eql 3 (.t 56) (.c (.int .i64 0))⟩,
   ⟨(some 4), none, .move (.t 57)⟩] (some [4]))
 .ret))), [.tmp 4]⟩

theorem is124 : FnIs Tryz.prog 124 x124 := ⟨Tryz.f124, _, Tryz.func124, by kernel_rfl, rfl, by kernel_rfl, by decide, by kernel_rfl⟩

/-- cloisonne/ask.within -/
def x125 : XDecl := .code ⟨3, 
 (.seq (.ops [⟨(some 6), none, .move (.c (.bool false))⟩] (some [0, 1, 2]))
 (.seq (.ops [⟨(some 7), none, .move (.t 0)⟩,
   ⟨(some 8), none, .move (.t 1)⟩,
   ⟨(some 9), none, .bin .geq 3 (.t 7) (.t 8)⟩,
   ⟨(some 10), none, .move (.t 9)⟩,
   ⟨(some 11), (some (10, true)), .move (.t 0)⟩,
   ⟨(some 12), (some (10, true)), .move (.t 2)⟩,
   ⟨(some 13), (some (10, true)), .bin .leq 3 (.t 11) (.t 12)⟩,
   ⟨(some 14), none, .pick (.t 10) (.t 13) (.c (.bool false))⟩,
   ⟨(some 6), none, .move (.t 14)⟩] (some [6]))
 .ret)), [.tmp 6]⟩

theorem is125 : FnIs Tryz.prog 125 x125 := ⟨Tryz.f125, _, Tryz.func125, by kernel_rfl, rfl, by kernel_rfl, by decide, by kernel_rfl⟩

/-- cloisonne/wire.Print -/
def x126 : XDecl := .code ⟨2, 
 (.seq (.ops [⟨(some 4), none, .move (.c (.string .empty))⟩,
   ⟨(some 5), none, .alloc [(.int .i64 0)]⟩] (some [0, 1, 5]))
 (.seq (.ops [⟨none, none, .dfr [(.t 5)]⟩] (some [0, 1, 5]))
 (.seq (.ops [⟨(some 13), none, .move (.t 0)⟩,
   ⟨(some 14), none, .call (.c (.func (.func 179) #[] #[])) [(.t 13)]⟩,
   ⟨(some 12), none, .move (.t 14)⟩,
   ⟨(some 15), none, .extract (.t 12) 0⟩,
   ⟨(some 16), none, .extract (.t 12) 1⟩,
   ⟨(some 17), none, .extract (.t 12) 2⟩,
   ⟨(some 6), none, .move (.t 15)⟩,
   ⟨(some 7), none, .move (.t 16)⟩,
   ⟨(some 8), none, .move (.t 17)⟩] (some [1, 5, 6, 7, 8]))
 (.seq (.ops [⟨(some 18), none, .move (.t 8)⟩,
   ⟨(some 19), none, .move (.t 18)⟩,
   ⟨(some 20), (some (19, true)), .move (.t 6)⟩,
   ⟨(some 21), (some (19, true)), .len (.t 20)⟩,
   ⟨(some 22), (some (19, true)), .move (.t 1)⟩,
   ⟨(some 23), (some (19, true)), .len (.t 22)⟩,
   ⟨(some 24), (some (19, true)), .bin .eql 3 (.t 21) (.t 23)⟩,
   ⟨(some 25), none, .pick (.t 19) (.t 24) (.c (.bool false))⟩,
   ⟨(some 26), none, .call (.c (.func (.func 180) #[] #[])) [(.t 25), (.c (.int .i64 1))]⟩] (some [1, 5, 6, 7]))
 (.seq (.ops [⟨(some 27), none, .build [(.slice none 0 0)] [(0, 1)] []⟩,
   ⟨(some 28), none, .box (.t 27)⟩,
   ⟨(some 9), none, .move (.t 28)⟩] (some [1, 5, 6, 7, 9]))
 (.seq (.seq (.ops [⟨(some 29), none, .move (.t 1)⟩,
   ⟨(some 30), none, .len (.t 29)⟩,
   ⟨(some 31), none, .move (.c (.int .i64 0))⟩] (some [5, 6, 7, 9, 29, 30, 31]))
 (.block 0
  (.loop
   (.seq (.ops [⟨(some 32), none, .bin .lss 3 (.t 31) (.t 30)⟩] (some [5, 6, 7, 9, 29, 30, 31, 32]))
   (.seq (.cond (.t 32)
    .skip
    (.exit 0))
   (.seq (.block 1
    (.seq (.ops [⟨(some 33), none, .move (.t 31)⟩,
      ⟨(some 34), none, .indexAddr 4 (.t 29) (.t 31)⟩,
      ⟨(some 35), none, .load true 4 (.t 34)⟩,
      ⟨(some 11), none, .alloc [(.int .u64 0), (.string .empty), (.slice none 0 0), (.slice none 0 0)]⟩,
      ⟨(some 10), none, .move (.t 33)⟩,
      ⟨none, none, .store 4 (.t 11) (.t 35)⟩] (some [5, 6, 7, 9, 10, 11, 29, 30, 31]))
    (.seq (.ops [⟨(some 36), none, .move (.t 7)⟩,
      ⟨(some 37), none, .move (.t 10)⟩,
      ⟨(some 38), none, .indexAddr 1 (.t 36) (.t 37)⟩,
      ⟨(some 39), none, .load false 1 (.t 38)⟩] (some [5, 6, 7, 9, 10, 11, 29, 30, 31, 39]))
    (.cond (.t 39)
     (.opsd [(0, 0, ⟨(some 40), none, .move (.t 9)⟩),
       (1, 0, ⟨(some 41), none, .move (.t 6)⟩),
       (2, 0, ⟨(some 42), none, .move (.t 10)⟩),
       (3, 6, ⟨(some 43), none, .indexAddr 1 (.t 41) (.t 42)⟩),
       (4, 14, ⟨(some 44), none, .load false 1 (.t 43)⟩),
       (5, 0, ⟨(some 45), none, .load true 4 (.t 11)⟩),
       (6, 63, ⟨(some 46), none, .call (.c (.func (.func 181) #[] #[])) [(.t 40), (.t 44), (.t 45)]⟩)] (some [5, 6, 7, 9, 29, 30, 31]))
     (.opsd [(0, 0, ⟨(some 47), none, .move (.t 9)⟩),
       (1, 0, ⟨(some 48), none, .move (.t 6)⟩),
       (2, 0, ⟨(some 49), none, .move (.t 10)⟩),
       (3, 6, ⟨(some 50), none, .indexAddr 1 (.t 48) (.t 49)⟩),
       (4, 14, ⟨(some 51), none, .load false 1 (.t 50)⟩),
       (5, 0, ⟨(some 52), none, .load true 4 (.t 11)⟩),
       (6, 63, ⟨(some 53), none, .call (.c (.func (.func 182) #[] #[])) [(.t 47), (.t 51), (.t 52)]⟩)] (some [5, 6, 7, 9, 29, 30, 31]))))))
   (.ops [⟨(some 54), none, .bin .add 3 (.t 31) (.c (.int .i64 1))⟩,
     ⟨(some 31), none, .move (.t 54)⟩] (some [5, 6, 7, 9, 29, 30, 31]))))))))
 (.seq (.ops [⟨(some 55), none, .move (.t 9)⟩,
   ⟨(some 56), none, .nilCheck (.t 55)⟩,
   ⟨(some 57), none, .fieldAddr 0 (.t 56)⟩,
   ⟨(some 58), none, .load false 1 (.t 57)⟩,
   ⟨(some 59), none, .bstr (.t 58)⟩,
   ⟨(some 4), none, .move (.t 59)⟩,
   ⟨none, none, .store 1 (.t 5) (.c (.int .i64 0))⟩] (some [4, 5]))
 .ret))))))), [.tmp 4, .cell false 1 5]⟩

theorem is126 : FnIs Tryz.prog 126 x126 := ⟨Tryz.f126, _, Tryz.func126, by kernel_rfl, rfl, by kernel_rfl, by decide, by kernel_rfl⟩

/-- cloisonne/ask.truth -/
def x127 : XDecl := .code ⟨1, 
 (.seq (.ops [⟨(some 2), none, .alloc [(.int .u64 0), (.string .empty), (.slice none 0 0), (.slice none 0 0)]⟩] (some [0, 2]))
 (.seq (.seq (.ops [⟨(some 3), none, .move (.t 0)⟩] (some [2, 3]))
 (.cond (.t 3)
  (.seq (.ops [⟨(some 4), none, .build [(.int .u64 0), (.string .empty), (.slice none 0 0), (.slice none 0 0)] [(0, 1), (1, 1), (2, 1), (3, 1)] [(0, (.c (.int .u64 1)))]⟩,
    ⟨none, none, .store 4 (.t 2) (.t 4)⟩] (some [2]))
  .ret)
  .skip))
 (.seq (.ops [⟨(some 5), none, .build [(.int .u64 0), (.string .empty), (.slice none 0 0), (.slice none 0 0)] [(0, 1), (1, 1), (2, 1), (3, 1)] []⟩,
   ⟨none, none, .store 4 (.t 2) (.t 5)⟩] (some [2]))
 .ret))), [.cell true 4 2]⟩

theorem is127 : FnIs Tryz.prog 127 x127 := ⟨Tryz.f127, _, Tryz.func127, by kernel_rfl, rfl, by kernel_rfl, by decide, by kernel_rfl⟩

/-- cloisonne/ask.small -/
def x130 : XDecl := .code ⟨1, 
 (.seq (.ops [⟨(some 1), none, .box (.t 0)⟩,
   ⟨(some 2), none, .move (.c (.int .i64 0))⟩] (some [1]))
 (.seq (.ops [⟨(some 3), none, .fieldAddr 0 (.t 1)⟩,
   ⟨(some 4), none, .load false 1 (.t 3)⟩,
   ⟨(some 5), none, .bin .leq 77 (.t 4) (.c (.int .u64 2147483647))⟩,
   ⟨(some 6), none, .call (.c (.func (.func 75) #[] #[])) [(.t 5)]⟩] (some [1]))
 (.seq (.ops [⟨(some 7), none, .fieldAddr 0 (.t 1)⟩,
   ⟨(some 8), none, .load false 1 (.t 7)⟩,
   ⟨(some 9), none, .conv 77 3 (.t 8)⟩,
   ⟨(some 2), none, .move (.t 9)⟩] (some [2]))
 .ret))), [.tmp 2]⟩

theorem is130 : FnIs Tryz.prog 130 x130 := ⟨Tryz.f130, _, Tryz.func130, by kernel_rfl, rfl, by kernel_rfl, by decide, by kernel_rfl⟩

/-- (*cloisonne/ask.reader).part -/
def x131 : XDecl := .code ⟨2, 
 (.seq (.ops [⟨(some 4), none, .move (.c (.slice none 0 0))⟩] (some [0, 1]))
 (.seq (.ops [⟨(some 9), none, .move (.t 1)⟩,
   ⟨(some 10), none, .move (.t 0)⟩,
   ⟨(some 11), none, .nilCheck (.t 10)⟩,
   ⟨(some 12), none, .fieldAddr 0 (.t 11)⟩,
   ⟨(some 13), none, .load false 1 (.t 12)⟩,
   ⟨(some 14), none, .call (.c (.func (.func 184) #[] #[])) [(.t 9), (.t 13)]⟩,
   ⟨(some 8), none, .move (.t 14)⟩,
   ⟨(some 15), none, .extract (.t 8) 0⟩,
   ⟨(some 16), none, .extract (.t 8) 1⟩,
   ⟨(some 17), none, .extract (.t 8) 2⟩,
   ⟨(some 5), none, .move (.t 15)⟩,
   ⟨(some 6), none, .move (.t 16)⟩,
   ⟨(some 7), none, .move (.t 17)⟩] (some [0, 5, 6, 7]))
 (.seq (.ops [⟨(some 18), none, .move (.t 7)⟩,
   ⟨(some 19), none, .bin .eql 32 (.t 18) (.c (.int .i64 0))⟩,
   ⟨(some 20), none, .call (.c (.func (.func 75) #[] #[])) [(.t 19)]⟩] (some [0, 5, 6]))
 (.seq (.ops [⟨(some 21), none, .move (.t 0)⟩,
   ⟨(some 22), none, .move (.t 0)⟩,
   ⟨(some 23), none, .nilCheck (.t 22)⟩,
   ⟨(some 24), none, .fieldAddr 0 (.t 23)⟩,
   ⟨(some 25), none, .load false 1 (.t 24)⟩,
   ⟨(some 26), none, .move (.t 6)⟩,
   ⟨(some 27), none, .substr 9 (.t 25) (some (.t 26)) none⟩,
   ⟨(some 28), none, .nilCheck (.t 21)⟩,
   ⟨(some 29), none, .fieldAddr 0 (.t 28)⟩,
   ⟨none, none, .store 1 (.t 29) (.t 27)⟩] (some [5]))
 (.seq (.ops [⟨(some 30), none, .move (.t 5)⟩,
   ⟨(some 4), none, .move (.t 30)⟩] (some [4]))
 .ret))))), [.tmp 4]⟩

theorem is131 : FnIs Tryz.prog 131 x131 := ⟨Tryz.f131, _, Tryz.func131, by kernel_rfl, rfl, by kernel_rfl, by decide, by kernel_rfl⟩

/-- cloisonne/ask.Fits -/
def x132 : XDecl := .code ⟨1, 
 (.seq (.ops [⟨(some 1), none, .box (.t 0)⟩,
   ⟨(some 2), none, .move (.c (.bool false))⟩] (some [1]))
 (.seq (.ops [⟨(some 3), none, .move (.c (.func (.func 185) #[] #[]))⟩] (some [1, 3]))
 (.seq (.block 0
  (.seq (.ops [⟨(some 5), none, .fieldAddr 0 (.t 1)⟩,
    ⟨(some 6), none, .load false 1 (.t 5)⟩,
    ⟨(some 7), none, .bin .lss 32 (.t 6) (.c (.int .i64 0))⟩,
    ⟨(some 8), none, .move (.t 7)⟩,
    ⟨(some 9), (some (8, false)), .fieldAddr 0 (.t 1)⟩,
    ⟨(some 10), (some (8, false)), .load false 1 (.t 9)⟩,
    ⟨(some 11), (some (8, false)), .bin .gtr 32 (.t 10) (.c (.int .i64 20))⟩,
    ⟨(some 12), none, .pick (.t 8) (.c (.bool true)) (.t 11)⟩,
    ⟨(some 4), none, .move (.t 12)⟩] (some [1, 3, 4]))
  (.cond (.t 4)
   (.seq (.ops [⟨(some 2), none, .move (.c (.bool false))⟩] (some [2]))
   .ret)
   (.seq (.ops [⟨(some 14), none, .fieldAddr 0 (.t 1)⟩,
     ⟨(some 15), none, .load false 1 (.t 14)⟩,
     ⟨(some 16), none, .bin .neq 32 (.t 15) (.c (.int .i64 0))⟩,
     ⟨(some 13), none, .move (.t 16)⟩] (some [1, 3, 13]))
   (.cond (.t 13)
    (.seq (.ops [⟨(some 17), none, .load true 12 (.t 1)⟩,
      ⟨(some 18), none, .fieldAddr 0 (.t 1)⟩,
      ⟨(some 19), none, .load false 1 (.t 18)⟩,
      ⟨(some 20), none, .build [(.int .i64 0), (.int .u64 0), (.bool false), (.bool false), (.string .empty), (.int .u64 0), (.slice none 0 0), (.int .i64 0), (.int .u64 0), (.int .u64 0), (.int .u64 0), (.int .u64 0)] [(0, 1), (1, 1), (2, 1), (3, 3), (6, 1), (7, 5)] [(0, (.t 19))]⟩,
      ⟨(some 21), none, .call (.c (.func (.func 187) #[] #[])) [(.t 17), (.t 20)]⟩,
      ⟨(some 2), none, .move (.t 21)⟩] (some [2]))
    .ret)
    .skip)))))
 (.seq (.ops [⟨(some 22), none, .fieldAddr 3 (.t 1)⟩,
   ⟨(some 23), none, .load true 3 (.t 22)⟩,
   ⟨(some 24), none, .call (.c (.func (.func 116) #[] #[])) [(.t 23)]⟩,
   ⟨(some 25), none, .move (.t 24)⟩,
   ⟨(some 26), (some (25, true)), .fieldAddr 2 (.t 1)⟩,
   ⟨(some 27), (some (25, true)), .load false 1 (.t 26)⟩,
   ⟨(some 28), (some (25, true)), .move (.t 27)⟩,
   ⟨(some 29), (some (28, false)), .fieldAddr 3 (.t 1)⟩,
   ⟨(some 30), (some (28, false)), .load true 3 (.t 29)⟩,
   ⟨(some 31), (some (28, false)), .build [(.bool false), (.string .empty), (.int .u64 0)] [(0, 1), (1, 1), (2, 1)] []⟩,
   ⟨(some 32), (some (28, false)), .bin .eql 79 (.t 30) (.t 31)⟩,
   ⟨(some 33), (some (25, true)), .pick (.t 28) (.c (.bool true)) (.t 32)⟩,
   ⟨(some 34), none, .pick (.t 25) (.t 33) (.c (.bool false))⟩,
   ⟨(some 35), none, .move (.t 34)⟩,
   ⟨(some 36), (some (35, true)), .fieldAddr 6 (.t 1)⟩,
   ⟨(some 37), (some (35, true)), .load false 1 (.t 36)⟩,
   ⟨(some 38), (some (35, true)), .len (.t 37)⟩,
   ⟨(some 39), (some (35, true)), .bin .leq 3 (.t 38) (.c (.int .i64 64))⟩,
   ⟨(some 40), none, .pick (.t 35) (.t 39) (.c (.bool false))⟩,
   ⟨(some 41), none, .move (.t 40)⟩,
   ⟨(some 42), (some (41, true)), .fieldAddr 6 (.t 1)⟩,
   ⟨(some 43), (some (41, true)), .load false 1 (.t 42)⟩,
   ⟨(some 44), (some (41, true)), .move (.t 3)⟩,
   ⟨(some 45), (some (41, true)), .call (.c (.func (.func 188) #[] #[])) [(.t 43), (.t 44)]⟩,
   ⟨(some 46), (some (41, true)), .un .not (.t 45)⟩,
   ⟨(some 47), none, .pick (.t 41) (.t 46) (.c (.bool false))⟩,
   ⟨(some 48), none, .move (.t 47)⟩,
   ⟨(some 49), (some (48, true)), .fieldAddr 7 (.t 1)⟩,
   ⟨(some 50), (some (48, true)), .fieldAddr 0 (.t 49)⟩,
   ⟨(some 51), (some (48, true)), .load false 1 (.t 50)⟩,
   ⟨(some 52), (some (48, true)), .call (.c (.func (.func 125) #[] #[])) [(.t 51), (.c (.int .i64 0)), (.c (.int .i64 2147483647))]⟩,
   ⟨(some 53), none, .pick (.t 48) (.t 52) (.c (.bool false))⟩,
   ⟨(some 2), none, .move (.t 53)⟩] (some [2]))
 .ret)))), [.tmp 2]⟩

theorem is132 : FnIs Tryz.prog 132 x132 := ⟨Tryz.f132, _, Tryz.func132, by kernel_rfl, rfl, by kernel_rfl, by decide, by kernel_rfl⟩

/-- (*cloisonne/ask.reader).value -/
def x134 : XDecl := .code ⟨1, 
 (.seq (.ops [⟨(some 2), none, .alloc [(.bool false), (.string .empty), (.int .u64 0)]⟩] (some [0, 2]))
 (.seq (.ops [⟨(some 6), none, .move (.t 0)⟩,
   ⟨(some 7), none, .call (.c (.func (.func 131) #[] #[])) [(.t 6), (.c (.string ⟨#[116]⟩))]⟩,
   ⟨(some 8), none, .indexAddr 4 (.t 7) (.c (.int .i64 0))⟩,
   ⟨(some 9), none, .fieldAddr 1 (.t 8)⟩,
   ⟨(some 10), none, .load false 1 (.t 9)⟩,
   ⟨(some 11), none, .call (.c (.func (.func 189) #[] #[])) [(.t 10)]⟩,
   ⟨(some 5), none, .move (.t 11)⟩,
   ⟨(some 12), none, .extract (.t 5) 0⟩,
   ⟨(some 13), none, .extract (.t 5) 1⟩,
   ⟨(some 3), none, .alloc [(.bool false), (.string .empty), (.int .u64 0)]⟩,
   ⟨none, none, .store 3 (.t 3) (.t 12)⟩,
   ⟨(some 4), none, .move (.t 13)⟩] (some [2, 3, 4]))
 (.seq (.ops [⟨(some 14), none, .move (.t 4)⟩,
   ⟨(some 15), none, .bin .eql 32 (.t 14) (.c (.int .i64 0))⟩,
   ⟨(some 16), none, .call (.c (.func (.func 75) #[] #[])) [(.t 15)]⟩] (some [2, 3]))
 (.seq (.ops [⟨(some 17), none, .load true 3 (.t 3)⟩,
   ⟨none, none, .store 3 (.t 2) (.t 17)⟩] (some [2]))
 .ret)))), [.cell true 3 2]⟩

theorem is134 : FnIs Tryz.prog 134 x134 := ⟨Tryz.f134, _, Tryz.func134, by kernel_rfl, rfl, by kernel_rfl, by decide, by kernel_rfl⟩

/-- cloisonne/ask.unpack -/
def x135 : XDecl := .code ⟨1, 
 (.seq (.ops [⟨(some 2), none, .alloc [(.int .i64 0), (.int .i64 0), (.slice none 0 0), (.int .u64 0), (.bool false), (.int .i64 0), (.string .empty), (.bool false), (.string .empty), (.int .u64 0), (.string .empty), (.string .empty), (.int .i64 0), (.int .i64 0), (.slice none 0 0)]⟩,
   ⟨(some 3), none, .alloc [(.int .i64 0)]⟩] (some [0, 2, 3]))
 (.seq (.ops [⟨none, none, .dfr [(.t 3), (.c (.int .i64 4))]⟩] (some [0, 2, 3]))
 (.seq (.ops [⟨(some 7), none, .move (.t 0)⟩,
   ⟨(some 8), none, .build [(.string .empty)] [(0, 1)] [(0, (.t 7))]⟩,
   ⟨(some 9), none, .box (.t 8)⟩,
   ⟨(some 4), none, .move (.t 9)⟩] (some [2, 3, 4]))
 (.seq (.ops [⟨(some 10), none, .move (.t 4)⟩,
   ⟨(some 11), none, .call (.c (.func (.func 131) #[] #[])) [(.t 10), (.c (.string ⟨#[98]⟩))]⟩,
   ⟨(some 12), none, .indexAddr 4 (.t 11) (.c (.int .i64 0))⟩,
   ⟨(some 13), none, .load true 4 (.t 12)⟩,
   ⟨(some 14), none, .call (.c (.func (.func 130) #[] #[])) [(.t 13)]⟩,
   ⟨(some 15), none, .fieldAddr 0 (.t 2)⟩,
   ⟨none, none, .store 1 (.t 15) (.t 14)⟩] (some [2, 3, 4]))
 (.seq (.seq (.ops [⟨(some 16), none, .fieldAddr 0 (.t 2)⟩,
   ⟨(some 17), none, .load false 1 (.t 16)⟩,
   ⟨(some 18), none, .call (.c (.func (.func 79) #[] #[])) [(.t 17)]⟩,
   ⟨(some 19), none, .len (.t 18)⟩,
   ⟨(some 20), none, .move (.c (.int .i64 0))⟩] (some [2, 3, 4, 18, 19, 20]))
 (.block 0
  (.loop
   (.seq (.ops [⟨(some 21), none, .bin .lss 3 (.t 20) (.t 19)⟩] (some [2, 3, 4, 18, 19, 20, 21]))
   (.seq (.cond (.t 21)
    .skip
    (.exit 0))
   (.seq (.block 1
    (.seq (.ops [⟨(some 22), none, .indexAddr 1 (.t 18) (.t 20)⟩,
      ⟨(some 23), none, .load false 1 (.t 22)⟩,
      ⟨(some 6), none, .move (.t 23)⟩] (some [2, 3, 4, 6, 18, 19, 20]))
    (.ops [⟨(some 24), none, .move (.t 4)⟩,
      ⟨(some 25), none, .move (.t 6)⟩,
      ⟨(some 26), none, .call (.c (.func (.func 190) #[] #[])) [(.t 24), (.t 2), (.t 25)]⟩] (some [2, 3, 4, 18, 19, 20]))))
   (.ops [⟨(some 27), none, .bin .add 3 (.t 20) (.c (.int .i64 1))⟩,
     ⟨(some 20), none, .move (.t 27)⟩] (some [2, 3, 4, 18, 19, 20]))))))))
 (.seq (.ops [⟨(some 28), none, .move (.t 4)⟩,
   ⟨(some 29), none, .nilCheck (.t 28)⟩,
   ⟨(some 30), none, .fieldAddr 0 (.t 29)⟩,
   ⟨(some 31), none, .load false 1 (.t 30)⟩,
   ⟨(some 32), none, .bin .eql 9 (.t 31) (.c (.string .empty))⟩,
   ⟨(some 33), none, .move (.t 32)⟩,
   ⟨(some 34), (some (33, true)), .load true 15 (.t 2)⟩,
   ⟨(some 35), (some (33, true)), .call (.c (.func (.func 76) #[] #[])) [(.t 34)]⟩,
   ⟨(some 36), none, .pick (.t 33) (.t 35) (.c (.bool false))⟩,
   ⟨(some 37), none, .call (.c (.func (.func 75) #[] #[])) [(.t 36)]⟩] (some [2, 3]))
 (.seq (.ops [⟨(some 38), none, .load true 15 (.t 2)⟩,
   ⟨none, none, .store 15 (.t 2) (.t 38)⟩,
   ⟨none, none, .store 1 (.t 3) (.c (.int .i64 0))⟩] (some [2, 3]))
 .ret))))))), [.cell true 15 2, .cell false 1 3]⟩

theorem is135 : FnIs Tryz.prog 135 x135 := ⟨Tryz.f135, _, Tryz.func135, by kernel_rfl, rfl, by kernel_rfl, by decide, by kernel_rfl⟩

/-- slices.Clone[[]uint64,uint64] -/
def x136 : XDecl := .code ⟨1, 
 (.seq (.ops [⟨(some 2), none, .move (.c (.slice none 0 0))⟩] (some [0]))
 (.seq (.seq (.ops [⟨(some 3), none, .move (.t 0)⟩,
   ⟨(some 4), none, .isNil .slice false (.t 3)⟩] (some [0, 4]))
 (.cond (.t 4)
  (.seq (.ops [⟨(some 2), none, .move (.c (.slice none 0 0))⟩] (some [2]))
  .ret)
  .skip))
 (.seq (.ops [⟨(some 5), none, .buildSlice [(.int .u64 0)] 1 0 []⟩,
   ⟨(some 6), none, .move (.t 0)⟩,
   ⟨(some 7), none, .append 1 8 [(.int .u64 0)] (.t 5) (.t 6)⟩,
   ⟨(some 2), none, .move (.t 7)⟩] (some [2]))
 .ret))), [.tmp 2]⟩

theorem is136 : FnIs Tryz.prog 136 x136 := ⟨Tryz.f136, _, Tryz.func136, by kernel_rfl, rfl, by kernel_rfl, by decide, by kernel_rfl⟩

/-- slices.Clone[[]cloisonne/api.Code,cloisonne/api.Code] -/
def x137 : XDecl := .code ⟨1, 
 (.seq (.ops [⟨(some 2), none, .move (.c (.slice none 0 0))⟩] (some [0]))
 (.seq (.seq (.ops [⟨(some 3), none, .move (.t 0)⟩,
   ⟨(some 4), none, .isNil .slice false (.t 3)⟩] (some [0, 4]))
 (.cond (.t 4)
  (.seq (.ops [⟨(some 2), none, .move (.c (.slice none 0 0))⟩] (some [2]))
  .ret)
  .skip))
 (.seq (.ops [⟨(some 5), none, .buildSlice [(.int .i64 0), (.int .u64 0)] 2 0 []⟩,
   ⟨(some 6), none, .move (.t 0)⟩,
   ⟨(some 7), none, .append 2 16 [(.int .i64 0), (.int .u64 0)] (.t 5) (.t 6)⟩,
   ⟨(some 2), none, .move (.t 7)⟩] (some [2]))
 .ret))), [.tmp 2]⟩

theorem is137 : FnIs Tryz.prog 137 x137 := ⟨Tryz.f137, _, Tryz.func137, by kernel_rfl, rfl, by kernel_rfl, by decide, by kernel_rfl⟩

/-- (*cloisonne/sess.Session).step -/
def x138 : XDecl := .code ⟨1, 
 (.seq (.ops [⟨(some 2), none, .move (.c (.int .i64 0))⟩,
   ⟨(some 3), none, .alloc [(.int .i64 0), (.int .u64 0), (.bool false), (.bool false), (.string .empty), (.int .u64 0), (.slice none 0 0), (.int .i64 0), (.int .u64 0), (.int .u64 0), (.int .u64 0), (.int .u64 0)]⟩,
   ⟨(some 4), none, .move (.c (.int .i64 0))⟩] (some [0, 3]))
 (.seq (.ops [⟨(some 10), none, .move (.t 0)⟩,
   ⟨(some 11), none, .nilCheck (.t 10)⟩,
   ⟨(some 12), none, .fieldAddr 7 (.t 11)⟩,
   ⟨(some 13), none, .load false 1 (.t 12)⟩,
   ⟨(some 14), none, .nilCheck (.t 13)⟩,
   ⟨(some 15), none, .fieldAddr 0 (.t 14)⟩,
   ⟨(some 16), none, .load true 15 (.t 15)⟩,
   ⟨(some 5), none, .alloc [(.int .i64 0), (.int .i64 0), (.slice none 0 0), (.int .u64 0), (.bool false), (.int .i64 0), (.string .empty), (.bool false), (.string .empty), (.int .u64 0), (.string .empty), (.string .empty), (.int .i64 0), (.int .i64 0), (.slice none 0 0)]⟩,
   ⟨none, none, .store 15 (.t 5) (.t 16)⟩] (some [0, 3, 5]))
 (.seq (.seq (.ops [⟨(some 17), none, .move (.t 0)⟩,
   ⟨(some 18), none, .nilCheck (.t 17)⟩,
   ⟨(some 19), none, .fieldAddr 3 (.t 18)⟩,
   ⟨(some 20), none, .load false 1 (.t 19)⟩,
   ⟨(some 21), none, .un .not (.t 20)⟩,
   ⟨(some 22), none, .move (.t 21)⟩,
   ⟨(some 23), (some (22, true)), .fieldAddr 0 (.t 5)⟩,
   ⟨(some 24), (some (22, true)), .load false 1 (.t 23)⟩,
   ⟨(some 25), (some (22, true)), .bin .neq 3 (.t 24) (.c (.int .i64 1))⟩,
   ⟨(some 26), none, .pick (.t 22) (.t 25) (.c (.bool false))⟩] (some [0, 3, 5, 26]))
 (.cond (.t 26)
  (.seq (.ops [⟨(some 27), none, .call (.c (.func (.func 191) #[] #[])) [(.c (.int .i64 7))]⟩,
    ⟨(some 2), none, .move (.c (.int .i64 2))⟩,
    ⟨none, none, .store 12 (.t 3) (.t 27)⟩,
    ⟨(some 4), none, .move (.c (.int .i64 0))⟩] (some [2, 3, 4]))
  .ret)
  .skip))
 (.seq (.seq (.ops [⟨(some 29), none, .move (.t 0)⟩,
   ⟨(some 30), none, .load true 15 (.t 5)⟩,
   ⟨(some 31), none, .call (.c (.func (.func 192) #[] #[])) [(.t 29), (.t 30)]⟩,
   ⟨(some 28), none, .move (.t 31)⟩,
   ⟨(some 32), none, .extract (.t 28) 0⟩,
   ⟨(some 33), none, .extract (.t 28) 1⟩,
   ⟨(some 6), none, .alloc [(.int .i64 0), (.int .u64 0), (.bool false), (.bool false), (.string .empty), (.int .u64 0), (.slice none 0 0), (.int .i64 0), (.int .u64 0), (.int .u64 0), (.int .u64 0), (.int .u64 0)]⟩,
   ⟨none, none, .store 12 (.t 6) (.t 32)⟩,
   ⟨(some 7), none, .move (.t 33)⟩] (some [0, 3, 5, 6, 7]))
 (.seq (.ops [⟨(some 34), none, .move (.t 7)⟩] (some [0, 3, 5, 6, 34]))
 (.cond (.t 34)
  (.seq (.opsd [(0, 0, ⟨(some 35), none, .load true 12 (.t 6)⟩),
    (1, 0, ⟨(some 2), none, .move (.c (.int .i64 2))⟩),
    (2, 3, ⟨none, none, .store 12 (.t 3) (.t 35)⟩),
    (3, 7, ⟨(some 4), none, .move (.c (.int .i64 0))⟩)] (some [2, 3, 4]))
  .ret)
  .skip)))
 (.seq (.seq (.ops [⟨(some 36), none, .fieldAddr 0 (.t 5)⟩,
   ⟨(some 37), none, .load false 1 (.t 36)⟩,
   ⟨(some 38), none, .bin .eql 3 (.t 37) (.c (.int .i64 5))⟩,
   ⟨(some 39), none, .move (.t 38)⟩,
   ⟨(some 40), (some (39, false)), .fieldAddr 0 (.t 5)⟩,
   ⟨(some 41), (some (39, false)), .load false 1 (.t 40)⟩,
   ⟨(some 42), (some (39, false)), .bin .eql 3 (.t 41) (.c (.int .i64 6))⟩,
   ⟨(some 43), none, .pick (.t 39) (.c (.bool true)) (.t 42)⟩] (some [0, 3, 5, 43]))
 (.cond (.t 43)
  (.seq (.ops [⟨(some 44), none, .move (.t 0)⟩,
    ⟨(some 45), none, .call (.c (.func (.func 193) #[] #[])) [(.t 44)]⟩,
    ⟨(some 46), none, .extract (.t 45) 0⟩,
    ⟨(some 47), none, .extract (.t 45) 1⟩,
    ⟨(some 48), none, .extract (.t 45) 2⟩,
    ⟨(some 2), none, .move (.t 46)⟩,
    ⟨none, none, .store 12 (.t 3) (.t 47)⟩,
    ⟨(some 4), none, .move (.t 48)⟩] (some [2, 3, 4]))
  .ret)
  .skip))
 (.seq (.seq (.ops [⟨(some 49), none, .move (.t 0)⟩,
   ⟨(some 50), none, .nilCheck (.t 49)⟩,
   ⟨(some 51), none, .fieldAddr 6 (.t 50)⟩,
   ⟨(some 52), none, .load false 1 (.t 51)⟩,
   ⟨(some 53), none, .isNil .ptr false (.t 52)⟩] (some [0, 3, 5, 53]))
 (.cond (.t 53)
  (.seq (.ops [⟨(some 54), none, .call (.c (.func (.func 191) #[] #[])) [(.c (.int .i64 9))]⟩,
    ⟨(some 2), none, .move (.c (.int .i64 2))⟩,
    ⟨none, none, .store 12 (.t 3) (.t 54)⟩,
    ⟨(some 4), none, .move (.c (.int .i64 0))⟩] (some [2, 3, 4]))
  .ret)
  .skip))
 (.seq (.seq (.ops [⟨(some 55), none, .fieldAddr 0 (.t 5)⟩,
   ⟨(some 56), none, .load false 1 (.t 55)⟩] (some [0, 3, 5, 56]))
 (.block 0
  (.seq (.seq (.ops [⟨(some 58), none, .bin .eql 3 (.t 56) (.c (.int .i64 11))⟩,
    ⟨(some 57), none, .move (.t 58)⟩] (some [0, 3, 5, 56, 57]))
  (.cond (.t 57)
   .skip
   (.ops [⟨(some 59), none, .bin .eql 3 (.t 56) (.c (.int .i64 17))⟩,
     ⟨(some 57), none, .move (.t 59)⟩] (some [0, 3, 5, 56, 57]))))
  (.cond (.t 57)
   (.seq (.ops [⟨(some 61), none, .move (.t 0)⟩,
     ⟨(some 62), none, .call (.c (.func (.func 194) #[] #[])) [(.t 61)]⟩,
     ⟨(some 60), none, .move (.t 62)⟩,
     ⟨(some 63), none, .extract (.t 60) 0⟩,
     ⟨(some 64), none, .extract (.t 60) 1⟩,
     ⟨(some 9), none, .alloc [(.int .i64 0), (.int .u64 0), (.bool false), (.bool false), (.string .empty), (.int .u64 0), (.slice none 0 0), (.int .i64 0), (.int .u64 0), (.int .u64 0), (.int .u64 0), (.int .u64 0)]⟩,
     ⟨(some 8), none, .move (.t 63)⟩,
     ⟨none, none, .store 12 (.t 9) (.t 64)⟩] (some [3, 8, 9]))
   (.seq (.opsd [(0, 0, ⟨(some 65), none, .move (.t 8)⟩),
     (1, 0, ⟨(some 66), none, .load true 12 (.t 9)⟩),
     (2, 1, ⟨(some 2), none, .move (.t 65)⟩),
     (3, 7, ⟨none, none, .store 12 (.t 3) (.t 66)⟩),
     (4, 15, ⟨(some 4), none, .move (.c (.int .i64 0))⟩)] (some [2, 3, 4]))
   .ret))
   (.seq (.ops [⟨(some 68), none, .bin .eql 3 (.t 56) (.c (.int .i64 14))⟩,
     ⟨(some 67), none, .move (.t 68)⟩] (some [0, 3, 5, 67]))
   (.cond (.t 67)
    (.seq (.ops [⟨(some 69), none, .move (.t 0)⟩,
      ⟨(some 70), none, .call (.c (.func (.func 193) #[] #[])) [(.t 69)]⟩,
      ⟨(some 71), none, .extract (.t 70) 0⟩,
      ⟨(some 72), none, .extract (.t 70) 1⟩,
      ⟨(some 73), none, .extract (.t 70) 2⟩,
      ⟨(some 2), none, .move (.t 71)⟩,
      ⟨none, none, .store 12 (.t 3) (.t 72)⟩,
      ⟨(some 4), none, .move (.t 73)⟩] (some [2, 3, 4]))
    .ret)
    .skip))))))
 (.seq (.ops [⟨(some 74), none, .move (.t 0)⟩,
   ⟨(some 75), none, .load true 15 (.t 5)⟩,
   ⟨(some 76), none, .call (.c (.func (.func 195) #[] #[])) [(.t 74), (.t 75)]⟩,
   ⟨(some 2), none, .move (.c (.int .i64 2))⟩,
   ⟨none, none, .store 12 (.t 3) (.t 76)⟩,
   ⟨(some 4), none, .move (.c (.int .i64 0))⟩] (some [2, 3, 4]))
 .ret)))))))), [.tmp 2, .cell true 12 3, .tmp 4]⟩

theorem is138 : FnIs Tryz.prog 138 x138 := ⟨Tryz.f138, _, Tryz.func138, by kernel_rfl, rfl, by kernel_rfl, by decide, by kernel_rfl⟩

/-- (*cloisonne/tree.Tree).Get -/
def x141 : XDecl := .code ⟨2, 
 (.seq (.ops [⟨(some 4), none, .move (.c (.int .i64 0))⟩,
   ⟨(some 5), none, .move (.c (.bool false))⟩] (some [0, 1]))
 (.seq (.ops [⟨(some 10), none, .move (.t 0)⟩,
   ⟨(some 11), none, .move (.t 1)⟩,
   ⟨(some 12), none, .call (.c (.func (.func 198) #[] #[])) [(.t 10), (.t 11)]⟩,
   ⟨(some 9), none, .move (.t 12)⟩,
   ⟨(some 13), none, .extract (.t 9) 0⟩,
   ⟨(some 14), none, .extract (.t 9) 1⟩,
   ⟨(some 15), none, .extract (.t 9) 2⟩,
   ⟨(some 6), none, .move (.t 13)⟩,
   ⟨(some 7), none, .move (.t 14)⟩,
   ⟨(some 8), none, .move (.t 15)⟩] (some [6, 7, 8]))
 (.seq (.seq (.ops [⟨(some 16), none, .move (.t 8)⟩,
   ⟨(some 17), none, .un .not (.t 16)⟩] (some [6, 7, 17]))
 (.cond (.t 17)
  (.seq (.ops [⟨(some 4), none, .move (.c (.int .i64 0))⟩,
    ⟨(some 5), none, .move (.c (.bool false))⟩] (some [4, 5]))
  .ret)
  .skip))
 (.seq (.ops [⟨(some 18), none, .move (.t 6)⟩,
   ⟨(some 19), none, .nilCheck (.t 18)⟩,
   ⟨(some 20), none, .fieldAddr 1 (.t 19)⟩,
   ⟨(some 21), none, .load false 1 (.t 20)⟩,
   ⟨(some 22), none, .move (.t 7)⟩,
   ⟨(some 23), none, .indexAddr 1 (.t 21) (.t 22)⟩,
   ⟨(some 24), none, .load false 1 (.t 23)⟩,
   ⟨(some 4), none, .move (.t 24)⟩,
   ⟨(some 5), none, .move (.c (.bool true))⟩] (some [4, 5]))
 .ret)))), [.tmp 4, .tmp 5]⟩

theorem is141 : FnIs Tryz.prog 141 x141 := ⟨Tryz.f141, _, Tryz.func141, by kernel_rfl, rfl, by kernel_rfl, by decide, by kernel_rfl⟩

/-- cloisonne/chain.Right -/
def x142 : XDecl := .code ⟨1, 
 (.seq (.ops [⟨(some 2), none, .move (.c (.bool false))⟩] (some [0]))
 (.seq (.seq (.ops [⟨(some 5), none, .move (.t 0)⟩,
   ⟨(some 6), none, .len (.t 5)⟩,
   ⟨(some 7), none, .move (.c (.int .i64 0))⟩] (some [0, 5, 6, 7]))
 (.block 0
  (.loop
   (.seq (.ops [⟨(some 8), none, .bin .lss 3 (.t 7) (.t 6)⟩] (some [0, 5, 6, 7, 8]))
   (.seq (.cond (.t 8)
    .skip
    (.exit 0))
   (.seq (.block 1
    (.seq (.ops [⟨(some 9), none, .move (.t 7)⟩,
      ⟨(some 10), none, .indexAddr 5 (.t 5) (.t 7)⟩,
      ⟨(some 11), none, .load true 5 (.t 10)⟩,
      ⟨(some 4), none, .alloc [(.int .i64 0), (.bool false), (.bool false), (.string .empty), (.int .u64 0)]⟩,
      ⟨(some 3), none, .move (.t 9)⟩,
      ⟨none, none, .store 5 (.t 4) (.t 11)⟩] (some [0, 3, 4, 5, 6, 7]))
    (.seq (.opsd [(0, 0, ⟨(some 12), none, .load true 5 (.t 4)⟩),
      (1, 1, ⟨(some 13), none, .call (.c (.func (.func 199) #[] #[])) [(.t 12)]⟩),
      (2, 3, ⟨(some 14), none, .un .not (.t 13)⟩),
      (3, 7, ⟨(some 15), none, .move (.t 14)⟩),
      (4, 15, ⟨(some 16), (some (15, false)), .move (.t 3)⟩),
      (5, 31, ⟨(some 17), (some (15, false)), .bin .gtr 3 (.t 16) (.c (.int .i64 0))⟩),
      (6, 63, ⟨(some 18), (some (15, false)), .move (.t 17)⟩),
      (7, 127, ⟨(some 19), (some (18, true)), .move (.t 0)⟩),
      (8, 127, ⟨(some 20), (some (18, true)), .move (.t 3)⟩),
      (9, 383, ⟨(some 21), (some (18, true)), .bin .sub 3 (.t 20) (.c (.int .i64 1))⟩),
      (10, 1023, ⟨(some 22), (some (18, true)), .indexAddr 5 (.t 19) (.t 21)⟩),
      (11, 2047, ⟨(some 23), (some (18, true)), .fieldAddr 0 (.t 22)⟩),
      (12, 4095, ⟨(some 24), (some (18, true)), .load false 1 (.t 23)⟩),
      (13, 127, ⟨(some 25), (some (18, true)), .fieldAddr 0 (.t 4)⟩),
      (14, 8319, ⟨(some 26), (some (18, true)), .load false 1 (.t 25)⟩),
      (15, 32767, ⟨(some 27), (some (18, true)), .bin .geq 3 (.t 24) (.t 26)⟩),
      (16, 65535, ⟨(some 28), (some (15, false)), .pick (.t 18) (.t 27) (.c (.bool false))⟩),
      (17, 131071, ⟨(some 29), none, .pick (.t 15) (.c (.bool true)) (.t 28)⟩)] (some [0, 5, 6, 7, 29]))
    (.cond (.t 29)
     (.seq (.ops [⟨(some 2), none, .move (.c (.bool false))⟩] (some [2]))
     .ret)
     .skip))))
   (.ops [⟨(some 30), none, .bin .add 3 (.t 7) (.c (.int .i64 1))⟩,
     ⟨(some 7), none, .move (.t 30)⟩] (some [0, 5, 6, 7]))))))))
 (.seq (.ops [⟨(some 2), none, .move (.c (.bool true))⟩] (some [2]))
 .ret))), [.tmp 2]⟩

theorem is142 : FnIs Tryz.prog 142 x142 := ⟨Tryz.f142, _, Tryz.func142, by kernel_rfl, rfl, by kernel_rfl, by decide, by kernel_rfl⟩

/-- (*cloisonne/ring.Ring).Floor -/
def x144 : XDecl := .code ⟨1, 
 (.seq (.ops [⟨(some 2), none, .move (.c (.int .i64 0))⟩] (some [0]))
 (.seq (.seq (.ops [⟨(some 3), none, .move (.t 0)⟩,
   ⟨(some 4), none, .isNil .ptr false (.t 3)⟩] (some [0, 4]))
 (.cond (.t 4)
  (.seq (.ops [⟨(some 2), none, .move (.c (.int .i64 0))⟩] (some [2]))
  .ret)
  .skip))
 (.seq (.opsr [⟨(some 5), none, .move (.t 0)⟩,
   ⟨(some 6), none, .nilCheck (.t 5)⟩,
   ⟨(some 7), none, .fieldAddr 2 (.t 6)⟩,
   ⟨(some 8), none, .load false 1 (.t 7)⟩,
   ⟨(some 9), none, .move (.t 0)⟩,
   ⟨(some 10), none, .nilCheck (.t 9)⟩,
   ⟨(some 11), none, .fieldAddr 0 (.t 10)⟩,
   ⟨(some 12), none, .load false 1 (.t 11)⟩,
   ⟨(some 13), none, .bin .sub 3 (.t 8) (.t 12)⟩,
   ⟨(some 14), none, .bin .add 3 (.t 13) (.c (.int .i64 1))⟩,
   ⟨(some 15), none, .move (.t 0)⟩,
   ⟨(some 16), none, .nilCheck (.t 15)⟩,
   ⟨(some 17), none, .fieldAddr 1 (.t 16)⟩,
   ⟨(some 18), none, .load false 1 (.t 17)⟩,
   ⟨(some 19), none, .calcB .max [3, 3] 3 [(.t 14), (.t 18)]⟩,
   ⟨(some 2), none, .move (.t 19)⟩] (some [2]))
 .ret))), [.tmp 2]⟩

theorem is144 : FnIs Tryz.prog 144 x144 := ⟨Tryz.f144, _, Tryz.func144, by kernel_rfl, rfl, by kernel_rfl, by decide, by kernel_rfl⟩

/-- cloisonne/room.lives -/
def x145 : XDecl := .code ⟨2, 
 (.seq (.ops [⟨(some 4), none, .move (.c (.int .i64 0))⟩] (some [0, 1]))
 (.seq (.ops [⟨(some 6), none, .move (.t 1)⟩,
   ⟨(some 7), none, .call (.c (.func (.func 202) #[] #[])) [(.t 6)]⟩,
   ⟨(some 5), none, .move (.t 7)⟩] (some [0, 5]))
 (.seq (.seq (.ops [⟨(some 8), none, .move (.t 5)⟩,
   ⟨(some 9), none, .bin .eql 3 (.t 8) (.c (.int .i64 0))⟩] (some [0, 5, 9]))
 (.cond (.t 9)
  (.seq (.ops [⟨(some 4), none, .move (.c (.int .i64 0))⟩] (some [4]))
  .ret)
  .skip))
 (.seq (.ops [⟨(some 10), none, .move (.t 0)⟩,
   ⟨(some 11), none, .calcB .len [9] 3 [(.t 10)]⟩,
   ⟨(some 12), none, .move (.t 5)⟩,
   ⟨(some 13), none, .bin .add 3 (.t 11) (.t 12)⟩,
   ⟨(some 4), none, .move (.t 13)⟩] (some [4]))
 .ret)))), [.tmp 4]⟩

theorem is145 : FnIs Tryz.prog 145 x145 := ⟨Tryz.f145, _, Tryz.func145, by kernel_rfl, rfl, by kernel_rfl, by decide, by kernel_rfl⟩

/-- (*cloisonne/tree.Tree).Put -/
def x147 : XDecl := .code ⟨3, 
 (.seq (.ops [⟨(some 6), none, .move (.c (.int .i64 0))⟩,
   ⟨(some 7), none, .move (.c (.bool false))⟩,
   ⟨(some 8), none, .move (.c (.int .i64 0))⟩] (some [0, 1, 2]))
 (.seq (.seq (.ops [⟨(some 16), none, .move (.t 0)⟩,
   ⟨(some 17), none, .isNil .ptr false (.t 16)⟩] (some [0, 1, 2, 17]))
 (.cond (.t 17)
  (.seq (.ops [⟨(some 6), none, .move (.c (.int .i64 0))⟩,
    ⟨(some 7), none, .move (.c (.bool false))⟩,
    ⟨(some 8), none, .move (.c (.int .i64 2))⟩] (some [6, 7, 8]))
  .ret)
  .skip))
 (.seq (.seq (.ops [⟨(some 19), none, .move (.t 0)⟩,
   ⟨(some 20), none, .move (.t 1)⟩,
   ⟨(some 21), none, .call (.c (.func (.func 198) #[] #[])) [(.t 19), (.t 20)]⟩,
   ⟨(some 18), none, .move (.t 21)⟩,
   ⟨(some 22), none, .extract (.t 18) 0⟩,
   ⟨(some 23), none, .extract (.t 18) 1⟩,
   ⟨(some 24), none, .extract (.t 18) 2⟩,
   ⟨(some 9), none, .move (.t 22)⟩,
   ⟨(some 10), none, .move (.t 23)⟩,
   ⟨(some 11), none, .move (.t 24)⟩] (some [0, 1, 2, 9, 10, 11]))
 (.seq (.ops [⟨(some 25), none, .move (.t 11)⟩] (some [0, 1, 2, 9, 10, 25]))
 (.cond (.t 25)
  (.seq (.ops [⟨(some 26), none, .move (.t 9)⟩,
    ⟨(some 27), none, .nilCheck (.t 26)⟩,
    ⟨(some 28), none, .fieldAddr 1 (.t 27)⟩,
    ⟨(some 29), none, .load false 1 (.t 28)⟩,
    ⟨(some 30), none, .move (.t 10)⟩,
    ⟨(some 31), none, .indexAddr 1 (.t 29) (.t 30)⟩,
    ⟨(some 32), none, .load false 1 (.t 31)⟩,
    ⟨(some 12), none, .move (.t 32)⟩] (some [2, 9, 10, 12]))
  (.seq (.ops [⟨(some 33), none, .move (.t 9)⟩,
    ⟨(some 34), none, .nilCheck (.t 33)⟩,
    ⟨(some 35), none, .fieldAddr 1 (.t 34)⟩,
    ⟨(some 36), none, .load false 1 (.t 35)⟩,
    ⟨(some 37), none, .move (.t 10)⟩,
    ⟨(some 38), none, .move (.t 2)⟩,
    ⟨(some 39), none, .indexAddr 1 (.t 36) (.t 37)⟩,
    ⟨none, none, .store 1 (.t 39) (.t 38)⟩] (some [12]))
  (.seq (.ops [⟨(some 40), none, .move (.t 12)⟩,
    ⟨(some 6), none, .move (.t 40)⟩,
    ⟨(some 7), none, .move (.c (.bool true))⟩,
    ⟨(some 8), none, .move (.c (.int .i64 0))⟩] (some [6, 7, 8]))
  .ret)))
  .skip)))
 (.seq (.seq (.ops [⟨(some 41), none, .move (.t 0)⟩,
   ⟨(some 42), none, .nilCheck (.t 41)⟩,
   ⟨(some 43), none, .fieldAddr 3 (.t 42)⟩,
   ⟨(some 44), none, .load false 1 (.t 43)⟩,
   ⟨(some 45), none, .bin .geq 3 (.t 44) (.c (.int .i64 100000))⟩] (some [0, 1, 2, 45]))
 (.cond (.t 45)
  (.seq (.ops [⟨(some 6), none, .move (.c (.int .i64 0))⟩,
    ⟨(some 7), none, .move (.c (.bool false))⟩,
    ⟨(some 8), none, .move (.c (.int .i64 5))⟩] (some [6, 7, 8]))
  .ret)
  .skip))
 (.seq (.ops [⟨(some 46), none, .move (.t 0)⟩,
   ⟨(some 47), none, .nilCheck (.t 46)⟩,
   ⟨(some 48), none, .fieldAddr 3 (.t 47)⟩,
   ⟨(some 49), none, .load false 1 (.t 48)⟩,
   ⟨(some 50), none, .bin .add 3 (.t 49) (.c (.int .i64 1))⟩,
   ⟨(some 51), none, .nilCheck (.t 46)⟩,
   ⟨(some 52), none, .fieldAddr 3 (.t 51)⟩,
   ⟨none, none, .store 1 (.t 52) (.t 50)⟩] (some [0, 1, 2]))
 (.seq (.seq (.ops [⟨(some 53), none, .move (.t 0)⟩,
   ⟨(some 54), none, .nilCheck (.t 53)⟩,
   ⟨(some 55), none, .fieldAddr 2 (.t 54)⟩,
   ⟨(some 56), none, .load false 1 (.t 55)⟩,
   ⟨(some 57), none, .bin .lss 3 (.t 56) (.c (.int .i64 0))⟩] (some [0, 1, 2, 57]))
 (.cond (.t 57)
  (.seq (.ops [⟨(some 58), none, .move (.t 0)⟩,
    ⟨(some 59), none, .move (.t 0)⟩,
    ⟨(some 60), none, .move (.t 1)⟩,
    ⟨(some 61), none, .buildSlice [(.string .empty)] 1 1 [(0, (.t 60))]⟩,
    ⟨(some 62), none, .move (.t 2)⟩,
    ⟨(some 63), none, .buildSlice [(.int .i64 0)] 1 1 [(0, (.t 62))]⟩,
    ⟨(some 64), none, .build [(.slice none 0 0), (.slice none 0 0), (.slice none 0 0)] [(0, 1), (1, 1), (2, 1)] [(0, (.t 61)), (1, (.t 63))]⟩,
    ⟨(some 65), none, .call (.c (.func (.func 206) #[] #[])) [(.t 59), (.t 64)]⟩,
    ⟨(some 66), none, .nilCheck (.t 58)⟩,
    ⟨(some 67), none, .fieldAddr 2 (.t 66)⟩,
    ⟨none, none, .store 1 (.t 67) (.t 65)⟩] (some []))
  (.seq (.ops [⟨(some 6), none, .move (.c (.int .i64 0))⟩,
    ⟨(some 7), none, .move (.c (.bool false))⟩,
    ⟨(some 8), none, .move (.c (.int .i64 0))⟩] (some [6, 7, 8]))
  .ret))
  .skip))
 (.seq (.ops [⟨(some 68), none, .move (.t 0)⟩,
   ⟨(some 69), none, .move (.t 0)⟩,
   ⟨(some 70), none, .nilCheck (.t 69)⟩,
   ⟨(some 71), none, .fieldAddr 2 (.t 70)⟩,
   ⟨(some 72), none, .load false 1 (.t 71)⟩,
   ⟨(some 73), none, .move (.t 1)⟩,
   ⟨(some 74), none, .move (.t 2)⟩,
   ⟨(some 75), none, .call (.c (.func (.func 207) #[] #[])) [(.t 68), (.t 72), (.t 73), (.t 74)]⟩] (some [0]))
 (.seq (.seq (.opsd [(0, 0, ⟨(some 76), none, .move (.t 0)⟩),
   (1, 1, ⟨(some 77), none, .nilCheck (.t 76)⟩),
   (2, 3, ⟨(some 78), none, .fieldAddr 0 (.t 77)⟩),
   (3, 7, ⟨(some 79), none, .load false 1 (.t 78)⟩),
   (4, 0, ⟨(some 80), none, .move (.t 0)⟩),
   (5, 16, ⟨(some 81), none, .nilCheck (.t 80)⟩),
   (6, 48, ⟨(some 82), none, .fieldAddr 2 (.t 81)⟩),
   (7, 112, ⟨(some 83), none, .load false 1 (.t 82)⟩),
   (8, 255, ⟨(some 84), none, .indexAddr 3 (.t 79) (.t 83)⟩),
   (9, 511, ⟨(some 85), none, .call (.c (.func (.func 208) #[] #[])) [(.t 84)]⟩),
   (10, 1023, ⟨(some 86), none, .bin .gtr 3 (.t 85) (.c (.int .i64 4))⟩)] (some [0, 86]))
 (.cond (.t 86)
  (.seq (.ops [⟨(some 87), none, .move (.t 0)⟩,
    ⟨(some 88), none, .nilCheck (.t 87)⟩,
    ⟨(some 89), none, .fieldAddr 2 (.t 88)⟩,
    ⟨(some 90), none, .load false 1 (.t 89)⟩,
    ⟨(some 13), none, .move (.t 90)⟩] (some [0, 13]))
  (.seq (.ops [⟨(some 92), none, .move (.t 0)⟩,
    ⟨(some 93), none, .move (.t 13)⟩,
    ⟨(some 94), none, .call (.c (.func (.func 209) #[] #[])) [(.t 92), (.t 93)]⟩,
    ⟨(some 91), none, .move (.t 94)⟩,
    ⟨(some 95), none, .extract (.t 91) 0⟩,
    ⟨(some 96), none, .extract (.t 91) 1⟩,
    ⟨(some 14), none, .move (.t 95)⟩,
    ⟨(some 15), none, .move (.t 96)⟩] (some [0, 13, 14, 15]))
  (.ops [⟨(some 97), none, .move (.t 0)⟩,
    ⟨(some 98), none, .move (.t 0)⟩,
    ⟨(some 99), none, .move (.t 15)⟩,
    ⟨(some 100), none, .buildSlice [(.string .empty)] 1 1 [(0, (.t 99))]⟩,
    ⟨(some 101), none, .move (.t 13)⟩,
    ⟨(some 102), none, .move (.t 14)⟩,
    ⟨(some 103), none, .buildSlice [(.int .i64 0)] 1 2 [(0, (.t 101)), (1, (.t 102))]⟩,
    ⟨(some 104), none, .build [(.slice none 0 0), (.slice none 0 0), (.slice none 0 0)] [(0, 1), (1, 1), (2, 1)] [(0, (.t 100)), (2, (.t 103))]⟩,
    ⟨(some 105), none, .call (.c (.func (.func 206) #[] #[])) [(.t 98), (.t 104)]⟩,
    ⟨(some 106), none, .nilCheck (.t 97)⟩,
    ⟨(some 107), none, .fieldAddr 2 (.t 106)⟩,
    ⟨none, none, .store 1 (.t 107) (.t 105)⟩] (some []))))
  .skip))
 (.seq (.ops [⟨(some 6), none, .move (.c (.int .i64 0))⟩,
   ⟨(some 7), none, .move (.c (.bool false))⟩,
   ⟨(some 8), none, .move (.c (.int .i64 0))⟩] (some [6, 7, 8]))
 .ret))))))))), [.tmp 6, .tmp 7, .tmp 8]⟩

theorem is147 : FnIs Tryz.prog 147 x147 := ⟨Tryz.f147, _, Tryz.func147, by kernel_rfl, rfl, by kernel_rfl, by decide, by kernel_rfl⟩

/-- slices.Clone[[]cloisonne/api.Version,cloisonne/api.Version] -/
def x148 : XDecl := .code ⟨1, 
 (.seq (.ops [⟨(some 2), none, .move (.c (.slice none 0 0))⟩] (some [0]))
 (.seq (.seq (.ops [⟨(some 3), none, .move (.t 0)⟩,
   ⟨(some 4), none, .isNil .slice false (.t 3)⟩] (some [0, 4]))
 (.cond (.t 4)
  (.seq (.ops [⟨(some 2), none, .move (.c (.slice none 0 0))⟩] (some [2]))
  .ret)
  .skip))
 (.seq (.ops [⟨(some 5), none, .buildSlice [(.int .i64 0), (.bool false), (.bool false), (.string .empty), (.int .u64 0)] 5 0 []⟩,
   ⟨(some 6), none, .move (.t 0)⟩,
   ⟨(some 7), none, .append 5 48 [(.int .i64 0), (.bool false), (.bool false), (.string .empty), (.int .u64 0)] (.t 5) (.t 6)⟩,
   ⟨(some 2), none, .move (.t 7)⟩] (some [2]))
 .ret))), [.tmp 2]⟩

theorem is148 : FnIs Tryz.prog 148 x148 := ⟨Tryz.f148, _, Tryz.func148, by kernel_rfl, rfl, by kernel_rfl, by decide, by kernel_rfl⟩

def tabB : FuncId → Option XDecl
  | 79 => some x79
  | 82 => some x82
  | 83 => some x83
  | 84 => some x84
  | 85 => some x85
  | 86 => some x86
  | 88 => some x88
  | 90 => some x90
  | 91 => some x91
  | 94 => some x94
  | 95 => some x95
  | 97 => some x97
  | 99 => some x99
  | 100 => some x100
  | 101 => some x101
  | 102 => some x102
  | 105 => some x105
  | 106 => some x106
  | 107 => some x107
  | 108 => some x108
  | 109 => some x109
  | 116 => some x116
  | 119 => some x119
  | 120 => some x120
  | 121 => some x121
  | 122 => some x122
  | 123 => some x123
  | 124 => some x124
  | 125 => some x125
  | 126 => some x126
  | 127 => some x127
  | 130 => some x130
  | 131 => some x131
  | 132 => some x132
  | 134 => some x134
  | 135 => some x135
  | 136 => some x136
  | 137 => some x137
  | 138 => some x138
  | 141 => some x141
  | 142 => some x142
  | 144 => some x144
  | 145 => some x145
  | 147 => some x147
  | 148 => some x148
  | _ => none
theorem tabB_is : ∀ f d, tabB f = some d → FnIs Tryz.prog f d := by
  intro f d h
  unfold tabB at h
  split at h
  · cases h; exact is79
  · cases h; exact is82
  · cases h; exact is83
  · cases h; exact is84
  · cases h; exact is85
  · cases h; exact is86
  · cases h; exact is88
  · cases h; exact is90
  · cases h; exact is91
  · cases h; exact is94
  · cases h; exact is95
  · cases h; exact is97
  · cases h; exact is99
  · cases h; exact is100
  · cases h; exact is101
  · cases h; exact is102
  · cases h; exact is105
  · cases h; exact is106
  · cases h; exact is107
  · cases h; exact is108
  · cases h; exact is109
  · cases h; exact is116
  · cases h; exact is119
  · cases h; exact is120
  · cases h; exact is121
  · cases h; exact is122
  · cases h; exact is123
  · cases h; exact is124
  · cases h; exact is125
  · cases h; exact is126
  · cases h; exact is127
  · cases h; exact is130
  · cases h; exact is131
  · cases h; exact is132
  · cases h; exact is134
  · cases h; exact is135
  · cases h; exact is136
  · cases h; exact is137
  · cases h; exact is138
  · cases h; exact is141
  · cases h; exact is142
  · cases h; exact is144
  · cases h; exact is145
  · cases h; exact is147
  · cases h; exact is148
  · cases h

end Go.Proofs.YtglefgcnafoafaaGreatDoor.X
