/-
  Own work, printed by a program of ours (mkprog.py): the functions of this seat as code of the abstract run, and that each is the model's.
-/
import Derived.Test.YtfjeccaffenngaaXLaw
import Derived.Test.YtfjeccaffenngaaChecked
set_option maxRecDepth 100000
namespace Go.Proofs.Ytfjeccaffenngaa.X
open Go

/-- cloisonne/cloisonnelaw28.FlowNil -/
def x5 : XDecl := .code ⟨4, 
 (.seq (.ops [⟨(some 8), none, .move (.c (.bool false))⟩] (some [0, 1, 2, 3]))
 (.seq (.seq (.ops [⟨(some 15), none, .call (.c (.func (.func 8) #[] #[])) []⟩,
   ⟨(some 16), none, .un .not (.t 15)⟩] (some [0, 1, 2, 3, 16]))
 (.cond (.t 16)
  (.seq (.ops [⟨(some 8), none, .move (.c (.bool false))⟩] (some [8]))
  .ret)
  .skip))
 (.seq (.ops [⟨(some 18), none, .move (.t 0)⟩,
   ⟨(some 19), none, .move (.t 1)⟩,
   ⟨(some 20), none, .move (.t 2)⟩,
   ⟨(some 21), none, .call (.c (.func (.func 13) #[] #[])) [(.c (.pointer none)), (.t 18), (.t 19), (.t 20)]⟩,
   ⟨(some 17), none, .move (.t 21)⟩,
   ⟨(some 22), none, .extract (.t 17) 0⟩,
   ⟨(some 23), none, .extract (.t 17) 1⟩,
   ⟨(some 9), none, .move (.t 22)⟩,
   ⟨(some 10), none, .move (.t 23)⟩] (some [0, 1, 2, 3, 9, 10]))
 (.seq (.ops [⟨(some 25), none, .call (.c (.func (.func 18) #[] #[])) [(.c (.pointer none)), (.c (.slice none 0 0))]⟩,
   ⟨(some 24), none, .move (.t 25)⟩,
   ⟨(some 26), none, .extract (.t 24) 0⟩,
   ⟨(some 27), none, .extract (.t 24) 1⟩,
   ⟨(some 11), none, .move (.t 26)⟩,
   ⟨(some 12), none, .move (.t 27)⟩] (some [0, 1, 2, 3, 9, 10, 11, 12]))
 (.seq (.ops [⟨(some 29), none, .call (.c (.func (.func 19) #[] #[])) [(.c (.pointer none)), (.c (.slice none 0 0))]⟩,
   ⟨(some 28), none, .move (.t 29)⟩,
   ⟨(some 30), none, .extract (.t 28) 0⟩,
   ⟨(some 31), none, .extract (.t 28) 1⟩,
   ⟨(some 13), none, .move (.t 30)⟩,
   ⟨(some 14), none, .move (.t 31)⟩] (some [0, 1, 2, 3, 9, 10, 11, 12, 13, 14]))
 (.seq (.ops [⟨(some 32), none, .move (.t 0)⟩,
   ⟨(some 33), none, .move (.t 1)⟩,
   ⟨(some 34), none, .move (.t 2)⟩,
   ⟨(some 35), none, .call (.c (.func (.func 10) #[] #[])) [(.c (.pointer none)), (.t 32), (.t 33), (.t 34)]⟩,
   ⟨(some 36), none, .un .not (.t 35)⟩,
   ⟨(some 37), none, .move (.t 36)⟩,
   ⟨(some 38), (some (37, true)), .move (.t 0)⟩,
   ⟨(some 39), (some (37, true)), .move (.t 1)⟩,
   ⟨(some 40), (some (37, true)), .move (.t 2)⟩,
   ⟨(some 41), (some (37, true)), .call (.c (.func (.func 14) #[] #[])) [(.c (.pointer none)), (.t 38), (.t 39), (.t 40)]⟩,
   ⟨(some 42), (some (37, true)), .un .not (.t 41)⟩,
   ⟨(some 43), none, .pick (.t 37) (.t 42) (.c (.bool false))⟩,
   ⟨(some 44), none, .move (.t 43)⟩,
   ⟨(some 45), (some (44, true)), .move (.t 9)⟩,
   ⟨(some 46), (some (44, true)), .len (.t 45)⟩,
   ⟨(some 47), (some (44, true)), .bin .eql 3 (.t 46) (.c (.int .i64 0))⟩,
   ⟨(some 48), none, .pick (.t 44) (.t 47) (.c (.bool false))⟩,
   ⟨(some 49), none, .move (.t 48)⟩,
   ⟨(some 50), (some (49, true)), .move (.t 10)⟩,
   ⟨(some 51), (some (49, true)), .bin .eql 31 (.t 50) (.c (.int .i64 2))⟩,
   ⟨(some 52), none, .pick (.t 49) (.t 51) (.c (.bool false))⟩,
   ⟨(some 53), none, .move (.t 52)⟩,
   ⟨(some 54), (some (53, true)), .move (.t 11)⟩,
   ⟨(some 55), (some (53, true)), .len (.t 54)⟩,
   ⟨(some 56), (some (53, true)), .bin .eql 3 (.t 55) (.c (.int .i64 0))⟩,
   ⟨(some 57), none, .pick (.t 53) (.t 56) (.c (.bool false))⟩,
   ⟨(some 58), none, .move (.t 57)⟩,
   ⟨(some 59), (some (58, true)), .move (.t 12)⟩,
   ⟨(some 60), (some (58, true)), .bin .eql 31 (.t 59) (.c (.int .i64 2))⟩,
   ⟨(some 61), none, .pick (.t 58) (.t 60) (.c (.bool false))⟩,
   ⟨(some 62), none, .move (.t 61)⟩,
   ⟨(some 63), (some (62, true)), .move (.t 13)⟩,
   ⟨(some 64), (some (62, true)), .len (.t 63)⟩,
   ⟨(some 65), (some (62, true)), .bin .eql 3 (.t 64) (.c (.int .i64 0))⟩,
   ⟨(some 66), none, .pick (.t 62) (.t 65) (.c (.bool false))⟩,
   ⟨(some 67), none, .move (.t 66)⟩,
   ⟨(some 68), (some (67, true)), .move (.t 14)⟩,
   ⟨(some 69), (some (67, true)), .bin .eql 31 (.t 68) (.c (.int .i64 2))⟩,
   ⟨(some 70), none, .pick (.t 67) (.t 69) (.c (.bool false))⟩,
   ⟨(some 71), none, .move (.t 70)⟩,
   ⟨(some 72), (some (71, true)), .move (.t 3)⟩,
   ⟨(some 73), (some (71, true)), .call (.c (.func (.func 20) #[] #[])) [(.c (.pointer none)), (.t 72)]⟩,
   ⟨(some 74), (some (71, true)), .len (.t 73)⟩,
   ⟨(some 75), (some (71, true)), .bin .eql 3 (.t 74) (.c (.int .i64 0))⟩,
   ⟨(some 76), none, .pick (.t 71) (.t 75) (.c (.bool false))⟩,
   ⟨(some 8), none, .move (.t 76)⟩] (some [8]))
 .ret)))))), [.tmp 8]⟩

/-- cloisonne/cloisonnelaw28.awake -/
def x8 : XDecl := .code ⟨0, 
 (.seq (.ops [⟨(some 0), none, .move (.c (.bool false))⟩] (some []))
 (.seq (.ops [⟨(some 4), none, .buildSlice [(.int .u64 0)] 1 1 [(0, (.c (.int .u64 1)))]⟩,
   ⟨(some 5), none, .buildSlice [(.int .u64 0)] 1 1 [(0, (.c (.int .u64 0)))]⟩,
   ⟨(some 6), none, .call (.c (.func (.func 26) #[] #[])) [(.c (.int .i64 1)), (.t 4), (.t 5)]⟩,
   ⟨(some 3), none, .move (.t 6)⟩,
   ⟨(some 7), none, .extract (.t 3) 0⟩,
   ⟨(some 8), none, .extract (.t 3) 1⟩,
   ⟨(some 1), none, .move (.t 7)⟩,
   ⟨(some 2), none, .move (.t 8)⟩] (some [1, 2]))
 (.seq (.ops [⟨(some 9), none, .move (.t 2)⟩,
   ⟨(some 10), none, .bin .eql 31 (.t 9) (.c (.int .i64 0))⟩,
   ⟨(some 11), none, .move (.t 10)⟩,
   ⟨(some 12), (some (11, true)), .move (.t 1)⟩,
   ⟨(some 13), (some (11, true)), .buildSlice [(.int .u64 0)] 1 1 [(0, (.c (.int .u64 1)))]⟩,
   ⟨(some 14), (some (11, true)), .call (.c (.func (.func 10) #[] #[])) [(.t 12), (.c (.int .i64 0)), (.c (.slice none 0 0)), (.t 13)]⟩,
   ⟨(some 15), none, .pick (.t 11) (.t 14) (.c (.bool false))⟩,
   ⟨(some 16), none, .move (.t 15)⟩,
   ⟨(some 17), (some (16, true)), .move (.t 1)⟩,
   ⟨(some 18), (some (16, true)), .buildSlice [(.int .u64 0)] 1 1 [(0, (.c (.int .u64 1)))]⟩,
   ⟨(some 19), (some (16, true)), .call (.c (.func (.func 10) #[] #[])) [(.t 17), (.c (.int .i64 0)), (.t 18), (.c (.slice none 0 0))]⟩,
   ⟨(some 20), (some (16, true)), .un .not (.t 19)⟩,
   ⟨(some 21), none, .pick (.t 16) (.t 20) (.c (.bool false))⟩,
   ⟨(some 0), none, .move (.t 21)⟩] (some [0]))
 .ret))), [.tmp 0]⟩

/-- cloisonne/flow.Comes -/
def x10 : XDecl := .code ⟨4, 
 (.seq (.ops [⟨(some 4), none, .box (.t 0)⟩,
   ⟨(some 5), none, .box (.t 1)⟩,
   ⟨(some 8), none, .move (.c (.bool false))⟩] (some [2, 3, 4, 5]))
 (.seq (.seq (.ops [⟨(some 10), none, .load false 1 (.t 4)⟩,
   ⟨(some 11), none, .load false 1 (.t 5)⟩,
   ⟨(some 12), none, .call (.c (.func (.func 29) #[] #[])) [(.t 10), (.t 11)]⟩,
   ⟨(some 13), none, .un .not (.t 12)⟩,
   ⟨(some 14), none, .move (.t 13)⟩,
   ⟨(some 15), (some (14, false)), .move (.t 2)⟩,
   ⟨(some 16), (some (14, false)), .call (.c (.func (.func 30) #[] #[])) [(.t 15)]⟩,
   ⟨(some 17), (some (14, false)), .un .not (.t 16)⟩,
   ⟨(some 18), none, .pick (.t 14) (.c (.bool true)) (.t 17)⟩,
   ⟨(some 19), none, .move (.t 18)⟩,
   ⟨(some 20), (some (19, false)), .move (.t 3)⟩,
   ⟨(some 21), (some (19, false)), .call (.c (.func (.func 30) #[] #[])) [(.t 20)]⟩,
   ⟨(some 22), (some (19, false)), .un .not (.t 21)⟩,
   ⟨(some 23), none, .pick (.t 19) (.c (.bool true)) (.t 22)⟩] (some [2, 3, 4, 5, 23]))
 (.cond (.t 23)
  (.seq (.ops [⟨(some 8), none, .move (.c (.bool false))⟩] (some [8]))
  .ret)
  .skip))
 (.seq (.ops [⟨(some 24), none, .makeFunc (.func 31) [] [(.t 4), (.t 5)]⟩,
   ⟨(some 9), none, .move (.t 24)⟩] (some [2, 3, 4, 5, 9]))
 (.seq (.opsd [(0, 0, ⟨(some 25), none, .move (.t 2)⟩),
   (1, 0, ⟨(some 26), none, .move (.t 3)⟩),
   (3, 0, ⟨(some 28), none, .move (.t 9)⟩),
   (2, 3, ⟨(some 27), none, .call (.c (.func (.func 34) #[] #[])) [(.t 25), (.t 26)]⟩),
   (4, 15, ⟨(some 29), none, .call (.c (.func (.func 33) #[] #[])) [(.t 27), (.t 28)]⟩),
   (5, 31, ⟨(some 30), none, .un .not (.t 29)⟩),
   (6, 63, ⟨(some 31), none, .move (.t 30)⟩),
   (7, 127, ⟨(some 32), (some (31, true)), .load false 1 (.t 4)⟩),
   (8, 127, ⟨(some 33), (some (31, true)), .load false 1 (.t 5)⟩),
   (9, 127, ⟨(some 34), (some (31, true)), .move (.t 3)⟩),
   (10, 127, ⟨(some 35), (some (31, true)), .move (.t 2)⟩),
   (11, 1663, ⟨(some 36), (some (31, true)), .call (.c (.func (.func 34) #[] #[])) [(.t 34), (.t 35)]⟩),
   (12, 4095, ⟨(some 37), (some (31, true)), .call (.c (.func (.func 35) #[] #[])) [(.t 32), (.t 33), (.c (.slice none 0 0)), (.t 36)]⟩),
   (13, 8191, ⟨(some 38), none, .pick (.t 31) (.t 37) (.c (.bool false))⟩),
   (14, 16383, ⟨(some 8), none, .move (.t 38)⟩)] (some [8]))
 .ret)))), [.tmp 8]⟩

/-- cloisonne/flow.Way -/
def x13 : XDecl := .code ⟨4, 
 (.seq (.ops [⟨(some 8), none, .move (.c (.slice none 0 0))⟩,
   ⟨(some 9), none, .move (.c (.int .i64 0))⟩] (some [0, 1, 2, 3]))
 (.seq (.block 0
  (.seq (.ops [⟨(some 16), none, .move (.t 0)⟩,
    ⟨(some 17), none, .isNil .ptr false (.t 16)⟩,
    ⟨(some 15), none, .move (.t 17)⟩] (some [0, 1, 2, 3, 15]))
  (.cond (.t 15)
   (.seq (.ops [⟨(some 8), none, .move (.c (.slice none 0 0))⟩,
     ⟨(some 9), none, .move (.c (.int .i64 2))⟩] (some [8, 9]))
   .ret)
   (.seq (.ops [⟨(some 19), none, .move (.t 0)⟩,
     ⟨(some 20), none, .move (.t 1)⟩,
     ⟨(some 21), none, .call (.c (.func (.func 29) #[] #[])) [(.t 19), (.t 20)]⟩,
     ⟨(some 22), none, .un .not (.t 21)⟩,
     ⟨(some 23), none, .move (.t 22)⟩,
     ⟨(some 24), (some (23, false)), .move (.t 2)⟩,
     ⟨(some 25), (some (23, false)), .call (.c (.func (.func 30) #[] #[])) [(.t 24)]⟩,
     ⟨(some 26), (some (23, false)), .un .not (.t 25)⟩,
     ⟨(some 27), none, .pick (.t 23) (.c (.bool true)) (.t 26)⟩,
     ⟨(some 28), none, .move (.t 27)⟩,
     ⟨(some 29), (some (28, false)), .move (.t 3)⟩,
     ⟨(some 30), (some (28, false)), .call (.c (.func (.func 30) #[] #[])) [(.t 29)]⟩,
     ⟨(some 31), (some (28, false)), .un .not (.t 30)⟩,
     ⟨(some 32), none, .pick (.t 28) (.c (.bool true)) (.t 31)⟩,
     ⟨(some 18), none, .move (.t 32)⟩] (some [0, 1, 2, 3, 18]))
   (.cond (.t 18)
    (.seq (.ops [⟨(some 8), none, .move (.c (.slice none 0 0))⟩,
      ⟨(some 9), none, .move (.c (.int .i64 1))⟩] (some [8, 9]))
    .ret)
    (.seq (.ops [⟨(some 34), none, .move (.t 0)⟩,
      ⟨(some 35), none, .move (.t 1)⟩,
      ⟨(some 36), none, .move (.t 2)⟩,
      ⟨(some 37), none, .move (.t 3)⟩,
      ⟨(some 38), none, .call (.c (.func (.func 10) #[] #[])) [(.t 34), (.t 35), (.t 36), (.t 37)]⟩,
      ⟨(some 39), none, .un .not (.t 38)⟩,
      ⟨(some 33), none, .move (.t 39)⟩] (some [2, 3, 33]))
    (.cond (.t 33)
     (.seq (.ops [⟨(some 8), none, .move (.c (.slice none 0 0))⟩,
       ⟨(some 9), none, .move (.c (.int .i64 7))⟩] (some [8, 9]))
     .ret)
     .skip)))))))
 (.seq (.ops [⟨(some 10), none, .move (.c (.slice none 0 0))⟩] (some [2, 3, 10]))
 (.seq (.seq (.ops [⟨(some 40), none, .move (.t 2)⟩,
   ⟨(some 41), none, .move (.t 3)⟩,
   ⟨(some 42), none, .call (.c (.func (.func 34) #[] #[])) [(.t 40), (.t 41)]⟩,
   ⟨(some 43), none, .len (.t 42)⟩,
   ⟨(some 44), none, .move (.c (.int .i64 0))⟩] (some [2, 3, 10, 42, 43, 44]))
 (.block 1
  (.loop
   (.seq (.ops [⟨(some 45), none, .bin .lss 3 (.t 44) (.t 43)⟩] (some [2, 3, 10, 42, 43, 44, 45]))
   (.seq (.cond (.t 45)
    .skip
    (.exit 1))
   (.seq (.block 2
    (.seq (.ops [⟨(some 46), none, .indexAddr 1 (.t 42) (.t 44)⟩,
      ⟨(some 47), none, .load false 1 (.t 46)⟩,
      ⟨(some 12), none, .move (.t 47)⟩] (some [2, 3, 10, 12, 42, 43, 44]))
    (.ops [⟨(some 48), none, .move (.t 10)⟩,
      ⟨(some 49), none, .move (.t 12)⟩,
      ⟨(some 50), none, .build [(.int .i64 0), (.int .i64 0), (.slice none 0 0), (.int .u64 0), (.bool false), (.int .i64 0), (.string .empty), (.bool false), (.string .empty), (.int .u64 0), (.string .empty), (.string .empty), (.int .i64 0), (.int .i64 0), (.slice none 0 0)] [(0, 1), (1, 1), (2, 1), (3, 1), (4, 1), (5, 1), (6, 1), (7, 3), (10, 3), (13, 1), (14, 1)] [(0, (.c (.int .i64 4))), (3, (.t 49))]⟩,
      ⟨(some 51), none, .buildSlice [(.int .i64 0), (.int .i64 0), (.slice none 0 0), (.int .u64 0), (.bool false), (.int .i64 0), (.string .empty), (.bool false), (.string .empty), (.int .u64 0), (.string .empty), (.string .empty), (.int .i64 0), (.int .i64 0), (.slice none 0 0)] 15 1 [(0, (.t 50))]⟩,
      ⟨(some 52), none, .append 15 184 [(.int .i64 0), (.int .i64 0), (.slice none 0 0), (.int .u64 0), (.bool false), (.int .i64 0), (.string .empty), (.bool false), (.string .empty), (.int .u64 0), (.string .empty), (.string .empty), (.int .i64 0), (.int .i64 0), (.slice none 0 0)] (.t 48) (.t 51)⟩,
      ⟨(some 10), none, .move (.t 52)⟩] (some [2, 3, 10, 42, 43, 44]))))
   (.ops [⟨(some 53), none, .bin .add 3 (.t 44) (.c (.int .i64 1))⟩,
     ⟨(some 44), none, .move (.t 53)⟩] (some [2, 3, 10, 42, 43, 44]))))))))
 (.seq (.seq (.ops [⟨(some 54), none, .move (.t 3)⟩,
   ⟨(some 55), none, .move (.t 2)⟩,
   ⟨(some 56), none, .call (.c (.func (.func 34) #[] #[])) [(.t 54), (.t 55)]⟩,
   ⟨(some 57), none, .len (.t 56)⟩,
   ⟨(some 58), none, .move (.c (.int .i64 0))⟩] (some [10, 56, 57, 58]))
 (.block 3
  (.loop
   (.seq (.ops [⟨(some 59), none, .bin .lss 3 (.t 58) (.t 57)⟩] (some [10, 56, 57, 58, 59]))
   (.seq (.cond (.t 59)
    .skip
    (.exit 3))
   (.seq (.block 4
    (.seq (.ops [⟨(some 60), none, .indexAddr 1 (.t 56) (.t 58)⟩,
      ⟨(some 61), none, .load false 1 (.t 60)⟩,
      ⟨(some 14), none, .move (.t 61)⟩] (some [10, 14, 56, 57, 58]))
    (.ops [⟨(some 62), none, .move (.t 10)⟩,
      ⟨(some 63), none, .move (.t 14)⟩,
      ⟨(some 64), none, .buildSlice [(.int .u64 0)] 1 1 [(0, (.t 63))]⟩,
      ⟨(some 65), none, .build [(.int .i64 0), (.int .i64 0), (.slice none 0 0), (.int .u64 0), (.bool false), (.int .i64 0), (.string .empty), (.bool false), (.string .empty), (.int .u64 0), (.string .empty), (.string .empty), (.int .i64 0), (.int .i64 0), (.slice none 0 0)] [(0, 1), (1, 1), (2, 1), (3, 1), (4, 1), (5, 1), (6, 1), (7, 3), (10, 3), (13, 1), (14, 1)] [(0, (.c (.int .i64 3))), (2, (.t 64))]⟩,
      ⟨(some 66), none, .buildSlice [(.int .i64 0), (.int .i64 0), (.slice none 0 0), (.int .u64 0), (.bool false), (.int .i64 0), (.string .empty), (.bool false), (.string .empty), (.int .u64 0), (.string .empty), (.string .empty), (.int .i64 0), (.int .i64 0), (.slice none 0 0)] 15 1 [(0, (.t 65))]⟩,
      ⟨(some 67), none, .append 15 184 [(.int .i64 0), (.int .i64 0), (.slice none 0 0), (.int .u64 0), (.bool false), (.int .i64 0), (.string .empty), (.bool false), (.string .empty), (.int .u64 0), (.string .empty), (.string .empty), (.int .i64 0), (.int .i64 0), (.slice none 0 0)] (.t 62) (.t 66)⟩,
      ⟨(some 10), none, .move (.t 67)⟩] (some [10, 56, 57, 58]))))
   (.ops [⟨(some 68), none, .bin .add 3 (.t 58) (.c (.int .i64 1))⟩,
     ⟨(some 58), none, .move (.t 68)⟩] (some [10, 56, 57, 58]))))))))
 (.seq (.ops [⟨(some 69), none, .move (.t 10)⟩,
   ⟨(some 8), none, .move (.t 69)⟩,
   ⟨(some 9), none, .move (.c (.int .i64 0))⟩] (some [8, 9]))
 .ret)))))), [.tmp 8, .tmp 9]⟩

/-- cloisonne/flow.May -/
def x14 : XDecl := .code ⟨4, 
 (.seq (.ops [⟨(some 8), none, .move (.c (.bool false))⟩] (some [0, 1, 2, 3]))
 (.seq (.ops [⟨(some 9), none, .move (.t 0)⟩,
   ⟨(some 10), none, .move (.t 1)⟩,
   ⟨(some 11), none, .move (.t 2)⟩,
   ⟨(some 12), none, .call (.c (.func (.func 35) #[] #[])) [(.t 9), (.t 10), (.c (.slice none 0 0)), (.t 11)]⟩,
   ⟨(some 13), none, .move (.t 12)⟩,
   ⟨(some 14), (some (13, true)), .move (.t 0)⟩,
   ⟨(some 15), (some (13, true)), .move (.t 1)⟩,
   ⟨(some 16), (some (13, true)), .move (.t 2)⟩,
   ⟨(some 17), (some (13, true)), .move (.t 3)⟩,
   ⟨(some 18), (some (13, true)), .call (.c (.func (.func 10) #[] #[])) [(.t 14), (.t 15), (.t 16), (.t 17)]⟩,
   ⟨(some 19), none, .pick (.t 13) (.t 18) (.c (.bool false))⟩,
   ⟨(some 8), none, .move (.t 19)⟩] (some [8]))
 .ret)), [.tmp 8]⟩

/-- cloisonne/flow.Flows -/
def x18 : XDecl := .code ⟨2, 
 (.seq (.ops [⟨(some 4), none, .move (.c (.slice none 0 0))⟩,
   ⟨(some 5), none, .move (.c (.int .i64 0))⟩] (some [0, 1]))
 (.seq (.ops [⟨(some 6), none, .move (.c (.func (.func 42) #[] #[]))⟩] (some [0, 1, 6]))
 (.seq (.block 0
  (.seq (.ops [⟨(some 17), none, .move (.t 0)⟩,
    ⟨(some 18), none, .isNil .ptr false (.t 17)⟩,
    ⟨(some 16), none, .move (.t 18)⟩] (some [0, 1, 6, 16]))
  (.cond (.t 16)
   (.seq (.ops [⟨(some 4), none, .move (.c (.slice none 0 0))⟩,
     ⟨(some 5), none, .move (.c (.int .i64 2))⟩] (some [4, 5]))
   .ret)
   (.seq (.ops [⟨(some 20), none, .move (.t 1)⟩,
     ⟨(some 21), none, .len (.t 20)⟩,
     ⟨(some 22), none, .bin .gtr 3 (.t 21) (.c (.int .i64 8))⟩,
     ⟨(some 23), none, .move (.t 22)⟩,
     ⟨(some 24), (some (23, false)), .move (.t 1)⟩,
     ⟨(some 25), (some (23, false)), .move (.t 6)⟩,
     ⟨(some 26), (some (23, false)), .call (.c (.func (.func 43) #[] #[])) [(.t 24), (.t 25)]⟩,
     ⟨(some 27), none, .pick (.t 23) (.c (.bool true)) (.t 26)⟩,
     ⟨(some 19), none, .move (.t 27)⟩] (some [0, 1, 19]))
   (.cond (.t 19)
    (.seq (.ops [⟨(some 4), none, .move (.c (.slice none 0 0))⟩,
      ⟨(some 5), none, .move (.c (.int .i64 1))⟩] (some [4, 5]))
    .ret)
    .skip)))))
 (.seq (.ops [⟨(some 7), none, .move (.c (.slice none 0 0))⟩] (some [0, 1, 7]))
 (.seq (.seq (.ops [⟨(some 28), none, .move (.t 1)⟩,
   ⟨(some 29), none, .len (.t 28)⟩,
   ⟨(some 30), none, .move (.c (.int .i64 0))⟩] (some [0, 1, 7, 28, 29, 30]))
 (.block 1
  (.loop
   (.seq (.ops [⟨(some 31), none, .bin .lss 3 (.t 30) (.t 29)⟩] (some [0, 1, 7, 28, 29, 30, 31]))
   (.seq (.cond (.t 31)
    .skip
    (.exit 1))
   (.seq (.block 2
    (.seq (.ops [⟨(some 32), none, .move (.t 30)⟩,
      ⟨(some 33), none, .indexAddr 1 (.t 28) (.t 30)⟩,
      ⟨(some 34), none, .load false 1 (.t 33)⟩,
      ⟨(some 8), none, .move (.t 32)⟩,
      ⟨(some 9), none, .move (.t 34)⟩] (some [0, 1, 7, 8, 9, 28, 29, 30]))
    (.seq (.ops [⟨(some 35), none, .move (.t 1)⟩,
      ⟨(some 36), none, .len (.t 35)⟩,
      ⟨(some 37), none, .makeSlice [(.bool false)] 1 (.t 36) (.t 36)⟩,
      ⟨(some 10), none, .move (.t 37)⟩] (some [0, 1, 7, 8, 9, 10, 28, 29, 30]))
    (.seq (.seq (.ops [⟨(some 38), none, .move (.t 1)⟩,
      ⟨(some 39), none, .len (.t 38)⟩,
      ⟨(some 40), none, .move (.c (.int .i64 0))⟩] (some [0, 1, 7, 8, 9, 10, 28, 29, 30, 38, 39, 40]))
    (.block 3
     (.loop
      (.seq (.ops [⟨(some 41), none, .bin .lss 3 (.t 40) (.t 39)⟩] (some [0, 1, 7, 8, 9, 10, 28, 29, 30, 38, 39, 40, 41]))
      (.seq (.cond (.t 41)
       .skip
       (.exit 3))
      (.seq (.block 4
       (.seq (.ops [⟨(some 42), none, .move (.t 40)⟩,
         ⟨(some 43), none, .indexAddr 1 (.t 38) (.t 40)⟩,
         ⟨(some 44), none, .load false 1 (.t 43)⟩,
         ⟨(some 11), none, .move (.t 42)⟩,
         ⟨(some 12), none, .move (.t 44)⟩] (some [0, 1, 7, 8, 9, 10, 11, 12, 28, 29, 30, 38, 39, 40]))
       (.ops [⟨(some 45), none, .move (.t 10)⟩,
         ⟨(some 46), none, .move (.t 11)⟩,
         ⟨(some 47), none, .move (.t 8)⟩,
         ⟨(some 48), none, .move (.t 11)⟩,
         ⟨(some 49), none, .bin .eql 3 (.t 47) (.t 48)⟩,
         ⟨(some 50), none, .move (.t 49)⟩,
         ⟨(some 51), (some (50, false)), .move (.t 0)⟩,
         ⟨(some 52), (some (50, false)), .move (.t 9)⟩,
         ⟨(some 53), (some (50, false)), .move (.t 12)⟩,
         ⟨(some 54), (some (50, false)), .call (.c (.func (.func 44) #[] #[])) [(.t 51), (.t 52), (.t 53)]⟩,
         ⟨(some 55), none, .pick (.t 50) (.c (.bool true)) (.t 54)⟩,
         ⟨(some 56), none, .indexAddr 1 (.t 45) (.t 46)⟩,
         ⟨none, none, .store 1 (.t 56) (.t 55)⟩] (some [0, 1, 7, 8, 9, 10, 28, 29, 30, 38, 39, 40]))))
      (.ops [⟨(some 57), none, .bin .add 3 (.t 40) (.c (.int .i64 1))⟩,
        ⟨(some 40), none, .move (.t 57)⟩] (some [0, 1, 7, 8, 9, 10, 28, 29, 30, 38, 39, 40]))))))))
    (.ops [⟨(some 58), none, .move (.t 7)⟩,
      ⟨(some 59), none, .move (.t 10)⟩,
      ⟨(some 60), none, .buildSlice [(.slice none 0 0)] 1 1 [(0, (.t 59))]⟩,
      ⟨(some 61), none, .append 1 24 [(.slice none 0 0)] (.t 58) (.t 60)⟩,
      ⟨(some 7), none, .move (.t 61)⟩] (some [0, 1, 7, 28, 29, 30]))))))
   (.ops [⟨(some 62), none, .bin .add 3 (.t 30) (.c (.int .i64 1))⟩,
     ⟨(some 30), none, .move (.t 62)⟩] (some [0, 1, 7, 28, 29, 30]))))))))
 (.seq (.seq (.ops [⟨(some 63), none, .move (.t 1)⟩,
   ⟨(some 64), none, .len (.t 63)⟩,
   ⟨(some 65), none, .move (.c (.int .i64 0))⟩] (some [1, 7, 64, 65]))
 (.block 5
  (.loop
   (.seq (.ops [⟨(some 66), none, .bin .lss 3 (.t 65) (.t 64)⟩] (some [1, 7, 64, 65, 66]))
   (.seq (.cond (.t 66)
    .skip
    (.exit 5))
   (.seq (.block 6
    (.seq (.ops [⟨(some 67), none, .move (.t 65)⟩,
      ⟨(some 13), none, .move (.t 67)⟩] (some [1, 7, 13, 64, 65]))
    (.seq (.ops [⟨(some 68), none, .move (.t 1)⟩,
      ⟨(some 69), none, .len (.t 68)⟩,
      ⟨(some 70), none, .move (.c (.int .i64 0))⟩] (some [1, 7, 13, 64, 65, 69, 70]))
    (.block 7
     (.loop
      (.seq (.ops [⟨(some 71), none, .bin .lss 3 (.t 70) (.t 69)⟩] (some [1, 7, 13, 64, 65, 69, 70, 71]))
      (.seq (.cond (.t 71)
       .skip
       (.exit 7))
      (.seq (.block 8
       (.seq (.ops [⟨(some 72), none, .move (.t 70)⟩,
         ⟨(some 14), none, .move (.t 72)⟩] (some [1, 7, 13, 14, 64, 65, 69, 70]))
       (.seq (.ops [⟨(some 73), none, .move (.t 1)⟩,
         ⟨(some 74), none, .len (.t 73)⟩,
         ⟨(some 75), none, .move (.c (.int .i64 0))⟩] (some [1, 7, 13, 14, 64, 65, 69, 70, 74, 75]))
       (.block 9
        (.loop
         (.seq (.ops [⟨(some 76), none, .bin .lss 3 (.t 75) (.t 74)⟩] (some [1, 7, 13, 14, 64, 65, 69, 70, 74, 75, 76]))
         (.seq (.cond (.t 76)
          .skip
          (.exit 9))
         (.seq (.block 10
          (.seq (.ops [⟨(some 77), none, .move (.t 75)⟩,
            ⟨(some 15), none, .move (.t 77)⟩] (some [1, 7, 13, 14, 15, 64, 65, 69, 70, 74, 75]))
          (.opsd [(0, 0, ⟨(some 78), none, .move (.t 7)⟩),
            (1, 0, ⟨(some 79), none, .move (.t 14)⟩),
            (2, 3, ⟨(some 80), none, .indexAddr 1 (.t 78) (.t 79)⟩),
            (3, 7, ⟨(some 81), none, .load false 1 (.t 80)⟩),
            (4, 0, ⟨(some 82), none, .move (.t 15)⟩),
            (5, 0, ⟨(some 83), none, .move (.t 7)⟩),
            (6, 0, ⟨(some 84), none, .move (.t 14)⟩),
            (7, 96, ⟨(some 85), none, .indexAddr 1 (.t 83) (.t 84)⟩),
            (8, 224, ⟨(some 86), none, .load false 1 (.t 85)⟩),
            (9, 0, ⟨(some 87), none, .move (.t 15)⟩),
            (10, 992, ⟨(some 88), none, .indexAddr 1 (.t 86) (.t 87)⟩),
            (11, 2016, ⟨(some 89), none, .load false 1 (.t 88)⟩),
            (12, 4064, ⟨(some 90), none, .move (.t 89)⟩),
            (13, 8160, ⟨(some 91), (some (90, false)), .move (.t 7)⟩),
            (14, 8160, ⟨(some 92), (some (90, false)), .move (.t 14)⟩),
            (15, 32736, ⟨(some 93), (some (90, false)), .indexAddr 1 (.t 91) (.t 92)⟩),
            (16, 65504, ⟨(some 94), (some (90, false)), .load false 1 (.t 93)⟩),
            (17, 8160, ⟨(some 95), (some (90, false)), .move (.t 13)⟩),
            (18, 262112, ⟨(some 96), (some (90, false)), .indexAddr 1 (.t 94) (.t 95)⟩),
            (19, 524256, ⟨(some 97), (some (90, false)), .load false 1 (.t 96)⟩),
            (20, 1048544, ⟨(some 98), (some (90, false)), .move (.t 97)⟩),
            (21, 2097120, ⟨(some 99), (some (98, true)), .move (.t 7)⟩),
            (22, 2097120, ⟨(some 100), (some (98, true)), .move (.t 13)⟩),
            (23, 8388576, ⟨(some 101), (some (98, true)), .indexAddr 1 (.t 99) (.t 100)⟩),
            (24, 16777184, ⟨(some 102), (some (98, true)), .load false 1 (.t 101)⟩),
            (25, 2097120, ⟨(some 103), (some (98, true)), .move (.t 15)⟩),
            (26, 67108832, ⟨(some 104), (some (98, true)), .indexAddr 1 (.t 102) (.t 103)⟩),
            (27, 134217696, ⟨(some 105), (some (98, true)), .load false 1 (.t 104)⟩),
            (28, 268435424, ⟨(some 106), (some (90, false)), .pick (.t 98) (.t 105) (.c (.bool false))⟩),
            (29, 536870880, ⟨(some 107), none, .pick (.t 90) (.c (.bool true)) (.t 106)⟩),
            (30, 1073741823, ⟨(some 108), none, .indexAddr 1 (.t 81) (.t 82)⟩),
            (31, 2147483647, ⟨none, none, .store 1 (.t 108) (.t 107)⟩)] (some [1, 7, 13, 14, 64, 65, 69, 70, 74, 75]))))
         (.ops [⟨(some 109), none, .bin .add 3 (.t 75) (.c (.int .i64 1))⟩,
           ⟨(some 75), none, .move (.t 109)⟩] (some [1, 7, 13, 14, 64, 65, 69, 70, 74, 75]))))))))))
      (.ops [⟨(some 110), none, .bin .add 3 (.t 70) (.c (.int .i64 1))⟩,
        ⟨(some 70), none, .move (.t 110)⟩] (some [1, 7, 13, 64, 65, 69, 70]))))))))))
   (.ops [⟨(some 111), none, .bin .add 3 (.t 65) (.c (.int .i64 1))⟩,
     ⟨(some 65), none, .move (.t 111)⟩] (some [1, 7, 64, 65]))))))))
 (.seq (.ops [⟨(some 112), none, .move (.t 7)⟩,
   ⟨(some 4), none, .move (.t 112)⟩,
   ⟨(some 5), none, .move (.c (.int .i64 0))⟩] (some [4, 5]))
 .ret))))))), [.tmp 4, .tmp 5]⟩

/-- cloisonne/flow.Leaks -/
def x19 : XDecl := .code ⟨2, 
 (.seq (.ops [⟨(some 4), none, .move (.c (.slice none 0 0))⟩,
   ⟨(some 5), none, .move (.c (.int .i64 0))⟩] (some [0, 1]))
 (.seq (.ops [⟨(some 12), none, .move (.t 0)⟩,
   ⟨(some 13), none, .move (.t 1)⟩,
   ⟨(some 14), none, .call (.c (.func (.func 18) #[] #[])) [(.t 12), (.t 13)]⟩,
   ⟨(some 11), none, .move (.t 14)⟩,
   ⟨(some 15), none, .extract (.t 11) 0⟩,
   ⟨(some 16), none, .extract (.t 11) 1⟩,
   ⟨(some 6), none, .move (.t 15)⟩,
   ⟨(some 7), none, .move (.t 16)⟩] (some [1, 6, 7]))
 (.seq (.seq (.ops [⟨(some 17), none, .move (.t 7)⟩,
   ⟨(some 18), none, .bin .neq 31 (.t 17) (.c (.int .i64 0))⟩] (some [1, 6, 7, 18]))
 (.cond (.t 18)
  (.seq (.ops [⟨(some 19), none, .move (.t 7)⟩,
    ⟨(some 4), none, .move (.c (.slice none 0 0))⟩,
    ⟨(some 5), none, .move (.t 19)⟩] (some [4, 5]))
  .ret)
  .skip))
 (.seq (.ops [⟨(some 8), none, .move (.c (.slice none 0 0))⟩] (some [1, 6, 8]))
 (.seq (.seq (.ops [⟨(some 20), none, .move (.t 1)⟩,
   ⟨(some 21), none, .len (.t 20)⟩,
   ⟨(some 22), none, .move (.c (.int .i64 0))⟩] (some [1, 6, 8, 21, 22]))
 (.block 0
  (.loop
   (.seq (.ops [⟨(some 23), none, .bin .lss 3 (.t 22) (.t 21)⟩] (some [1, 6, 8, 21, 22, 23]))
   (.seq (.cond (.t 23)
    .skip
    (.exit 0))
   (.seq (.block 1
    (.seq (.ops [⟨(some 24), none, .move (.t 22)⟩,
      ⟨(some 9), none, .move (.t 24)⟩] (some [1, 6, 8, 9, 21, 22]))
    (.seq (.ops [⟨(some 25), none, .move (.t 1)⟩,
      ⟨(some 26), none, .len (.t 25)⟩,
      ⟨(some 27), none, .move (.c (.int .i64 0))⟩] (some [1, 6, 8, 9, 21, 22, 26, 27]))
    (.block 2
     (.loop
      (.seq (.ops [⟨(some 28), none, .bin .lss 3 (.t 27) (.t 26)⟩] (some [1, 6, 8, 9, 21, 22, 26, 27, 28]))
      (.seq (.cond (.t 28)
       .skip
       (.exit 2))
      (.seq (.block 3
       (.seq (.ops [⟨(some 29), none, .move (.t 27)⟩,
         ⟨(some 10), none, .move (.t 29)⟩] (some [1, 6, 8, 9, 10, 21, 22, 26, 27]))
       (.seq (.opsd [(0, 0, ⟨(some 30), none, .move (.t 6)⟩),
         (1, 0, ⟨(some 31), none, .move (.t 9)⟩),
         (2, 3, ⟨(some 32), none, .indexAddr 1 (.t 30) (.t 31)⟩),
         (3, 7, ⟨(some 33), none, .load false 1 (.t 32)⟩),
         (4, 0, ⟨(some 34), none, .move (.t 10)⟩),
         (5, 31, ⟨(some 35), none, .indexAddr 1 (.t 33) (.t 34)⟩),
         (6, 63, ⟨(some 36), none, .load false 1 (.t 35)⟩),
         (7, 127, ⟨(some 37), none, .move (.t 36)⟩),
         (8, 255, ⟨(some 38), (some (37, true)), .move (.t 1)⟩),
         (9, 255, ⟨(some 39), (some (37, true)), .move (.t 9)⟩),
         (10, 1023, ⟨(some 40), (some (37, true)), .indexAddr 1 (.t 38) (.t 39)⟩),
         (11, 2047, ⟨(some 41), (some (37, true)), .load false 1 (.t 40)⟩),
         (12, 255, ⟨(some 42), (some (37, true)), .move (.t 1)⟩),
         (13, 255, ⟨(some 43), (some (37, true)), .move (.t 10)⟩),
         (14, 12543, ⟨(some 44), (some (37, true)), .indexAddr 1 (.t 42) (.t 43)⟩),
         (15, 28927, ⟨(some 45), (some (37, true)), .load false 1 (.t 44)⟩),
         (16, 65535, ⟨(some 46), (some (37, true)), .call (.c (.func (.func 45) #[] #[])) [(.t 41), (.t 45)]⟩),
         (17, 131071, ⟨(some 47), (some (37, true)), .un .not (.t 46)⟩),
         (18, 262143, ⟨(some 48), none, .pick (.t 37) (.t 47) (.c (.bool false))⟩)] (some [1, 6, 8, 9, 10, 21, 22, 26, 27, 48]))
       (.cond (.t 48)
        (.ops [⟨(some 49), none, .move (.t 8)⟩,
          ⟨(some 50), none, .move (.t 9)⟩,
          ⟨(some 51), none, .move (.t 10)⟩,
          ⟨(some 52), none, .buildArr [(.int .i64 0), (.int .i64 0)] 1 [(0, (.t 50)), (1, (.t 51))]⟩,
          ⟨(some 53), none, .buildSlice [(.int .i64 0), (.int .i64 0)] 2 1 [(0, (.t 52))]⟩,
          ⟨(some 54), none, .append 2 16 [(.int .i64 0), (.int .i64 0)] (.t 49) (.t 53)⟩,
          ⟨(some 8), none, .move (.t 54)⟩] (some [1, 6, 8, 9, 21, 22, 26, 27]))
        .skip))))
      (.ops [⟨(some 55), none, .bin .add 3 (.t 27) (.c (.int .i64 1))⟩,
        ⟨(some 27), none, .move (.t 55)⟩] (some [1, 6, 8, 9, 21, 22, 26, 27]))))))))))
   (.ops [⟨(some 56), none, .bin .add 3 (.t 22) (.c (.int .i64 1))⟩,
     ⟨(some 22), none, .move (.t 56)⟩] (some [1, 6, 8, 21, 22]))))))))
 (.seq (.ops [⟨(some 57), none, .move (.t 8)⟩,
   ⟨(some 4), none, .move (.t 57)⟩,
   ⟨(some 5), none, .move (.c (.int .i64 0))⟩] (some [4, 5]))
 .ret)))))), [.tmp 4, .tmp 5]⟩

/-- cloisonne/flow.Trusted -/
def x20 : XDecl := .code ⟨2, 
 (.seq (.ops [⟨(some 4), none, .move (.c (.slice none 0 0))⟩] (some [0, 1]))
 (.seq (.ops [⟨(some 5), none, .move (.c (.slice none 0 0))⟩] (some [0, 1, 5]))
 (.seq (.seq (.ops [⟨(some 7), none, .move (.t 0)⟩,
   ⟨(some 8), none, .call (.c (.func (.func 46) #[] #[])) [(.t 7)]⟩,
   ⟨(some 9), none, .move (.c (.int .i64 0))⟩] (some [0, 1, 5, 8, 9]))
 (.block 0
  (.loop
   (.seq (.ops [⟨(some 10), none, .bin .lss 3 (.t 9) (.t 8)⟩] (some [0, 1, 5, 8, 9, 10]))
   (.seq (.cond (.t 10)
    .skip
    (.exit 0))
   (.seq (.block 1
    (.seq (.ops [⟨(some 11), none, .move (.t 9)⟩,
      ⟨(some 6), none, .move (.t 11)⟩] (some [0, 1, 5, 6, 8, 9]))
    (.seq (.ops [⟨(some 12), none, .move (.t 0)⟩,
      ⟨(some 13), none, .move (.t 6)⟩,
      ⟨(some 14), none, .move (.t 1)⟩,
      ⟨(some 15), none, .call (.c (.func (.func 32) #[] #[])) [(.t 12), (.t 13), (.t 14)]⟩] (some [0, 1, 5, 6, 8, 9, 15]))
    (.cond (.t 15)
     (.ops [⟨(some 16), none, .move (.t 5)⟩,
       ⟨(some 17), none, .move (.t 6)⟩,
       ⟨(some 18), none, .buildSlice [(.int .i64 0)] 1 1 [(0, (.t 17))]⟩,
       ⟨(some 19), none, .append 1 8 [(.int .i64 0)] (.t 16) (.t 18)⟩,
       ⟨(some 5), none, .move (.t 19)⟩] (some [0, 1, 5, 8, 9]))
     .skip))))
   (.ops [⟨(some 20), none, .bin .add 3 (.t 9) (.c (.int .i64 1))⟩,
     ⟨(some 9), none, .move (.t 20)⟩] (some [0, 1, 5, 8, 9]))))))))
 (.seq (.ops [⟨(some 21), none, .move (.t 5)⟩,
   ⟨(some 4), none, .move (.t 21)⟩] (some [4]))
 .ret)))), [.tmp 4]⟩

/-- cloisonne/caps.Load -/
def x26 : XDecl := .code ⟨3, 
 (.seq (.ops [⟨(some 3), none, .box (.t 0)⟩,
   ⟨(some 6), none, .move (.c (.pointer none))⟩,
   ⟨(some 7), none, .move (.c (.int .i64 0))⟩] (some [1, 2, 3]))
 (.seq (.ops [⟨(some 13), none, .move (.t 1)⟩,
   ⟨(some 14), none, .len (.t 13)⟩,
   ⟨(some 15), none, .call (.c (.func (.func 27) #[] #[])) [(.t 14)]⟩,
   ⟨(some 12), none, .move (.t 15)⟩,
   ⟨(some 16), none, .extract (.t 12) 0⟩,
   ⟨(some 17), none, .extract (.t 12) 1⟩,
   ⟨(some 8), none, .move (.t 16)⟩,
   ⟨(some 9), none, .move (.t 17)⟩] (some [1, 2, 3, 8, 9]))
 (.seq (.seq (.ops [⟨(some 18), none, .move (.t 9)⟩,
   ⟨(some 19), none, .bin .neq 31 (.t 18) (.c (.int .i64 0))⟩,
   ⟨(some 20), none, .move (.t 19)⟩,
   ⟨(some 21), (some (20, false)), .move (.t 2)⟩,
   ⟨(some 22), (some (20, false)), .len (.t 21)⟩,
   ⟨(some 23), (some (20, false)), .move (.t 1)⟩,
   ⟨(some 24), (some (20, false)), .len (.t 23)⟩,
   ⟨(some 25), (some (20, false)), .bin .neq 3 (.t 22) (.t 24)⟩,
   ⟨(some 26), none, .pick (.t 20) (.c (.bool true)) (.t 25)⟩,
   ⟨(some 27), none, .move (.t 26)⟩,
   ⟨(some 28), (some (27, false)), .load false 1 (.t 3)⟩,
   ⟨(some 29), (some (27, false)), .bin .lss 3 (.t 28) (.c (.int .i64 0))⟩,
   ⟨(some 30), none, .pick (.t 27) (.c (.bool true)) (.t 29)⟩,
   ⟨(some 31), none, .move (.t 30)⟩,
   ⟨(some 32), (some (31, false)), .load false 1 (.t 3)⟩,
   ⟨(some 33), (some (31, false)), .bin .gtr 3 (.t 32) (.c (.int .i64 16))⟩,
   ⟨(some 34), none, .pick (.t 31) (.c (.bool true)) (.t 33)⟩] (some [1, 2, 3, 8, 34]))
 (.cond (.t 34)
  (.seq (.ops [⟨(some 6), none, .move (.c (.pointer none))⟩,
    ⟨(some 7), none, .move (.c (.int .i64 1))⟩] (some [6, 7]))
  .ret)
  .skip))
 (.seq (.ops [⟨(some 35), none, .makeFunc (.func 47) [] [(.t 3)]⟩,
   ⟨(some 10), none, .move (.t 35)⟩] (some [1, 2, 3, 8, 10]))
 (.seq (.seq (.ops [⟨(some 36), none, .move (.t 1)⟩,
   ⟨(some 37), none, .move (.t 10)⟩,
   ⟨(some 38), none, .call (.c (.func (.func 33) #[] #[])) [(.t 36), (.t 37)]⟩,
   ⟨(some 39), none, .move (.t 38)⟩,
   ⟨(some 40), (some (39, false)), .move (.t 2)⟩,
   ⟨(some 41), (some (39, false)), .move (.t 10)⟩,
   ⟨(some 42), (some (39, false)), .call (.c (.func (.func 33) #[] #[])) [(.t 40), (.t 41)]⟩,
   ⟨(some 43), none, .pick (.t 39) (.c (.bool true)) (.t 42)⟩] (some [1, 2, 3, 8, 43]))
 (.cond (.t 43)
  (.seq (.ops [⟨(some 6), none, .move (.c (.pointer none))⟩,
    ⟨(some 7), none, .move (.c (.int .i64 1))⟩] (some [6, 7]))
  .ret)
  .skip))
 (.seq (.ops [⟨(some 44), none, .move (.t 8)⟩,
   ⟨(some 45), none, .load false 1 (.t 3)⟩,
   ⟨(some 46), none, .nilCheck (.t 44)⟩,
   ⟨(some 47), none, .fieldAddr 0 (.t 46)⟩,
   ⟨none, none, .store 1 (.t 47) (.t 45)⟩] (some [1, 2, 8]))
 (.seq (.seq (.ops [⟨(some 48), none, .move (.t 8)⟩,
   ⟨(some 49), none, .nilCheck (.t 48)⟩,
   ⟨(some 50), none, .fieldAddr 1 (.t 49)⟩,
   ⟨(some 51), none, .load false 1 (.t 50)⟩,
   ⟨(some 52), none, .len (.t 51)⟩,
   ⟨(some 53), none, .move (.c (.int .i64 0))⟩] (some [1, 2, 8, 52, 53]))
 (.block 0
  (.loop
   (.seq (.ops [⟨(some 54), none, .bin .lss 3 (.t 53) (.t 52)⟩] (some [1, 2, 8, 52, 53, 54]))
   (.seq (.cond (.t 54)
    .skip
    (.exit 0))
   (.seq (.block 1
    (.seq (.ops [⟨(some 55), none, .move (.t 53)⟩,
      ⟨(some 11), none, .move (.t 55)⟩] (some [1, 2, 8, 11, 52, 53]))
    (.opsd [(0, 0, ⟨(some 56), none, .move (.t 8)⟩),
      (1, 1, ⟨(some 57), none, .nilCheck (.t 56)⟩),
      (2, 3, ⟨(some 58), none, .fieldAddr 1 (.t 57)⟩),
      (3, 7, ⟨(some 59), none, .load false 1 (.t 58)⟩),
      (4, 0, ⟨(some 60), none, .move (.t 11)⟩),
      (5, 0, ⟨(some 61), none, .move (.t 1)⟩),
      (6, 0, ⟨(some 62), none, .move (.t 11)⟩),
      (7, 96, ⟨(some 63), none, .indexAddr 1 (.t 61) (.t 62)⟩),
      (8, 224, ⟨(some 64), none, .load false 1 (.t 63)⟩),
      (9, 0, ⟨(some 65), none, .move (.t 2)⟩),
      (10, 0, ⟨(some 66), none, .move (.t 11)⟩),
      (11, 1536, ⟨(some 67), none, .indexAddr 1 (.t 65) (.t 66)⟩),
      (12, 3584, ⟨(some 68), none, .load false 1 (.t 67)⟩),
      (13, 8160, ⟨(some 69), none, .build [(.int .u64 0), (.int .u64 0)] [(0, 1), (1, 1)] [(0, (.t 64)), (1, (.t 68))]⟩),
      (14, 16383, ⟨(some 70), none, .indexAddr 2 (.t 59) (.t 60)⟩),
      (15, 32767, ⟨none, none, .store 2 (.t 70) (.t 69)⟩)] (some [1, 2, 8, 52, 53]))))
   (.ops [⟨(some 71), none, .bin .add 3 (.t 53) (.c (.int .i64 1))⟩,
     ⟨(some 53), none, .move (.t 71)⟩] (some [1, 2, 8, 52, 53]))))))))
 (.seq (.ops [⟨(some 72), none, .move (.t 8)⟩,
   ⟨(some 6), none, .move (.t 72)⟩,
   ⟨(some 7), none, .move (.c (.int .i64 0))⟩] (some [6, 7]))
 .ret)))))))), [.tmp 6, .tmp 7]⟩

/-- cloisonne/caps.New -/
def x27 : XDecl := .code ⟨1, 
 (.seq (.ops [⟨(some 2), none, .move (.c (.pointer none))⟩,
   ⟨(some 3), none, .move (.c (.int .i64 0))⟩] (some [0]))
 (.seq (.seq (.ops [⟨(some 4), none, .move (.t 0)⟩,
   ⟨(some 5), none, .bin .lss 3 (.t 4) (.c (.int .i64 1))⟩,
   ⟨(some 6), none, .move (.t 5)⟩,
   ⟨(some 7), (some (6, false)), .move (.t 0)⟩,
   ⟨(some 8), (some (6, false)), .bin .gtr 3 (.t 7) (.c (.int .i64 8))⟩,
   ⟨(some 9), none, .pick (.t 6) (.c (.bool true)) (.t 8)⟩] (some [0, 9]))
 (.cond (.t 9)
  (.seq (.ops [⟨(some 2), none, .move (.c (.pointer none))⟩,
    ⟨(some 3), none, .move (.c (.int .i64 1))⟩] (some [2, 3]))
  .ret)
  .skip))
 (.seq (.ops [⟨(some 10), none, .move (.t 0)⟩,
   ⟨(some 11), none, .makeSlice [(.int .u64 0), (.int .u64 0)] 16 (.t 10) (.t 10)⟩,
   ⟨(some 12), none, .build [(.int .i64 0), (.slice none 0 0)] [(0, 1), (1, 1)] [(1, (.t 11))]⟩,
   ⟨(some 13), none, .box (.t 12)⟩,
   ⟨(some 2), none, .move (.t 13)⟩,
   ⟨(some 3), none, .move (.c (.int .i64 0))⟩] (some [2, 3]))
 .ret))), [.tmp 2, .tmp 3]⟩

/-- cloisonne/flow.one -/
def x29 : XDecl := .code ⟨2, 
 (.seq (.ops [⟨(some 4), none, .move (.c (.bool false))⟩] (some [0, 1]))
 (.seq (.ops [⟨(some 5), none, .move (.t 1)⟩,
   ⟨(some 6), none, .bin .geq 3 (.t 5) (.c (.int .i64 0))⟩,
   ⟨(some 7), none, .move (.t 6)⟩,
   ⟨(some 8), (some (7, true)), .move (.t 1)⟩,
   ⟨(some 9), (some (7, true)), .move (.t 0)⟩,
   ⟨(some 10), (some (7, true)), .call (.c (.func (.func 46) #[] #[])) [(.t 9)]⟩,
   ⟨(some 11), (some (7, true)), .bin .lss 3 (.t 8) (.t 10)⟩,
   ⟨(some 12), none, .pick (.t 7) (.t 11) (.c (.bool false))⟩,
   ⟨(some 4), none, .move (.t 12)⟩] (some [4]))
 .ret)), [.tmp 4]⟩

/-- cloisonne/label.Right -/
def x30 : XDecl := .code ⟨1, 
 (.seq (.ops [⟨(some 2), none, .move (.c (.bool false))⟩] (some [0]))
 (.seq (.seq (.ops [⟨(some 6), none, .move (.t 0)⟩,
   ⟨(some 7), none, .len (.t 6)⟩,
   ⟨(some 8), none, .bin .gtr 3 (.t 7) (.c (.int .i64 6))⟩] (some [0, 8]))
 (.cond (.t 8)
  (.seq (.ops [⟨(some 2), none, .move (.c (.bool false))⟩] (some [2]))
  .ret)
  .skip))
 (.seq (.ops [⟨(some 3), none, .move (.c (.int .u64 0))⟩] (some [0, 3]))
 (.seq (.seq (.ops [⟨(some 9), none, .move (.t 0)⟩,
   ⟨(some 10), none, .len (.t 9)⟩,
   ⟨(some 11), none, .move (.c (.int .i64 0))⟩] (some [3, 9, 10, 11]))
 (.block 0
  (.loop
   (.seq (.ops [⟨(some 12), none, .bin .lss 3 (.t 11) (.t 10)⟩] (some [3, 9, 10, 11, 12]))
   (.seq (.cond (.t 12)
    .skip
    (.exit 0))
   (.seq (.block 1
    (.seq (.ops [⟨(some 13), none, .indexAddr 1 (.t 9) (.t 11)⟩,
      ⟨(some 14), none, .load false 1 (.t 13)⟩,
      ⟨(some 5), none, .move (.t 14)⟩] (some [3, 5, 9, 10, 11]))
    (.seq (.seq (.ops [⟨(some 15), none, .move (.t 5)⟩,
      ⟨(some 16), none, .move (.t 3)⟩,
      ⟨(some 17), none, .bin .leq 30 (.t 15) (.t 16)⟩] (some [5, 9, 10, 11, 17]))
    (.cond (.t 17)
     (.seq (.ops [⟨(some 2), none, .move (.c (.bool false))⟩] (some [2]))
     .ret)
     .skip))
    (.ops [⟨(some 18), none, .move (.t 5)⟩,
      ⟨(some 3), none, .move (.t 18)⟩] (some [3, 9, 10, 11])))))
   (.ops [⟨(some 19), none, .bin .add 3 (.t 11) (.c (.int .i64 1))⟩,
     ⟨(some 11), none, .move (.t 19)⟩] (some [3, 9, 10, 11]))))))))
 (.seq (.ops [⟨(some 2), none, .move (.c (.bool true))⟩] (some [2]))
 .ret))))), [.tmp 2]⟩

/-- cloisonne/flow.Comes$1 -/
def x31 : XDecl := .code ⟨3, 
 (.seq (.ops [⟨(some 4), none, .move (.c (.bool false))⟩] (some [0, 1, 2]))
 (.seq (.ops [⟨(some 5), none, .load false 1 (.t 1)⟩,
   ⟨(some 6), none, .load false 1 (.t 2)⟩,
   ⟨(some 7), none, .move (.t 0)⟩,
   ⟨(some 8), none, .call (.c (.func (.func 32) #[] #[])) [(.t 5), (.t 6), (.t 7)]⟩,
   ⟨(some 9), none, .un .not (.t 8)⟩,
   ⟨(some 4), none, .move (.t 9)⟩] (some [4]))
 .ret)), [.tmp 4]⟩

/-- (*cloisonne/caps.Table).MayDrop -/
def x32 : XDecl := .code ⟨3, 
 (.seq (.ops [⟨(some 6), none, .move (.c (.bool false))⟩] (some [0, 1, 2]))
 (.seq (.ops [⟨(some 7), none, .move (.t 0)⟩,
   ⟨(some 8), none, .move (.t 1)⟩,
   ⟨(some 9), none, .call (.c (.func (.func 49) #[] #[])) [(.t 7), (.t 8)]⟩,
   ⟨(some 10), none, .move (.t 9)⟩,
   ⟨(some 11), (some (10, true)), .move (.t 0)⟩,
   ⟨(some 12), (some (10, true)), .nilCheck (.t 11)⟩,
   ⟨(some 13), (some (10, true)), .fieldAddr 1 (.t 12)⟩,
   ⟨(some 14), (some (10, true)), .load false 1 (.t 13)⟩,
   ⟨(some 15), (some (10, true)), .move (.t 1)⟩,
   ⟨(some 16), (some (10, true)), .indexAddr 2 (.t 14) (.t 15)⟩,
   ⟨(some 17), (some (10, true)), .fieldAddr 1 (.t 16)⟩,
   ⟨(some 18), (some (10, true)), .load false 1 (.t 17)⟩,
   ⟨(some 19), (some (10, true)), .move (.t 2)⟩,
   ⟨(some 20), (some (10, true)), .call (.c (.func (.func 50) #[] #[])) [(.t 18), (.t 19)]⟩,
   ⟨(some 21), none, .pick (.t 10) (.t 20) (.c (.bool false))⟩,
   ⟨(some 6), none, .move (.t 21)⟩] (some [6]))
 .ret)), [.tmp 6]⟩

/-- slices.ContainsFunc[[]uint64,uint64] -/
def x33 : XDecl := .code ⟨2, 
 (.seq (.ops [⟨(some 4), none, .move (.c (.bool false))⟩] (some [0, 1]))
 (.seq (.ops [⟨(some 5), none, .move (.t 0)⟩,
   ⟨(some 6), none, .move (.t 1)⟩,
   ⟨(some 7), none, .call (.c (.func (.func 51) #[] #[])) [(.t 5), (.t 6)]⟩,
   ⟨(some 8), none, .bin .geq 3 (.t 7) (.c (.int .i64 0))⟩,
   ⟨(some 4), none, .move (.t 8)⟩] (some [4]))
 .ret)), [.tmp 4]⟩

/-- cloisonne/label.Less -/
def x34 : XDecl := .code ⟨2, 
 (.seq (.ops [⟨(some 4), none, .move (.c (.slice none 0 0))⟩] (some [0, 1]))
 (.seq (.ops [⟨(some 5), none, .move (.t 0)⟩,
   ⟨(some 6), none, .move (.t 1)⟩,
   ⟨(some 7), none, .call (.c (.func (.func 52) #[] #[])) [(.t 5), (.t 6), (.c (.bool false))]⟩,
   ⟨(some 4), none, .move (.t 7)⟩] (some [4]))
 .ret)), [.tmp 4]⟩

/-- (*cloisonne/caps.Table).Clear -/
def x35 : XDecl := .code ⟨4, 
 (.seq (.ops [⟨(some 6), none, .box (.t 2)⟩,
   ⟨(some 8), none, .move (.c (.bool false))⟩] (some [0, 1, 3, 6]))
 (.seq (.seq (.ops [⟨(some 10), none, .move (.t 0)⟩,
   ⟨(some 11), none, .move (.t 1)⟩,
   ⟨(some 12), none, .call (.c (.func (.func 49) #[] #[])) [(.t 10), (.t 11)]⟩,
   ⟨(some 13), none, .un .not (.t 12)⟩] (some [0, 1, 3, 6, 13]))
 (.cond (.t 13)
  (.seq (.ops [⟨(some 8), none, .move (.c (.bool false))⟩] (some [8]))
  .ret)
  .skip))
 (.seq (.ops [⟨(some 14), none, .move (.t 0)⟩,
   ⟨(some 15), none, .nilCheck (.t 14)⟩,
   ⟨(some 16), none, .fieldAddr 1 (.t 15)⟩,
   ⟨(some 17), none, .load false 1 (.t 16)⟩,
   ⟨(some 18), none, .move (.t 1)⟩,
   ⟨(some 19), none, .indexAddr 2 (.t 17) (.t 18)⟩,
   ⟨(some 20), none, .fieldAddr 0 (.t 19)⟩,
   ⟨(some 21), none, .load false 1 (.t 20)⟩,
   ⟨(some 9), none, .alloc [(.int .u64 0)]⟩,
   ⟨none, none, .store 1 (.t 9) (.t 21)⟩] (some [3, 6, 9]))
 (.seq (.ops [⟨(some 22), none, .move (.t 3)⟩,
   ⟨(some 23), none, .makeFunc (.func 53) [] [(.t 9), (.t 6)]⟩,
   ⟨(some 24), none, .call (.c (.func (.func 33) #[] #[])) [(.t 22), (.t 23)]⟩,
   ⟨(some 25), none, .un .not (.t 24)⟩,
   ⟨(some 8), none, .move (.t 25)⟩] (some [8]))
 .ret)))), [.tmp 8]⟩

/-- cloisonne/caps.bit -/
def x38 : XDecl := .code ⟨1, 
 (.seq (.ops [⟨(some 2), none, .move (.c (.int .u64 0))⟩] (some [0]))
 (.seq (.seq (.ops [⟨(some 3), none, .move (.t 0)⟩,
   ⟨(some 4), none, .bin .lss 30 (.t 3) (.c (.int .u64 1))⟩,
   ⟨(some 5), none, .move (.t 4)⟩,
   ⟨(some 6), (some (5, false)), .move (.t 0)⟩,
   ⟨(some 7), (some (5, false)), .bin .gtr 30 (.t 6) (.c (.int .u64 16))⟩,
   ⟨(some 8), none, .pick (.t 5) (.c (.bool true)) (.t 7)⟩] (some [0, 8]))
 (.cond (.t 8)
  (.seq (.ops [⟨(some 2), none, .move (.c (.int .u64 0))⟩] (some [2]))
  .ret)
  .skip))
 (.seq (.ops [⟨(some 9), none, .move (.t 0)⟩,
   ⟨(some 10), none, .bin .sub 30 (.t 9) (.c (.int .u64 1))⟩,
   ⟨(some 11), none, .bin .shl 76 (.c (.int .u64 1)) (.t 10)⟩,
   ⟨(some 2), none, .move (.t 11)⟩] (some [2]))
 .ret))), [.tmp 2]⟩

/-- cloisonne/flow.Flows$1 -/
def x42 : XDecl := .code ⟨1, 
 (.seq (.ops [⟨(some 2), none, .move (.c (.bool false))⟩] (some [0]))
 (.seq (.ops [⟨(some 3), none, .move (.t 0)⟩,
   ⟨(some 4), none, .call (.c (.func (.func 30) #[] #[])) [(.t 3)]⟩,
   ⟨(some 5), none, .un .not (.t 4)⟩,
   ⟨(some 2), none, .move (.t 5)⟩] (some [2]))
 .ret)), [.tmp 2]⟩

/-- slices.ContainsFunc[[][]uint64,[]uint64] -/
def x43 : XDecl := .code ⟨2, 
 (.seq (.ops [⟨(some 4), none, .move (.c (.bool false))⟩] (some [0, 1]))
 (.seq (.ops [⟨(some 5), none, .move (.t 0)⟩,
   ⟨(some 6), none, .move (.t 1)⟩,
   ⟨(some 7), none, .call (.c (.func (.func 57) #[] #[])) [(.t 5), (.t 6)]⟩,
   ⟨(some 8), none, .bin .geq 3 (.t 7) (.c (.int .i64 0))⟩,
   ⟨(some 4), none, .move (.t 8)⟩] (some [4]))
 .ret)), [.tmp 4]⟩

/-- cloisonne/flow.anybody -/
def x44 : XDecl := .code ⟨3, 
 (.seq (.ops [⟨(some 6), none, .move (.c (.bool false))⟩] (some [0, 1, 2]))
 (.seq (.seq (.ops [⟨(some 8), none, .move (.t 0)⟩,
   ⟨(some 9), none, .call (.c (.func (.func 46) #[] #[])) [(.t 8)]⟩,
   ⟨(some 10), none, .move (.c (.int .i64 0))⟩] (some [0, 1, 2, 9, 10]))
 (.block 0
  (.loop
   (.seq (.ops [⟨(some 11), none, .bin .lss 3 (.t 10) (.t 9)⟩] (some [0, 1, 2, 9, 10, 11]))
   (.seq (.cond (.t 11)
    .skip
    (.exit 0))
   (.seq (.block 1
    (.seq (.ops [⟨(some 12), none, .move (.t 10)⟩,
      ⟨(some 7), none, .move (.t 12)⟩] (some [0, 1, 2, 7, 9, 10]))
    (.seq (.ops [⟨(some 13), none, .move (.t 0)⟩,
      ⟨(some 14), none, .move (.t 7)⟩,
      ⟨(some 15), none, .move (.t 1)⟩,
      ⟨(some 16), none, .move (.t 2)⟩,
      ⟨(some 17), none, .call (.c (.func (.func 14) #[] #[])) [(.t 13), (.t 14), (.t 15), (.t 16)]⟩] (some [0, 1, 2, 9, 10, 17]))
    (.cond (.t 17)
     (.seq (.ops [⟨(some 6), none, .move (.c (.bool true))⟩] (some [6]))
     .ret)
     .skip))))
   (.ops [⟨(some 18), none, .bin .add 3 (.t 10) (.c (.int .i64 1))⟩,
     ⟨(some 10), none, .move (.t 18)⟩] (some [0, 1, 2, 9, 10]))))))))
 (.seq (.ops [⟨(some 6), none, .move (.c (.bool false))⟩] (some [6]))
 .ret))), [.tmp 6]⟩

/-- cloisonne/label.In -/
def x45 : XDecl := .code ⟨2, 
 (.seq (.ops [⟨(some 3), none, .box (.t 1)⟩,
   ⟨(some 4), none, .move (.c (.bool false))⟩] (some [0, 3]))
 (.seq (.ops [⟨(some 5), none, .move (.t 0)⟩,
   ⟨(some 6), none, .makeFunc (.func 58) [] [(.t 3)]⟩,
   ⟨(some 7), none, .call (.c (.func (.func 33) #[] #[])) [(.t 5), (.t 6)]⟩,
   ⟨(some 8), none, .un .not (.t 7)⟩,
   ⟨(some 4), none, .move (.t 8)⟩] (some [4]))
 .ret)), [.tmp 4]⟩

/-- (*cloisonne/caps.Table).People -/
def x46 : XDecl := .code ⟨1, 
 (.seq (.ops [⟨(some 2), none, .move (.c (.int .i64 0))⟩] (some [0]))
 (.seq (.seq (.ops [⟨(some 3), none, .move (.t 0)⟩,
   ⟨(some 4), none, .isNil .ptr false (.t 3)⟩] (some [0, 4]))
 (.cond (.t 4)
  (.seq (.ops [⟨(some 2), none, .move (.c (.int .i64 0))⟩] (some [2]))
  .ret)
  .skip))
 (.seq (.ops [⟨(some 5), none, .move (.t 0)⟩,
   ⟨(some 6), none, .nilCheck (.t 5)⟩,
   ⟨(some 7), none, .fieldAddr 1 (.t 6)⟩,
   ⟨(some 8), none, .load false 1 (.t 7)⟩,
   ⟨(some 9), none, .len (.t 8)⟩,
   ⟨(some 2), none, .move (.t 9)⟩] (some [2]))
 .ret))), [.tmp 2]⟩

/-- cloisonne/caps.Load$1 -/
def x47 : XDecl := .code ⟨2, 
 (.seq (.ops [⟨(some 3), none, .move (.c (.bool false))⟩] (some [0, 1]))
 (.seq (.ops [⟨(some 4), none, .move (.t 0)⟩,
   ⟨(some 5), none, .load false 1 (.t 1)⟩,
   ⟨(some 6), none, .conv 3 98 (.t 5)⟩,
   ⟨(some 7), none, .bin .shr 30 (.t 4) (.t 6)⟩,
   ⟨(some 8), none, .bin .neq 30 (.t 7) (.c (.int .u64 0))⟩,
   ⟨(some 3), none, .move (.t 8)⟩] (some [3]))
 .ret)), [.tmp 3]⟩

/-- (*cloisonne/caps.Table).one -/
def x49 : XDecl := .code ⟨2, 
 (.seq (.ops [⟨(some 4), none, .move (.c (.bool false))⟩] (some [0, 1]))
 (.seq (.ops [⟨(some 5), none, .move (.t 0)⟩,
   ⟨(some 6), none, .isNil .ptr true (.t 5)⟩,
   ⟨(some 7), none, .move (.t 6)⟩,
   ⟨(some 8), (some (7, true)), .move (.t 1)⟩,
   ⟨(some 9), (some (7, true)), .bin .geq 3 (.t 8) (.c (.int .i64 0))⟩,
   ⟨(some 10), none, .pick (.t 7) (.t 9) (.c (.bool false))⟩,
   ⟨(some 11), none, .move (.t 10)⟩,
   ⟨(some 12), (some (11, true)), .move (.t 1)⟩,
   ⟨(some 13), (some (11, true)), .move (.t 0)⟩,
   ⟨(some 14), (some (11, true)), .nilCheck (.t 13)⟩,
   ⟨(some 15), (some (11, true)), .fieldAddr 1 (.t 14)⟩,
   ⟨(some 16), (some (11, true)), .load false 1 (.t 15)⟩,
   ⟨(some 17), (some (11, true)), .len (.t 16)⟩,
   ⟨(some 18), (some (11, true)), .bin .lss 3 (.t 12) (.t 17)⟩,
   ⟨(some 19), none, .pick (.t 11) (.t 18) (.c (.bool false))⟩,
   ⟨(some 4), none, .move (.t 19)⟩] (some [4]))
 .ret)), [.tmp 4]⟩

/-- (cloisonne/caps.set).has -/
def x50 : XDecl := .code ⟨2, 
 (.seq (.ops [⟨(some 4), none, .move (.c (.bool false))⟩] (some [0, 1]))
 (.seq (.ops [⟨(some 5), none, .move (.t 0)⟩,
   ⟨(some 6), none, .move (.t 1)⟩,
   ⟨(some 7), none, .call (.c (.func (.func 38) #[] #[])) [(.t 6)]⟩,
   ⟨(some 8), none, .bin .and 76 (.t 5) (.t 7)⟩,
   ⟨(some 9), none, .bin .neq 76 (.t 8) (.c (.int .u64 0))⟩,
   ⟨(some 4), none, .move (.t 9)⟩] (some [4]))
 .ret)), [.tmp 4]⟩

/-- slices.IndexFunc[[]uint64,uint64] -/
def x51 : XDecl := .code ⟨2, 
 (.seq (.ops [⟨(some 4), none, .move (.c (.int .i64 0))⟩] (some [0, 1]))
 (.seq (.seq (.ops [⟨(some 6), none, .move (.t 0)⟩,
   ⟨(some 7), none, .len (.t 6)⟩,
   ⟨(some 8), none, .move (.c (.int .i64 0))⟩] (some [0, 1, 7, 8]))
 (.block 0
  (.loop
   (.seq (.ops [⟨(some 9), none, .bin .lss 3 (.t 8) (.t 7)⟩] (some [0, 1, 7, 8, 9]))
   (.seq (.cond (.t 9)
    .skip
    (.exit 0))
   (.seq (.block 1
    (.seq (.ops [⟨(some 10), none, .move (.t 8)⟩,
      ⟨(some 5), none, .move (.t 10)⟩] (some [0, 1, 5, 7, 8]))
    (.seq (.ops [⟨(some 11), none, .move (.t 1)⟩,
      ⟨(some 12), none, .move (.t 0)⟩,
      ⟨(some 13), none, .move (.t 5)⟩,
      ⟨(some 14), none, .indexAddr 1 (.t 12) (.t 13)⟩,
      ⟨(some 15), none, .load false 1 (.t 14)⟩,
      ⟨(some 16), none, .call (.t 11) [(.t 15)]⟩] (some [0, 1, 5, 7, 8, 16]))
    (.cond (.t 16)
     (.seq (.ops [⟨(some 17), none, .move (.t 5)⟩,
       ⟨(some 4), none, .move (.t 17)⟩] (some [4]))
     .ret)
     .skip))))
   (.ops [⟨(some 18), none, .bin .add 3 (.t 8) (.c (.int .i64 1))⟩,
     ⟨(some 8), none, .move (.t 18)⟩] (some [0, 1, 7, 8]))))))))
 (.seq (.ops [⟨(some 4), none, .move (.c (.int .i64 (-1)))⟩] (some [4]))
 .ret))), [.tmp 4]⟩

/-- cloisonne/label.kept -/
def x52 : XDecl := .code ⟨3, 
 (.seq (.ops [⟨(some 4), none, .box (.t 1)⟩,
   ⟨(some 5), none, .box (.t 2)⟩,
   ⟨(some 6), none, .move (.c (.slice none 0 0))⟩] (some [0, 4, 5]))
 (.seq (.seq (.ops [⟨(some 7), none, .move (.t 0)⟩,
   ⟨(some 8), none, .call (.c (.func (.func 30) #[] #[])) [(.t 7)]⟩,
   ⟨(some 9), none, .un .not (.t 8)⟩,
   ⟨(some 10), none, .move (.t 9)⟩,
   ⟨(some 11), (some (10, false)), .load false 1 (.t 4)⟩,
   ⟨(some 12), (some (10, false)), .call (.c (.func (.func 30) #[] #[])) [(.t 11)]⟩,
   ⟨(some 13), (some (10, false)), .un .not (.t 12)⟩,
   ⟨(some 14), none, .pick (.t 10) (.c (.bool true)) (.t 13)⟩] (some [0, 4, 5, 14]))
 (.cond (.t 14)
  (.seq (.ops [⟨(some 6), none, .move (.c (.slice none 0 0))⟩] (some [6]))
  .ret)
  .skip))
 (.seq (.ops [⟨(some 15), none, .move (.t 0)⟩,
   ⟨(some 16), none, .call (.c (.func (.func 60) #[] #[])) [(.t 15)]⟩,
   ⟨(some 17), none, .makeFunc (.func 61) [] [(.t 4), (.t 5)]⟩,
   ⟨(some 18), none, .call (.c (.func (.func 59) #[] #[])) [(.t 16), (.t 17)]⟩,
   ⟨(some 6), none, .move (.t 18)⟩] (some [6]))
 .ret))), [.tmp 6]⟩

/-- (*cloisonne/caps.Table).Clear$1 -/
def x53 : XDecl := .code ⟨3, 
 (.seq (.ops [⟨(some 4), none, .move (.c (.bool false))⟩] (some [0, 1, 2]))
 (.seq (.ops [⟨(some 5), none, .load false 1 (.t 1)⟩,
   ⟨(some 6), none, .move (.t 0)⟩,
   ⟨(some 7), none, .call (.c (.func (.func 50) #[] #[])) [(.t 5), (.t 6)]⟩,
   ⟨(some 8), none, .un .not (.t 7)⟩,
   ⟨(some 9), none, .move (.t 8)⟩,
   ⟨(some 10), (some (9, true)), .load false 1 (.t 2)⟩,
   ⟨(some 11), (some (9, true)), .move (.t 0)⟩,
   ⟨(some 12), (some (9, true)), .call (.c (.func (.func 54) #[] #[])) [(.t 10), (.t 11)]⟩,
   ⟨(some 13), (some (9, true)), .un .not (.t 12)⟩,
   ⟨(some 14), none, .pick (.t 9) (.t 13) (.c (.bool false))⟩,
   ⟨(some 4), none, .move (.t 14)⟩] (some [4]))
 .ret)), [.tmp 4]⟩

/-- cloisonne/label.Has -/
def x54 : XDecl := .code ⟨2, 
 (.seq (.ops [⟨(some 4), none, .move (.c (.bool false))⟩] (some [0, 1]))
 (.seq (.ops [⟨(some 5), none, .move (.t 0)⟩,
   ⟨(some 6), none, .move (.t 1)⟩,
   ⟨(some 7), none, .call (.c (.func (.func 62) #[] #[])) [(.t 5), (.t 6)]⟩,
   ⟨(some 4), none, .move (.t 7)⟩] (some [4]))
 .ret)), [.tmp 4]⟩

/-- slices.IndexFunc[[][]uint64,[]uint64] -/
def x57 : XDecl := .code ⟨2, 
 (.seq (.ops [⟨(some 4), none, .move (.c (.int .i64 0))⟩] (some [0, 1]))
 (.seq (.seq (.ops [⟨(some 6), none, .move (.t 0)⟩,
   ⟨(some 7), none, .len (.t 6)⟩,
   ⟨(some 8), none, .move (.c (.int .i64 0))⟩] (some [0, 1, 7, 8]))
 (.block 0
  (.loop
   (.seq (.ops [⟨(some 9), none, .bin .lss 3 (.t 8) (.t 7)⟩] (some [0, 1, 7, 8, 9]))
   (.seq (.cond (.t 9)
    .skip
    (.exit 0))
   (.seq (.block 1
    (.seq (.ops [⟨(some 10), none, .move (.t 8)⟩,
      ⟨(some 5), none, .move (.t 10)⟩] (some [0, 1, 5, 7, 8]))
    (.seq (.ops [⟨(some 11), none, .move (.t 1)⟩,
      ⟨(some 12), none, .move (.t 0)⟩,
      ⟨(some 13), none, .move (.t 5)⟩,
      ⟨(some 14), none, .indexAddr 1 (.t 12) (.t 13)⟩,
      ⟨(some 15), none, .load false 1 (.t 14)⟩,
      ⟨(some 16), none, .call (.t 11) [(.t 15)]⟩] (some [0, 1, 5, 7, 8, 16]))
    (.cond (.t 16)
     (.seq (.ops [⟨(some 17), none, .move (.t 5)⟩,
       ⟨(some 4), none, .move (.t 17)⟩] (some [4]))
     .ret)
     .skip))))
   (.ops [⟨(some 18), none, .bin .add 3 (.t 8) (.c (.int .i64 1))⟩,
     ⟨(some 8), none, .move (.t 18)⟩] (some [0, 1, 7, 8]))))))))
 (.seq (.ops [⟨(some 4), none, .move (.c (.int .i64 (-1)))⟩] (some [4]))
 .ret))), [.tmp 4]⟩

/-- cloisonne/label.In$1 -/
def x58 : XDecl := .code ⟨2, 
 (.seq (.ops [⟨(some 3), none, .move (.c (.bool false))⟩] (some [0, 1]))
 (.seq (.ops [⟨(some 4), none, .load false 1 (.t 1)⟩,
   ⟨(some 5), none, .move (.t 0)⟩,
   ⟨(some 6), none, .call (.c (.func (.func 54) #[] #[])) [(.t 4), (.t 5)]⟩,
   ⟨(some 7), none, .un .not (.t 6)⟩,
   ⟨(some 3), none, .move (.t 7)⟩] (some [3]))
 .ret)), [.tmp 3]⟩

/-- slices.DeleteFunc[[]uint64,uint64] -/
def x59 : XDecl := .code ⟨2, 
 (.seq (.ops [⟨(some 4), none, .move (.c (.slice none 0 0))⟩] (some [0, 1]))
 (.seq (.ops [⟨(some 8), none, .move (.t 0)⟩,
   ⟨(some 9), none, .move (.t 1)⟩,
   ⟨(some 10), none, .call (.c (.func (.func 51) #[] #[])) [(.t 8), (.t 9)]⟩,
   ⟨(some 5), none, .move (.t 10)⟩] (some [0, 1, 5]))
 (.seq (.seq (.ops [⟨(some 11), none, .move (.t 5)⟩,
   ⟨(some 12), none, .bin .eql 3 (.t 11) (.c (.int .i64 (-1)))⟩] (some [0, 1, 5, 12]))
 (.cond (.t 12)
  (.seq (.ops [⟨(some 13), none, .move (.t 0)⟩,
    ⟨(some 4), none, .move (.t 13)⟩] (some [4]))
  .ret)
  .skip))
 (.seq (.seq (.ops [⟨(some 14), none, .move (.t 5)⟩,
   ⟨(some 15), none, .bin .add 3 (.t 14) (.c (.int .i64 1))⟩,
   ⟨(some 6), none, .move (.t 15)⟩] (some [0, 1, 5, 6]))
 (.block 0
  (.loop
   (.seq (.seq (.ops [⟨(some 16), none, .move (.t 6)⟩,
     ⟨(some 17), none, .move (.t 0)⟩,
     ⟨(some 18), none, .len (.t 17)⟩,
     ⟨(some 19), none, .bin .lss 3 (.t 16) (.t 18)⟩] (some [0, 1, 5, 6, 19]))
   (.cond (.t 19)
    .skip
    (.exit 0)))
   (.seq (.block 1
    (.seq (.ops [⟨(some 22), none, .move (.t 0)⟩,
      ⟨(some 23), none, .move (.t 6)⟩,
      ⟨(some 24), none, .indexAddr 1 (.t 22) (.t 23)⟩,
      ⟨(some 25), none, .load false 1 (.t 24)⟩,
      ⟨(some 7), none, .move (.t 25)⟩] (some [0, 1, 5, 6, 7]))
    (.seq (.ops [⟨(some 26), none, .move (.t 1)⟩,
      ⟨(some 27), none, .move (.t 7)⟩,
      ⟨(some 28), none, .call (.t 26) [(.t 27)]⟩,
      ⟨(some 29), none, .un .not (.t 28)⟩] (some [0, 1, 5, 6, 7, 29]))
    (.cond (.t 29)
     (.seq (.ops [⟨(some 30), none, .move (.t 0)⟩,
       ⟨(some 31), none, .move (.t 5)⟩,
       ⟨(some 32), none, .move (.t 7)⟩,
       ⟨(some 33), none, .indexAddr 1 (.t 30) (.t 31)⟩,
       ⟨none, none, .store 1 (.t 33) (.t 32)⟩] (some [0, 1, 5, 6]))
     (.ops [⟨(some 34), none, .move (.t 5)⟩,
       ⟨(some 35), none, .bin .add 3 (.t 34) (.c (.int .i64 1))⟩,
       ⟨(some 5), none, .move (.t 35)⟩] (some [0, 1, 5, 6])))
     .skip))))
   (.ops [⟨(some 20), none, .move (.t 6)⟩,
     ⟨(some 21), none, .bin .add 3 (.t 20) (.c (.int .i64 1))⟩,
     ⟨(some 6), none, .move (.t 21)⟩] (some [0, 1, 5, 6])))))))
 (.seq (.ops [⟨(some 36), none, .move (.t 0)⟩,
   ⟨(some 37), none, .move (.t 5)⟩,
   ⟨(some 38), none, .slice 1 (.t 36) (some (.t 37)) none none⟩,
   ⟨none, none, .clear [(.int .u64 0)] (.t 38)⟩] (some [0, 5]))
 (.seq (.ops [⟨(some 39), none, .move (.t 0)⟩,
   ⟨(some 40), none, .move (.t 5)⟩,
   ⟨(some 41), none, .slice 1 (.t 39) none (some (.t 40)) none⟩,
   ⟨(some 4), none, .move (.t 41)⟩] (some [4]))
 .ret)))))), [.tmp 4]⟩

/-- slices.Clone[[]uint64,uint64] -/
def x60 : XDecl := .code ⟨1, 
 (.seq (.ops [⟨(some 2), none, .move (.c (.slice none 0 0))⟩] (some [0]))
 (.seq (.seq (.ops [⟨(some 3), none, .move (.t 0)⟩,
   ⟨(some 4), none, .isNil .slice false (.t 3)⟩] (some [0, 4]))
 (.cond (.t 4)
  (.seq (.ops [⟨(some 2), none, .move (.c (.slice none 0 0))⟩] (some [2]))
  .ret)
  .skip))
 (.seq (.ops [⟨(some 5), none, .buildSlice [(.int .u64 0)] 1 0 []⟩,
   ⟨(some 6), none, .move (.t 0)⟩,
   ⟨(some 7), none, .append 1 8 [(.int .u64 0)] (.t 5) (.t 6)⟩,
   ⟨(some 2), none, .move (.t 7)⟩] (some [2]))
 .ret))), [.tmp 2]⟩

/-- cloisonne/label.kept$1 -/
def x61 : XDecl := .code ⟨3, 
 (.seq (.ops [⟨(some 4), none, .move (.c (.bool false))⟩] (some [0, 1, 2]))
 (.seq (.opsd [(0, 0, ⟨(some 5), none, .load false 1 (.t 1)⟩),
   (1, 0, ⟨(some 6), none, .move (.t 0)⟩),
   (3, 0, ⟨(some 8), none, .load false 1 (.t 2)⟩),
   (2, 3, ⟨(some 7), none, .call (.c (.func (.func 54) #[] #[])) [(.t 5), (.t 6)]⟩),
   (4, 15, ⟨(some 9), none, .bin .neq 4 (.t 7) (.t 8)⟩),
   (5, 31, ⟨(some 4), none, .move (.t 9)⟩)] (some [4]))
 .ret)), [.tmp 4]⟩

/-- slices.Contains[[]uint64,uint64] -/
def x62 : XDecl := .code ⟨2, 
 (.seq (.ops [⟨(some 4), none, .move (.c (.bool false))⟩] (some [0, 1]))
 (.seq (.ops [⟨(some 5), none, .move (.t 0)⟩,
   ⟨(some 6), none, .move (.t 1)⟩,
   ⟨(some 7), none, .call (.c (.func (.func 63) #[] #[])) [(.t 5), (.t 6)]⟩,
   ⟨(some 8), none, .bin .geq 3 (.t 7) (.c (.int .i64 0))⟩,
   ⟨(some 4), none, .move (.t 8)⟩] (some [4]))
 .ret)), [.tmp 4]⟩

/-- slices.Index[[]uint64,uint64] -/
def x63 : XDecl := .code ⟨2, 
 (.seq (.ops [⟨(some 4), none, .move (.c (.int .i64 0))⟩] (some [0, 1]))
 (.seq (.seq (.ops [⟨(some 6), none, .move (.t 0)⟩,
   ⟨(some 7), none, .len (.t 6)⟩,
   ⟨(some 8), none, .move (.c (.int .i64 0))⟩] (some [0, 1, 7, 8]))
 (.block 0
  (.loop
   (.seq (.ops [⟨(some 9), none, .bin .lss 3 (.t 8) (.t 7)⟩] (some [0, 1, 7, 8, 9]))
   (.seq (.cond (.t 9)
    .skip
    (.exit 0))
   (.seq (.block 1
    (.seq (.ops [⟨(some 10), none, .move (.t 8)⟩,
      ⟨(some 5), none, .move (.t 10)⟩] (some [0, 1, 5, 7, 8]))
    (.seq (.ops [⟨(some 11), none, .move (.t 1)⟩,
      ⟨(some 12), none, .move (.t 0)⟩,
      ⟨(some 13), none, .move (.t 5)⟩,
      ⟨(some 14), none, .indexAddr 1 (.t 12) (.t 13)⟩,
      ⟨(some 15), none, .load false 1 (.t 14)⟩,
      ⟨(some 16), none, .bin .eql 30 (.t 11) (.t 15)⟩] (some [0, 1, 5, 7, 8, 16]))
    (.cond (.t 16)
     (.seq (.ops [⟨(some 17), none, .move (.t 5)⟩,
       ⟨(some 4), none, .move (.t 17)⟩] (some [4]))
     .ret)
     .skip))))
   (.ops [⟨(some 18), none, .bin .add 3 (.t 8) (.c (.int .i64 1))⟩,
     ⟨(some 8), none, .move (.t 18)⟩] (some [0, 1, 7, 8]))))))))
 (.seq (.ops [⟨(some 4), none, .move (.c (.int .i64 (-1)))⟩] (some [4]))
 .ret))), [.tmp 4]⟩

def tab : FuncId → Option XDecl
  | 5 => some x5
  | 8 => some x8
  | 10 => some x10
  | 13 => some x13
  | 14 => some x14
  | 18 => some x18
  | 19 => some x19
  | 20 => some x20
  | 26 => some x26
  | 27 => some x27
  | 29 => some x29
  | 30 => some x30
  | 31 => some x31
  | 32 => some x32
  | 33 => some x33
  | 34 => some x34
  | 35 => some x35
  | 38 => some x38
  | 42 => some x42
  | 43 => some x43
  | 44 => some x44
  | 45 => some x45
  | 46 => some x46
  | 47 => some x47
  | 49 => some x49
  | 50 => some x50
  | 51 => some x51
  | 52 => some x52
  | 53 => some x53
  | 54 => some x54
  | 57 => some x57
  | 58 => some x58
  | 59 => some x59
  | 60 => some x60
  | 61 => some x61
  | 62 => some x62
  | 63 => some x63
  | _ => none

theorem is5 : FnIs Try.prog 5 x5 := ⟨Try.f5, _, Try.func5, by kernel_rfl, rfl, by kernel_rfl, by decide, by kernel_rfl⟩
theorem is8 : FnIs Try.prog 8 x8 := ⟨Try.f8, _, Try.func8, by kernel_rfl, rfl, by kernel_rfl, by decide, by kernel_rfl⟩
theorem is10 : FnIs Try.prog 10 x10 := ⟨Try.f10, _, Try.func10, by kernel_rfl, rfl, by kernel_rfl, by decide, by kernel_rfl⟩
theorem is13 : FnIs Try.prog 13 x13 := ⟨Try.f13, _, Try.func13, by kernel_rfl, rfl, by kernel_rfl, by decide, by kernel_rfl⟩
theorem is14 : FnIs Try.prog 14 x14 := ⟨Try.f14, _, Try.func14, by kernel_rfl, rfl, by kernel_rfl, by decide, by kernel_rfl⟩
theorem is18 : FnIs Try.prog 18 x18 := ⟨Try.f18, _, Try.func18, by kernel_rfl, rfl, by kernel_rfl, by decide, by kernel_rfl⟩
theorem is19 : FnIs Try.prog 19 x19 := ⟨Try.f19, _, Try.func19, by kernel_rfl, rfl, by kernel_rfl, by decide, by kernel_rfl⟩
theorem is20 : FnIs Try.prog 20 x20 := ⟨Try.f20, _, Try.func20, by kernel_rfl, rfl, by kernel_rfl, by decide, by kernel_rfl⟩
theorem is26 : FnIs Try.prog 26 x26 := ⟨Try.f26, _, Try.func26, by kernel_rfl, rfl, by kernel_rfl, by decide, by kernel_rfl⟩
theorem is27 : FnIs Try.prog 27 x27 := ⟨Try.f27, _, Try.func27, by kernel_rfl, rfl, by kernel_rfl, by decide, by kernel_rfl⟩
theorem is29 : FnIs Try.prog 29 x29 := ⟨Try.f29, _, Try.func29, by kernel_rfl, rfl, by kernel_rfl, by decide, by kernel_rfl⟩
theorem is30 : FnIs Try.prog 30 x30 := ⟨Try.f30, _, Try.func30, by kernel_rfl, rfl, by kernel_rfl, by decide, by kernel_rfl⟩
theorem is31 : FnIs Try.prog 31 x31 := ⟨Try.f31, _, Try.func31, by kernel_rfl, rfl, by kernel_rfl, by decide, by kernel_rfl⟩
theorem is32 : FnIs Try.prog 32 x32 := ⟨Try.f32, _, Try.func32, by kernel_rfl, rfl, by kernel_rfl, by decide, by kernel_rfl⟩
theorem is33 : FnIs Try.prog 33 x33 := ⟨Try.f33, _, Try.func33, by kernel_rfl, rfl, by kernel_rfl, by decide, by kernel_rfl⟩
theorem is34 : FnIs Try.prog 34 x34 := ⟨Try.f34, _, Try.func34, by kernel_rfl, rfl, by kernel_rfl, by decide, by kernel_rfl⟩
theorem is35 : FnIs Try.prog 35 x35 := ⟨Try.f35, _, Try.func35, by kernel_rfl, rfl, by kernel_rfl, by decide, by kernel_rfl⟩
theorem is38 : FnIs Try.prog 38 x38 := ⟨Try.f38, _, Try.func38, by kernel_rfl, rfl, by kernel_rfl, by decide, by kernel_rfl⟩
theorem is42 : FnIs Try.prog 42 x42 := ⟨Try.f42, _, Try.func42, by kernel_rfl, rfl, by kernel_rfl, by decide, by kernel_rfl⟩
theorem is43 : FnIs Try.prog 43 x43 := ⟨Try.f43, _, Try.func43, by kernel_rfl, rfl, by kernel_rfl, by decide, by kernel_rfl⟩
theorem is44 : FnIs Try.prog 44 x44 := ⟨Try.f44, _, Try.func44, by kernel_rfl, rfl, by kernel_rfl, by decide, by kernel_rfl⟩
theorem is45 : FnIs Try.prog 45 x45 := ⟨Try.f45, _, Try.func45, by kernel_rfl, rfl, by kernel_rfl, by decide, by kernel_rfl⟩
theorem is46 : FnIs Try.prog 46 x46 := ⟨Try.f46, _, Try.func46, by kernel_rfl, rfl, by kernel_rfl, by decide, by kernel_rfl⟩
theorem is47 : FnIs Try.prog 47 x47 := ⟨Try.f47, _, Try.func47, by kernel_rfl, rfl, by kernel_rfl, by decide, by kernel_rfl⟩
theorem is49 : FnIs Try.prog 49 x49 := ⟨Try.f49, _, Try.func49, by kernel_rfl, rfl, by kernel_rfl, by decide, by kernel_rfl⟩
theorem is50 : FnIs Try.prog 50 x50 := ⟨Try.f50, _, Try.func50, by kernel_rfl, rfl, by kernel_rfl, by decide, by kernel_rfl⟩
theorem is51 : FnIs Try.prog 51 x51 := ⟨Try.f51, _, Try.func51, by kernel_rfl, rfl, by kernel_rfl, by decide, by kernel_rfl⟩
theorem is52 : FnIs Try.prog 52 x52 := ⟨Try.f52, _, Try.func52, by kernel_rfl, rfl, by kernel_rfl, by decide, by kernel_rfl⟩
theorem is53 : FnIs Try.prog 53 x53 := ⟨Try.f53, _, Try.func53, by kernel_rfl, rfl, by kernel_rfl, by decide, by kernel_rfl⟩
theorem is54 : FnIs Try.prog 54 x54 := ⟨Try.f54, _, Try.func54, by kernel_rfl, rfl, by kernel_rfl, by decide, by kernel_rfl⟩
theorem is57 : FnIs Try.prog 57 x57 := ⟨Try.f57, _, Try.func57, by kernel_rfl, rfl, by kernel_rfl, by decide, by kernel_rfl⟩
theorem is58 : FnIs Try.prog 58 x58 := ⟨Try.f58, _, Try.func58, by kernel_rfl, rfl, by kernel_rfl, by decide, by kernel_rfl⟩
theorem is59 : FnIs Try.prog 59 x59 := ⟨Try.f59, _, Try.func59, by kernel_rfl, rfl, by kernel_rfl, by decide, by kernel_rfl⟩
theorem is60 : FnIs Try.prog 60 x60 := ⟨Try.f60, _, Try.func60, by kernel_rfl, rfl, by kernel_rfl, by decide, by kernel_rfl⟩
theorem is61 : FnIs Try.prog 61 x61 := ⟨Try.f61, _, Try.func61, by kernel_rfl, rfl, by kernel_rfl, by decide, by kernel_rfl⟩
theorem is62 : FnIs Try.prog 62 x62 := ⟨Try.f62, _, Try.func62, by kernel_rfl, rfl, by kernel_rfl, by decide, by kernel_rfl⟩
theorem is63 : FnIs Try.prog 63 x63 := ⟨Try.f63, _, Try.func63, by kernel_rfl, rfl, by kernel_rfl, by decide, by kernel_rfl⟩

theorem tab_is : ∀ f d, tab f = some d → FnIs Try.prog f d := by
  intro f d h
  unfold tab at h
  split at h
  · cases h; exact is5
  · cases h; exact is8
  · cases h; exact is10
  · cases h; exact is13
  · cases h; exact is14
  · cases h; exact is18
  · cases h; exact is19
  · cases h; exact is20
  · cases h; exact is26
  · cases h; exact is27
  · cases h; exact is29
  · cases h; exact is30
  · cases h; exact is31
  · cases h; exact is32
  · cases h; exact is33
  · cases h; exact is34
  · cases h; exact is35
  · cases h; exact is38
  · cases h; exact is42
  · cases h; exact is43
  · cases h; exact is44
  · cases h; exact is45
  · cases h; exact is46
  · cases h; exact is47
  · cases h; exact is49
  · cases h; exact is50
  · cases h; exact is51
  · cases h; exact is52
  · cases h; exact is53
  · cases h; exact is54
  · cases h; exact is57
  · cases h; exact is58
  · cases h; exact is59
  · cases h; exact is60
  · cases h; exact is61
  · cases h; exact is62
  · cases h; exact is63
  · cases h

theorem mixed : Try.prog.follows .mixedOrders = true := by kernel_rfl
theorem laid : laidOutB Try.prog = true := by kernel_rfl
theorem own : ownKnob Try.prog.godebug = none := by kernel_rfl

end Go.Proofs.Ytfjeccaffenngaa.X
