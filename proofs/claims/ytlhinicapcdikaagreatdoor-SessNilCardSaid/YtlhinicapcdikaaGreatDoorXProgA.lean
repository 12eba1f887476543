/-
  Own work, printed by a program of ours (mkprog.py): the functions of this seat as code of the abstract run, and that each is the model's.
-/
import Derived.Test.YtlhinicapcdikaaGreatDoorXLaw
import Derived.Test.YtlhinicapcdikaaGreatDoorChecked
set_option maxRecDepth 100000
namespace Go.Proofs.YtlhinicapcdikaaGreatDoor.X
open Go

/-- cloisonne/cloisonnelaw21.SessNil -/
def x3 : XDecl := .code ⟨2, 
 (.seq (.ops [⟨(some 2), none, .box (.t 0)⟩,
   ⟨(some 4), none, .move (.c (.bool false))⟩] (some [1, 2]))
 (.seq (.seq (.ops [⟨(some 11), none, .call (.c (.func (.func 7) #[] #[])) []⟩,
   ⟨(some 12), none, .un .not (.t 11)⟩] (some [1, 2, 12]))
 (.cond (.t 12)
  (.seq (.ops [⟨(some 4), none, .move (.c (.bool false))⟩] (some [4]))
  .ret)
  .skip))
 (.seq (.seq (.ops [⟨(some 13), none, .load true 15 (.t 2)⟩,
   ⟨(some 14), none, .call (.c (.func (.func 8) #[] #[])) [(.t 13)]⟩] (some [1, 2, 14]))
 (.cond (.t 14)
  (.seq (.ops [⟨(some 4), none, .move (.c (.bool true))⟩] (some [4]))
  .ret)
  .skip))
 (.seq (.ops [⟨(some 5), none, .move (.c (.pointer none))⟩] (some [1, 2, 5]))
 (.seq (.ops [⟨(some 16), none, .move (.t 5)⟩,
   ⟨(some 17), none, .move (.t 1)⟩,
   ⟨(some 18), none, .call (.c (.func (.func 9) #[] #[])) [(.t 16), (.t 17)]⟩,
   ⟨(some 15), none, .move (.t 18)⟩,
   ⟨(some 19), none, .extract (.t 15) 0⟩,
   ⟨(some 20), none, .extract (.t 15) 1⟩,
   ⟨(some 21), none, .extract (.t 15) 2⟩,
   ⟨(some 7), none, .alloc [(.int .i64 0), (.int .u64 0), (.bool false), (.bool false), (.string .empty), (.int .u64 0), (.slice none 0 0), (.int .i64 0), (.int .u64 0), (.int .u64 0), (.int .u64 0), (.int .u64 0)]⟩,
   ⟨(some 6), none, .move (.t 19)⟩,
   ⟨none, none, .store 12 (.t 7) (.t 20)⟩,
   ⟨(some 8), none, .move (.t 21)⟩] (some [1, 2, 5, 6, 7, 8]))
 (.seq (.ops [⟨(some 23), none, .move (.t 1)⟩,
   ⟨(some 24), none, .call (.c (.func (.func 10) #[] #[])) [(.c (.pointer none)), (.t 23)]⟩,
   ⟨(some 22), none, .move (.t 24)⟩,
   ⟨(some 25), none, .extract (.t 22) 0⟩,
   ⟨(some 26), none, .extract (.t 22) 1⟩,
   ⟨(some 9), none, .move (.t 25)⟩,
   ⟨(some 10), none, .move (.t 26)⟩] (some [2, 5, 6, 7, 8, 9, 10]))
 (.seq (.ops [⟨(some 27), none, .move (.t 5)⟩,
   ⟨(some 28), none, .load true 15 (.t 2)⟩,
   ⟨(some 29), none, .call (.c (.func (.func 11) #[] #[])) [(.t 27), (.t 28)]⟩,
   ⟨(some 30), none, .bin .eql 34 (.t 29) (.c (.int .i64 2))⟩,
   ⟨(some 31), none, .move (.t 30)⟩,
   ⟨(some 32), (some (31, true)), .move (.t 6)⟩,
   ⟨(some 33), (some (31, true)), .bin .eql 3 (.t 32) (.c (.int .i64 0))⟩,
   ⟨(some 34), none, .pick (.t 31) (.t 33) (.c (.bool false))⟩,
   ⟨(some 35), none, .move (.t 34)⟩,
   ⟨(some 36), (some (35, true)), .load true 12 (.t 7)⟩,
   ⟨(some 37), (some (35, true)), .build [(.int .i64 0), (.int .u64 0), (.bool false), (.bool false), (.string .empty), (.int .u64 0), (.slice none 0 0), (.int .i64 0), (.int .u64 0), (.int .u64 0), (.int .u64 0), (.int .u64 0)] [(0, 1), (1, 1), (2, 1), (3, 3), (6, 1), (7, 5)] []⟩,
   ⟨(some 38), (some (35, true)), .call (.c (.func (.func 12) #[] #[])) [(.t 36), (.t 37)]⟩,
   ⟨(some 39), none, .pick (.t 35) (.t 38) (.c (.bool false))⟩,
   ⟨(some 40), none, .move (.t 39)⟩,
   ⟨(some 41), (some (40, true)), .move (.t 8)⟩,
   ⟨(some 42), (some (40, true)), .bin .eql 34 (.t 41) (.c (.int .i64 2))⟩,
   ⟨(some 43), none, .pick (.t 40) (.t 42) (.c (.bool false))⟩,
   ⟨(some 44), none, .move (.t 43)⟩,
   ⟨(some 45), (some (44, true)), .move (.t 9)⟩,
   ⟨(some 46), (some (44, true)), .isNil .ptr false (.t 45)⟩,
   ⟨(some 47), none, .pick (.t 44) (.t 46) (.c (.bool false))⟩,
   ⟨(some 48), none, .move (.t 47)⟩,
   ⟨(some 49), (some (48, true)), .move (.t 10)⟩,
   ⟨(some 50), (some (48, true)), .bin .eql 34 (.t 49) (.c (.int .i64 2))⟩,
   ⟨(some 51), none, .pick (.t 48) (.t 50) (.c (.bool false))⟩,
   ⟨(some 52), none, .move (.t 51)⟩,
   ⟨(some 53), (some (52, true)), .move (.t 5)⟩,
   ⟨(some 54), (some (52, true)), .call (.c (.func (.func 13) #[] #[])) [(.t 53)]⟩,
   ⟨(some 55), (some (52, true)), .un .not (.t 54)⟩,
   ⟨(some 56), none, .pick (.t 52) (.t 55) (.c (.bool false))⟩,
   ⟨(some 57), none, .move (.t 56)⟩,
   ⟨(some 58), (some (57, true)), .move (.t 5)⟩,
   ⟨(some 59), (some (57, true)), .call (.c (.func (.func 14) #[] #[])) [(.t 58)]⟩,
   ⟨(some 60), (some (57, true)), .bin .eql 3 (.t 59) (.c (.int .i64 0))⟩,
   ⟨(some 61), none, .pick (.t 57) (.t 60) (.c (.bool false))⟩,
   ⟨(some 62), none, .move (.t 61)⟩,
   ⟨(some 63), (some (62, true)), .move (.t 5)⟩,
   ⟨(some 64), (some (62, true)), .call (.c (.func (.func 15) #[] #[])) [(.t 63)]⟩,
   ⟨(some 65), (some (62, true)), .un .not (.t 64)⟩,
   ⟨(some 66), none, .pick (.t 62) (.t 65) (.c (.bool false))⟩,
   ⟨(some 67), none, .move (.t 66)⟩,
   ⟨(some 68), (some (67, true)), .move (.t 5)⟩,
   ⟨(some 69), (some (67, true)), .call (.c (.func (.func 16) #[] #[])) [(.t 68)]⟩,
   ⟨(some 70), (some (67, true)), .bin .eql 3 (.t 69) (.c (.int .i64 0))⟩,
   ⟨(some 71), none, .pick (.t 67) (.t 70) (.c (.bool false))⟩,
   ⟨(some 72), none, .move (.t 71)⟩,
   ⟨(some 73), (some (72, true)), .move (.t 5)⟩,
   ⟨(some 74), (some (72, true)), .call (.c (.func (.func 17) #[] #[])) [(.t 73)]⟩,
   ⟨(some 75), (some (72, true)), .len (.t 74)⟩,
   ⟨(some 76), (some (72, true)), .bin .eql 3 (.t 75) (.c (.int .i64 0))⟩,
   ⟨(some 77), none, .pick (.t 72) (.t 76) (.c (.bool false))⟩,
   ⟨(some 78), none, .move (.t 77)⟩,
   ⟨(some 79), (some (78, true)), .move (.t 5)⟩,
   ⟨(some 80), (some (78, true)), .call (.c (.func (.func 18) #[] #[])) [(.t 79)]⟩,
   ⟨(some 81), (some (78, true)), .un .not (.t 80)⟩,
   ⟨(some 82), none, .pick (.t 78) (.t 81) (.c (.bool false))⟩,
   ⟨(some 83), none, .move (.t 82)⟩,
   ⟨(some 84), (some (83, true)), .move (.t 5)⟩,
   ⟨(some 85), (some (83, true)), .call (.c (.func (.func 19) #[] #[])) [(.t 84)]⟩,
   ⟨(some 86), (some (83, true)), .bin .eql 3 (.t 85) (.c (.int .i64 0))⟩,
   ⟨(some 87), none, .pick (.t 83) (.t 86) (.c (.bool false))⟩,
   ⟨(some 88), none, .move (.t 87)⟩,
   ⟨(some 89), (some (88, true)), .move (.t 5)⟩,
   ⟨(some 90), (some (88, true)), .call (.c (.func (.func 20) #[] #[])) [(.t 89)]⟩,
   ⟨(some 91), (some (88, true)), .un .not (.t 90)⟩,
   ⟨(some 92), none, .pick (.t 88) (.t 91) (.c (.bool false))⟩,
   ⟨(some 4), none, .move (.t 92)⟩] (some [4]))
 .ret))))))), [.tmp 4]⟩

theorem is3 : FnIs Tryz.prog 3 x3 := ⟨Tryz.f3, _, Tryz.func3, by kernel_rfl, rfl, by kernel_rfl, by decide, by kernel_rfl⟩

/-- cloisonne/cloisonnelaw21.awake -/
def x7 : XDecl := .code ⟨0, 
 (.seq (.ops [⟨(some 0), none, .move (.c (.bool false))⟩] (some []))
 (.seq (.ops [⟨(some 15), none, .call (.c (.func (.func 26) #[] #[])) [(.c (.int .i64 6)), (.c (.int .i64 8))]⟩,
   ⟨(some 14), none, .move (.t 15)⟩,
   ⟨(some 16), none, .extract (.t 14) 0⟩,
   ⟨(some 17), none, .extract (.t 14) 1⟩,
   ⟨(some 1), none, .move (.t 16)⟩,
   ⟨(some 2), none, .move (.t 17)⟩] (some [1, 2]))
 (.seq (.ops [⟨(some 19), none, .call (.c (.func (.func 51) #[] #[])) []⟩,
   ⟨(some 20), none, .move (.t 1)⟩,
   ⟨(some 21), none, .call (.c (.func (.func 50) #[] #[])) [(.t 19), (.t 20)]⟩,
   ⟨(some 18), none, .move (.t 21)⟩,
   ⟨(some 22), none, .extract (.t 18) 0⟩,
   ⟨(some 23), none, .extract (.t 18) 1⟩,
   ⟨(some 3), none, .move (.t 22)⟩,
   ⟨(some 4), none, .move (.t 23)⟩] (some [2, 3, 4]))
 (.seq (.ops [⟨(some 25), none, .move (.t 3)⟩,
   ⟨(some 26), none, .call (.c (.func (.func 10) #[] #[])) [(.t 25), (.c (.int .i64 0))]⟩,
   ⟨(some 24), none, .move (.t 26)⟩,
   ⟨(some 27), none, .extract (.t 24) 0⟩,
   ⟨(some 28), none, .extract (.t 24) 1⟩,
   ⟨(some 5), none, .move (.t 27)⟩,
   ⟨(some 6), none, .move (.t 28)⟩] (some [2, 4, 5, 6]))
 (.seq (.seq (.ops [⟨(some 29), none, .move (.t 2)⟩,
   ⟨(some 30), none, .bin .neq 34 (.t 29) (.c (.int .i64 0))⟩,
   ⟨(some 31), none, .move (.t 30)⟩,
   ⟨(some 32), (some (31, false)), .move (.t 4)⟩,
   ⟨(some 33), (some (31, false)), .bin .neq 34 (.t 32) (.c (.int .i64 0))⟩,
   ⟨(some 34), none, .pick (.t 31) (.c (.bool true)) (.t 33)⟩,
   ⟨(some 35), none, .move (.t 34)⟩,
   ⟨(some 36), (some (35, false)), .move (.t 6)⟩,
   ⟨(some 37), (some (35, false)), .bin .neq 34 (.t 36) (.c (.int .i64 0))⟩,
   ⟨(some 38), none, .pick (.t 35) (.c (.bool true)) (.t 37)⟩] (some [5, 38]))
 (.cond (.t 38)
  (.seq (.ops [⟨(some 0), none, .move (.c (.bool false))⟩] (some [0]))
  .ret)
  .skip))
 (.seq (.ops [⟨(some 39), none, .build [(.int .i64 0), (.int .i64 0), (.slice none 0 0), (.int .u64 0), (.bool false), (.int .i64 0), (.string .empty), (.bool false), (.string .empty), (.int .u64 0), (.string .empty), (.string .empty), (.int .i64 0), (.int .i64 0), (.slice none 0 0)] [(0, 1), (1, 1), (2, 1), (3, 1), (4, 1), (5, 1), (6, 1), (7, 3), (10, 3), (13, 1), (14, 1)] [(0, (.c (.int .i64 1)))]⟩,
   ⟨(some 40), none, .build [(.int .i64 0), (.int .i64 0), (.slice none 0 0), (.int .u64 0), (.bool false), (.int .i64 0), (.string .empty), (.bool false), (.string .empty), (.int .u64 0), (.string .empty), (.string .empty), (.int .i64 0), (.int .i64 0), (.slice none 0 0)] [(0, 1), (1, 1), (2, 1), (3, 1), (4, 1), (5, 1), (6, 1), (7, 3), (10, 3), (13, 1), (14, 1)] [(0, (.c (.int .i64 7)))]⟩,
   ⟨(some 41), none, .build [(.int .i64 0), (.int .i64 0), (.slice none 0 0), (.int .u64 0), (.bool false), (.int .i64 0), (.string .empty), (.bool false), (.string .empty), (.int .u64 0), (.string .empty), (.string .empty), (.int .i64 0), (.int .i64 0), (.slice none 0 0)] [(0, 1), (1, 1), (2, 1), (3, 1), (4, 1), (5, 1), (6, 1), (7, 3), (10, 3), (13, 1), (14, 1)] [(0, (.c (.int .i64 9))), (6, (.c (.string ⟨#[107]⟩)))]⟩,
   ⟨(some 42), none, .build [(.int .i64 0), (.int .i64 0), (.slice none 0 0), (.int .u64 0), (.bool false), (.int .i64 0), (.string .empty), (.bool false), (.string .empty), (.int .u64 0), (.string .empty), (.string .empty), (.int .i64 0), (.int .i64 0), (.slice none 0 0)] [(0, 1), (1, 1), (2, 1), (3, 1), (4, 1), (5, 1), (6, 1), (7, 3), (10, 3), (13, 1), (14, 1)] [(0, (.c (.int .i64 14)))]⟩,
   ⟨(some 43), none, .buildSlice [(.int .i64 0), (.int .i64 0), (.slice none 0 0), (.int .u64 0), (.bool false), (.int .i64 0), (.string .empty), (.bool false), (.string .empty), (.int .u64 0), (.string .empty), (.string .empty), (.int .i64 0), (.int .i64 0), (.slice none 0 0)] 15 4 [(0, (.t 39)), (1, (.t 40)), (2, (.t 41)), (3, (.t 42))]⟩,
   ⟨(some 7), none, .move (.t 43)⟩] (some [5, 7]))
 (.seq (.ops [⟨(some 8), none, .move (.c (.int .u64 0))⟩] (some [5, 7, 8]))
 (.seq (.seq (.ops [⟨(some 9), none, .move (.c (.int .i64 0))⟩] (some [5, 7, 8, 9]))
 (.block 0
  (.loop
   (.seq (.seq (.ops [⟨(some 44), none, .move (.t 9)⟩,
     ⟨(some 45), none, .move (.t 7)⟩,
     ⟨(some 46), none, .len (.t 45)⟩,
     ⟨(some 47), none, .bin .lss 3 (.t 44) (.t 46)⟩] (some [5, 7, 8, 9, 47]))
   (.cond (.t 47)
    .skip
    (.exit 0)))
   (.seq (.block 1
    (.seq (.seq (.ops [⟨(some 50), none, .move (.t 5)⟩,
      ⟨(some 51), none, .move (.t 7)⟩,
      ⟨(some 52), none, .move (.t 9)⟩,
      ⟨(some 53), none, .indexAddr 15 (.t 51) (.t 52)⟩,
      ⟨(some 54), none, .load true 15 (.t 53)⟩,
      ⟨(some 55), none, .call (.c (.func (.func 11) #[] #[])) [(.t 50), (.t 54)]⟩,
      ⟨(some 56), none, .bin .neq 34 (.t 55) (.c (.int .i64 0))⟩] (some [5, 7, 8, 9, 56]))
    (.cond (.t 56)
     (.seq (.ops [⟨(some 0), none, .move (.c (.bool false))⟩] (some [0]))
     .ret)
     .skip))
    (.seq (.ops [⟨(some 10), none, .move (.c (.int .i64 1))⟩] (some [5, 7, 8, 9, 10]))
    (.block 2
     (.loop
      (.seq (.seq (.ops [⟨(some 57), none, .move (.t 10)⟩,
        ⟨(some 58), none, .bin .lss 3 (.t 57) (.c (.int .i64 9))⟩,
        ⟨(some 59), none, .move (.t 58)⟩,
        ⟨(some 60), (some (59, true)), .move (.t 5)⟩,
        ⟨(some 61), (some (59, true)), .call (.c (.func (.func 13) #[] #[])) [(.t 60)]⟩,
        ⟨(some 62), none, .pick (.t 59) (.t 61) (.c (.bool false))⟩] (some [5, 7, 8, 9, 10, 62]))
      (.cond (.t 62)
       .skip
       (.exit 2)))
      (.seq (.block 3
       (.seq (.ops [⟨(some 66), none, .move (.t 5)⟩,
         ⟨(some 67), none, .move (.t 10)⟩,
         ⟨(some 68), none, .call (.c (.func (.func 9) #[] #[])) [(.t 66), (.t 67)]⟩,
         ⟨(some 65), none, .move (.t 68)⟩,
         ⟨(some 69), none, .extract (.t 65) 0⟩,
         ⟨(some 70), none, .extract (.t 65) 1⟩,
         ⟨(some 71), none, .extract (.t 65) 2⟩,
         ⟨(some 12), none, .alloc [(.int .i64 0), (.int .u64 0), (.bool false), (.bool false), (.string .empty), (.int .u64 0), (.slice none 0 0), (.int .i64 0), (.int .u64 0), (.int .u64 0), (.int .u64 0), (.int .u64 0)]⟩,
         ⟨(some 11), none, .move (.t 69)⟩,
         ⟨none, none, .store 12 (.t 12) (.t 70)⟩,
         ⟨(some 13), none, .move (.t 71)⟩] (some [5, 7, 9, 10, 12]))
       (.ops [⟨(some 72), none, .fieldAddr 1 (.t 12)⟩,
         ⟨(some 73), none, .load false 1 (.t 72)⟩,
         ⟨(some 8), none, .move (.t 73)⟩] (some [5, 7, 8, 9, 10]))))
      (.ops [⟨(some 63), none, .move (.t 10)⟩,
        ⟨(some 64), none, .bin .add 3 (.t 63) (.c (.int .i64 1))⟩,
        ⟨(some 10), none, .move (.t 64)⟩] (some [5, 7, 8, 9, 10])))))))))
   (.ops [⟨(some 48), none, .move (.t 9)⟩,
     ⟨(some 49), none, .bin .add 3 (.t 48) (.c (.int .i64 1))⟩,
     ⟨(some 9), none, .move (.t 49)⟩] (some [5, 7, 8, 9])))))))
 (.seq (.ops [⟨(some 74), none, .move (.t 8)⟩,
   ⟨(some 75), none, .bin .eql 23 (.t 74) (.c (.int .u64 1))⟩,
   ⟨(some 0), none, .move (.t 75)⟩] (some [0]))
 .ret))))))))), [.tmp 0]⟩

theorem is7 : FnIs Tryz.prog 7 x7 := ⟨Tryz.f7, _, Tryz.func7, by kernel_rfl, rfl, by kernel_rfl, by decide, by kernel_rfl⟩

/-- cloisonne/cloisonnelaw20.Far -/
def x8 : XDecl := .code ⟨1, 
 (.seq (.ops [⟨(some 1), none, .box (.t 0)⟩,
   ⟨(some 2), none, .move (.c (.bool false))⟩] (some [1]))
 (.seq (.ops [⟨(some 3), none, .fieldAddr 2 (.t 1)⟩,
   ⟨(some 4), none, .load false 1 (.t 3)⟩,
   ⟨(some 5), none, .len (.t 4)⟩,
   ⟨(some 6), none, .bin .gtr 3 (.t 5) (.c (.int .i64 60))⟩,
   ⟨(some 7), none, .move (.t 6)⟩,
   ⟨(some 8), (some (7, false)), .fieldAddr 6 (.t 1)⟩,
   ⟨(some 9), (some (7, false)), .load false 1 (.t 8)⟩,
   ⟨(some 10), (some (7, false)), .calcB .len [9] 3 [(.t 9)]⟩,
   ⟨(some 11), (some (7, false)), .bin .gtr 3 (.t 10) (.c (.int .i64 200))⟩,
   ⟨(some 12), none, .pick (.t 7) (.c (.bool true)) (.t 11)⟩,
   ⟨(some 13), none, .move (.t 12)⟩,
   ⟨(some 14), (some (13, false)), .fieldAddr 7 (.t 1)⟩,
   ⟨(some 15), (some (13, false)), .fieldAddr 1 (.t 14)⟩,
   ⟨(some 16), (some (13, false)), .load false 1 (.t 15)⟩,
   ⟨(some 17), (some (13, false)), .calcB .len [9] 3 [(.t 16)]⟩,
   ⟨(some 18), (some (13, false)), .bin .gtr 3 (.t 17) (.c (.int .i64 200))⟩,
   ⟨(some 19), none, .pick (.t 13) (.c (.bool true)) (.t 18)⟩,
   ⟨(some 20), none, .move (.t 19)⟩,
   ⟨(some 21), (some (20, false)), .fieldAddr 10 (.t 1)⟩,
   ⟨(some 22), (some (20, false)), .fieldAddr 0 (.t 21)⟩,
   ⟨(some 23), (some (20, false)), .load false 1 (.t 22)⟩,
   ⟨(some 24), (some (20, false)), .calcB .len [9] 3 [(.t 23)]⟩,
   ⟨(some 25), (some (20, false)), .bin .gtr 3 (.t 24) (.c (.int .i64 200))⟩,
   ⟨(some 26), none, .pick (.t 20) (.c (.bool true)) (.t 25)⟩,
   ⟨(some 27), none, .move (.t 26)⟩,
   ⟨(some 28), (some (27, false)), .fieldAddr 10 (.t 1)⟩,
   ⟨(some 29), (some (27, false)), .fieldAddr 1 (.t 28)⟩,
   ⟨(some 30), (some (27, false)), .load false 1 (.t 29)⟩,
   ⟨(some 31), (some (27, false)), .calcB .len [9] 3 [(.t 30)]⟩,
   ⟨(some 32), (some (27, false)), .bin .gtr 3 (.t 31) (.c (.int .i64 200))⟩,
   ⟨(some 33), none, .pick (.t 27) (.c (.bool true)) (.t 32)⟩,
   ⟨(some 34), none, .move (.t 33)⟩,
   ⟨(some 35), (some (34, false)), .fieldAddr 14 (.t 1)⟩,
   ⟨(some 36), (some (34, false)), .load false 1 (.t 35)⟩,
   ⟨(some 37), (some (34, false)), .len (.t 36)⟩,
   ⟨(some 38), (some (34, false)), .bin .gtr 3 (.t 37) (.c (.int .i64 100))⟩,
   ⟨(some 39), none, .pick (.t 34) (.c (.bool true)) (.t 38)⟩,
   ⟨(some 2), none, .move (.t 39)⟩] (some [2]))
 .ret)), [.tmp 2]⟩

theorem is8 : FnIs Tryz.prog 8 x8 := ⟨Tryz.f8, _, Tryz.func8, by kernel_rfl, rfl, by kernel_rfl, by decide, by kernel_rfl⟩

/-- (*cloisonne/sess.Session).Move -/
def x9 : XDecl := .code ⟨2, 
 (.seq (.ops [⟨(some 4), none, .move (.c (.int .i64 0))⟩,
   ⟨(some 5), none, .alloc [(.int .i64 0), (.int .u64 0), (.bool false), (.bool false), (.string .empty), (.int .u64 0), (.slice none 0 0), (.int .i64 0), (.int .u64 0), (.int .u64 0), (.int .u64 0), (.int .u64 0)]⟩,
   ⟨(some 6), none, .move (.c (.int .i64 0))⟩] (some [0, 1, 5]))
 (.seq (.block 0
  (.seq (.ops [⟨(some 11), none, .move (.t 0)⟩,
    ⟨(some 12), none, .isNil .ptr false (.t 11)⟩,
    ⟨(some 10), none, .move (.t 12)⟩] (some [0, 1, 5, 10]))
  (.cond (.t 10)
   (.seq (.ops [⟨(some 13), none, .build [(.int .i64 0), (.int .u64 0), (.bool false), (.bool false), (.string .empty), (.int .u64 0), (.slice none 0 0), (.int .i64 0), (.int .u64 0), (.int .u64 0), (.int .u64 0), (.int .u64 0)] [(0, 1), (1, 1), (2, 1), (3, 3), (6, 1), (7, 5)] []⟩,
     ⟨(some 4), none, .move (.c (.int .i64 0))⟩,
     ⟨none, none, .store 12 (.t 5) (.t 13)⟩,
     ⟨(some 6), none, .move (.c (.int .i64 2))⟩] (some [4, 5, 6]))
   .ret)
   (.seq (.ops [⟨(some 15), none, .move (.t 0)⟩,
     ⟨(some 16), none, .nilCheck (.t 15)⟩,
     ⟨(some 17), none, .fieldAddr 7 (.t 16)⟩,
     ⟨(some 18), none, .load false 1 (.t 17)⟩,
     ⟨(some 19), none, .isNil .ptr false (.t 18)⟩,
     ⟨(some 14), none, .move (.t 19)⟩] (some [0, 1, 5, 14]))
   (.cond (.t 14)
    (.seq (.ops [⟨(some 20), none, .build [(.int .i64 0), (.int .u64 0), (.bool false), (.bool false), (.string .empty), (.int .u64 0), (.slice none 0 0), (.int .i64 0), (.int .u64 0), (.int .u64 0), (.int .u64 0), (.int .u64 0)] [(0, 1), (1, 1), (2, 1), (3, 3), (6, 1), (7, 5)] []⟩,
      ⟨(some 4), none, .move (.c (.int .i64 0))⟩,
      ⟨none, none, .store 12 (.t 5) (.t 20)⟩,
      ⟨(some 6), none, .move (.c (.int .i64 7))⟩] (some [4, 5, 6]))
    .ret)
    (.seq (.ops [⟨(some 22), none, .move (.t 0)⟩,
      ⟨(some 23), none, .nilCheck (.t 22)⟩,
      ⟨(some 24), none, .fieldAddr 7 (.t 23)⟩,
      ⟨(some 25), none, .load false 1 (.t 24)⟩,
      ⟨(some 26), none, .nilCheck (.t 25)⟩,
      ⟨(some 27), none, .fieldAddr 15 (.t 26)⟩,
      ⟨(some 28), none, .load false 1 (.t 27)⟩,
      ⟨(some 29), none, .un .not (.t 28)⟩,
      ⟨(some 21), none, .move (.t 29)⟩] (some [0, 1, 5, 21]))
    (.cond (.t 21)
     (.opsd [(0, 0, ⟨(some 30), none, .move (.t 0)⟩),
       (1, 1, ⟨(some 31), none, .nilCheck (.t 30)⟩),
       (2, 3, ⟨(some 32), none, .fieldAddr 7 (.t 31)⟩),
       (3, 7, ⟨(some 33), none, .load false 1 (.t 32)⟩),
       (4, 0, ⟨(some 34), none, .move (.t 0)⟩),
       (5, 16, ⟨(some 35), none, .nilCheck (.t 34)⟩),
       (6, 48, ⟨(some 36), none, .fieldAddr 7 (.t 35)⟩),
       (7, 112, ⟨(some 37), none, .load false 1 (.t 36)⟩),
       (8, 0, ⟨(some 38), none, .move (.t 1)⟩),
       (9, 255, ⟨(some 39), none, .nilCheck (.t 33)⟩),
       (10, 767, ⟨(some 40), none, .fieldAddr 15 (.t 39)⟩),
       (11, 1791, ⟨none, none, .store 1 (.t 40) (.c (.bool true))⟩),
       (12, 4095, ⟨(some 41), none, .nilCheck (.t 37)⟩),
       (13, 8191, ⟨(some 42), none, .fieldAddr 16 (.t 41)⟩),
       (14, 16383, ⟨none, none, .store 1 (.t 42) (.t 38)⟩)] (some [0, 1, 5]))
     .skip)))))))
 (.seq (.ops [⟨(some 44), none, .move (.t 0)⟩,
   ⟨(some 45), none, .call (.c (.func (.func 52) #[] #[])) [(.t 44)]⟩,
   ⟨(some 43), none, .move (.t 45)⟩,
   ⟨(some 46), none, .extract (.t 43) 0⟩,
   ⟨(some 47), none, .extract (.t 43) 1⟩,
   ⟨(some 48), none, .extract (.t 43) 2⟩,
   ⟨(some 8), none, .alloc [(.int .i64 0), (.int .u64 0), (.bool false), (.bool false), (.string .empty), (.int .u64 0), (.slice none 0 0), (.int .i64 0), (.int .u64 0), (.int .u64 0), (.int .u64 0), (.int .u64 0)]⟩,
   ⟨(some 7), none, .move (.t 46)⟩,
   ⟨none, none, .store 12 (.t 8) (.t 47)⟩,
   ⟨(some 9), none, .move (.t 48)⟩] (some [0, 1, 5, 7, 8, 9]))
 (.seq (.seq (.ops [⟨(some 49), none, .move (.t 9)⟩,
   ⟨(some 50), none, .bin .neq 34 (.t 49) (.c (.int .i64 0))⟩,
   ⟨(some 51), none, .move (.t 50)⟩,
   ⟨(some 52), (some (51, false)), .move (.t 7)⟩,
   ⟨(some 53), (some (51, false)), .bin .neq 3 (.t 52) (.c (.int .i64 2))⟩,
   ⟨(some 54), none, .pick (.t 51) (.c (.bool true)) (.t 53)⟩] (some [0, 1, 5, 7, 8, 9, 54]))
 (.cond (.t 54)
  (.seq (.ops [⟨(some 55), none, .move (.t 7)⟩,
    ⟨(some 56), none, .build [(.int .i64 0), (.int .u64 0), (.bool false), (.bool false), (.string .empty), (.int .u64 0), (.slice none 0 0), (.int .i64 0), (.int .u64 0), (.int .u64 0), (.int .u64 0), (.int .u64 0)] [(0, 1), (1, 1), (2, 1), (3, 3), (6, 1), (7, 5)] []⟩,
    ⟨(some 57), none, .move (.t 9)⟩,
    ⟨(some 4), none, .move (.t 55)⟩,
    ⟨none, none, .store 12 (.t 5) (.t 56)⟩,
    ⟨(some 6), none, .move (.t 57)⟩] (some [4, 5, 6]))
  .ret)
  .skip))
 (.seq (.ops [⟨(some 58), none, .move (.t 0)⟩,
   ⟨(some 59), none, .move (.t 1)⟩,
   ⟨(some 60), none, .nilCheck (.t 58)⟩,
   ⟨(some 61), none, .fieldAddr 8 (.t 60)⟩,
   ⟨none, none, .store 1 (.t 61) (.t 59)⟩] (some [0, 5, 7, 8]))
 (.seq (.seq (.ops [⟨(some 62), none, .move (.t 0)⟩,
   ⟨(some 63), none, .nilCheck (.t 62)⟩,
   ⟨(some 64), none, .fieldAddr 7 (.t 63)⟩,
   ⟨(some 65), none, .load false 1 (.t 64)⟩,
   ⟨(some 66), none, .nilCheck (.t 65)⟩,
   ⟨(some 67), none, .fieldAddr 18 (.t 66)⟩,
   ⟨(some 68), none, .load false 1 (.t 67)⟩,
   ⟨(some 69), none, .isNil .ptr true (.t 68)⟩,
   ⟨(some 70), none, .move (.t 69)⟩,
   ⟨(some 71), (some (70, true)), .fieldAddr 0 (.t 8)⟩,
   ⟨(some 72), (some (70, true)), .load false 1 (.t 71)⟩,
   ⟨(some 73), (some (70, true)), .bin .eql 34 (.t 72) (.c (.int .i64 0))⟩,
   ⟨(some 74), none, .pick (.t 70) (.t 73) (.c (.bool false))⟩] (some [0, 5, 7, 8, 74]))
 (.cond (.t 74)
  (.ops [⟨(some 75), none, .move (.t 0)⟩,
    ⟨(some 76), none, .move (.t 0)⟩,
    ⟨(some 77), none, .nilCheck (.t 76)⟩,
    ⟨(some 78), none, .fieldAddr 7 (.t 77)⟩,
    ⟨(some 79), none, .load false 1 (.t 78)⟩,
    ⟨(some 80), none, .nilCheck (.t 79)⟩,
    ⟨(some 81), none, .fieldAddr 16 (.t 80)⟩,
    ⟨(some 82), none, .load false 1 (.t 81)⟩,
    ⟨(some 83), none, .nilCheck (.t 75)⟩,
    ⟨(some 84), none, .fieldAddr 8 (.t 83)⟩,
    ⟨none, none, .store 1 (.t 84) (.t 82)⟩] (some [0, 5, 7, 8]))
  .skip))
 (.seq (.seq (.ops [⟨(some 85), none, .move (.t 0)⟩,
   ⟨(some 86), none, .nilCheck (.t 85)⟩,
   ⟨(some 87), none, .fieldAddr 7 (.t 86)⟩,
   ⟨(some 88), none, .load false 1 (.t 87)⟩,
   ⟨(some 89), none, .nilCheck (.t 88)⟩,
   ⟨(some 90), none, .fieldAddr 0 (.t 89)⟩,
   ⟨(some 91), none, .fieldAddr 0 (.t 90)⟩,
   ⟨(some 92), none, .load false 1 (.t 91)⟩,
   ⟨(some 93), none, .bin .eql 3 (.t 92) (.c (.int .i64 14))⟩] (some [0, 5, 7, 8, 93]))
 (.cond (.t 93)
  (.ops [⟨(some 94), none, .move (.t 0)⟩,
    ⟨(some 95), none, .nilCheck (.t 94)⟩,
    ⟨(some 96), none, .fieldAddr 6 (.t 95)⟩,
    ⟨none, none, .store 1 (.t 96) (.c (.pointer none))⟩] (some [0, 5, 7, 8]))
  .skip))
 (.seq (.ops [⟨(some 97), none, .move (.t 0)⟩,
   ⟨(some 98), none, .nilCheck (.t 97)⟩,
   ⟨(some 99), none, .fieldAddr 7 (.t 98)⟩,
   ⟨none, none, .store 1 (.t 99) (.c (.pointer none))⟩] (some [5, 7, 8]))
 (.seq (.opsd [(0, 0, ⟨(some 100), none, .move (.t 7)⟩),
   (1, 0, ⟨(some 101), none, .load true 12 (.t 8)⟩),
   (2, 1, ⟨(some 4), none, .move (.t 100)⟩),
   (3, 7, ⟨none, none, .store 12 (.t 5) (.t 101)⟩),
   (4, 15, ⟨(some 6), none, .move (.c (.int .i64 0))⟩)] (some [4, 5, 6]))
 .ret))))))))), [.tmp 4, .cell true 12 5, .tmp 6]⟩

theorem is9 : FnIs Tryz.prog 9 x9 := ⟨Tryz.f9, _, Tryz.func9, by kernel_rfl, rfl, by kernel_rfl, by decide, by kernel_rfl⟩

/-- cloisonne/sess.New -/
def x10 : XDecl := .code ⟨2, 
 (.seq (.ops [⟨(some 4), none, .move (.c (.pointer none))⟩,
   ⟨(some 5), none, .move (.c (.int .i64 0))⟩] (some [0, 1]))
 (.seq (.seq (.ops [⟨(some 6), none, .move (.t 0)⟩,
   ⟨(some 7), none, .isNil .ptr false (.t 6)⟩] (some [0, 1, 7]))
 (.cond (.t 7)
  (.seq (.ops [⟨(some 4), none, .move (.c (.pointer none))⟩,
    ⟨(some 5), none, .move (.c (.int .i64 2))⟩] (some [4, 5]))
  .ret)
  .skip))
 (.seq (.ops [⟨(some 8), none, .move (.t 0)⟩,
   ⟨(some 9), none, .move (.t 1)⟩,
   ⟨(some 10), none, .build [(.pointer none), (.int .i64 0), (.bool false), (.bool false), (.int .i64 0), (.slice none 0 0), (.pointer none), (.pointer none), (.int .i64 0)] [(0, 1), (1, 1), (2, 1), (3, 1), (4, 1), (5, 1), (6, 1), (7, 1), (8, 1)] [(0, (.t 8)), (1, (.t 9))]⟩,
   ⟨(some 11), none, .box (.t 10)⟩,
   ⟨(some 4), none, .move (.t 11)⟩,
   ⟨(some 5), none, .move (.c (.int .i64 0))⟩] (some [4, 5]))
 .ret))), [.tmp 4, .tmp 5]⟩

theorem is10 : FnIs Tryz.prog 10 x10 := ⟨Tryz.f10, _, Tryz.func10, by kernel_rfl, rfl, by kernel_rfl, by decide, by kernel_rfl⟩

/-- (*cloisonne/sess.Session).Ask -/
def x11 : XDecl := .code ⟨2, 
 (.seq (.ops [⟨(some 3), none, .box (.t 1)⟩,
   ⟨(some 4), none, .move (.c (.int .i64 0))⟩] (some [0, 3]))
 (.seq (.block 0
  (.seq (.ops [⟨(some 6), none, .move (.t 0)⟩,
    ⟨(some 7), none, .isNil .ptr false (.t 6)⟩,
    ⟨(some 5), none, .move (.t 7)⟩] (some [0, 3, 5]))
  (.cond (.t 5)
   (.seq (.ops [⟨(some 4), none, .move (.c (.int .i64 2))⟩] (some [4]))
   .ret)
   (.seq (.ops [⟨(some 9), none, .load true 15 (.t 3)⟩,
     ⟨(some 10), none, .call (.c (.func (.func 53) #[] #[])) [(.t 9)]⟩,
     ⟨(some 11), none, .un .not (.t 10)⟩,
     ⟨(some 8), none, .move (.t 11)⟩] (some [0, 3, 8]))
   (.cond (.t 8)
    (.seq (.ops [⟨(some 4), none, .move (.c (.int .i64 1))⟩] (some [4]))
    .ret)
    (.seq (.ops [⟨(some 13), none, .move (.t 0)⟩,
      ⟨(some 14), none, .nilCheck (.t 13)⟩,
      ⟨(some 15), none, .fieldAddr 7 (.t 14)⟩,
      ⟨(some 16), none, .load false 1 (.t 15)⟩,
      ⟨(some 17), none, .isNil .ptr true (.t 16)⟩,
      ⟨(some 12), none, .move (.t 17)⟩] (some [0, 3, 12]))
    (.cond (.t 12)
     (.seq (.ops [⟨(some 4), none, .move (.c (.int .i64 9))⟩] (some [4]))
     .ret)
     .skip)))))))
 (.seq (.opsd [(0, 0, ⟨(some 18), none, .fieldAddr 2 (.t 3)⟩),
   (1, 1, ⟨(some 19), none, .load false 1 (.t 18)⟩),
   (3, 0, ⟨(some 21), none, .fieldAddr 14 (.t 3)⟩),
   (4, 8, ⟨(some 22), none, .load false 1 (.t 21)⟩),
   (2, 3, ⟨(some 20), none, .call (.c (.func (.func 54) #[] #[])) [(.t 19)]⟩),
   (6, 31, ⟨(some 24), none, .fieldAddr 2 (.t 3)⟩),
   (5, 31, ⟨(some 23), none, .call (.c (.func (.func 55) #[] #[])) [(.t 22)]⟩),
   (7, 127, ⟨none, none, .store 1 (.t 24) (.t 20)⟩),
   (8, 255, ⟨(some 25), none, .fieldAddr 14 (.t 3)⟩),
   (9, 511, ⟨none, none, .store 1 (.t 25) (.t 23)⟩)] (some [0, 3]))
 (.seq (.ops [⟨(some 26), none, .move (.t 0)⟩,
   ⟨(some 27), none, .load true 15 (.t 3)⟩,
   ⟨(some 28), none, .build [(.int .i64 0), (.int .i64 0), (.slice none 0 0), (.int .u64 0), (.bool false), (.int .i64 0), (.string .empty), (.bool false), (.string .empty), (.int .u64 0), (.string .empty), (.string .empty), (.int .i64 0), (.int .i64 0), (.slice none 0 0), (.bool false), (.int .i64 0), (.pointer none), (.pointer none), (.slice none 0 0), (.slice none 0 0)] [(0, 15), (15, 1), (16, 1), (17, 1), (18, 1), (19, 1), (20, 1)] [(0, (.t 27))]⟩,
   ⟨(some 29), none, .box (.t 28)⟩,
   ⟨(some 30), none, .nilCheck (.t 26)⟩,
   ⟨(some 31), none, .fieldAddr 7 (.t 30)⟩,
   ⟨none, none, .store 1 (.t 31) (.t 29)⟩] (some []))
 (.seq (.ops [⟨(some 4), none, .move (.c (.int .i64 0))⟩] (some [4]))
 .ret))))), [.tmp 4]⟩

theorem is11 : FnIs Tryz.prog 11 x11 := ⟨Tryz.f11, _, Tryz.func11, by kernel_rfl, rfl, by kernel_rfl, by decide, by kernel_rfl⟩

/-- cloisonne/cloisonneref20.Alike -/
def x12 : XDecl := .code ⟨2, 
 (.seq (.ops [⟨(some 2), none, .box (.t 0)⟩,
   ⟨(some 3), none, .box (.t 1)⟩,
   ⟨(some 4), none, .move (.c (.bool false))⟩] (some [2, 3]))
 (.seq (.ops [⟨(some 5), none, .fieldAddr 0 (.t 2)⟩,
   ⟨(some 6), none, .load false 1 (.t 5)⟩,
   ⟨(some 7), none, .fieldAddr 0 (.t 3)⟩,
   ⟨(some 8), none, .load false 1 (.t 7)⟩,
   ⟨(some 9), none, .bin .eql 34 (.t 6) (.t 8)⟩,
   ⟨(some 10), none, .move (.t 9)⟩,
   ⟨(some 11), (some (10, true)), .fieldAddr 1 (.t 2)⟩,
   ⟨(some 12), (some (10, true)), .load false 1 (.t 11)⟩,
   ⟨(some 13), (some (10, true)), .fieldAddr 1 (.t 3)⟩,
   ⟨(some 14), (some (10, true)), .load false 1 (.t 13)⟩,
   ⟨(some 15), (some (10, true)), .bin .eql 23 (.t 12) (.t 14)⟩,
   ⟨(some 16), none, .pick (.t 10) (.t 15) (.c (.bool false))⟩,
   ⟨(some 17), none, .move (.t 16)⟩,
   ⟨(some 18), (some (17, true)), .fieldAddr 2 (.t 2)⟩,
   ⟨(some 19), (some (17, true)), .load false 1 (.t 18)⟩,
   ⟨(some 20), (some (17, true)), .fieldAddr 2 (.t 3)⟩,
   ⟨(some 21), (some (17, true)), .load false 1 (.t 20)⟩,
   ⟨(some 22), (some (17, true)), .bin .eql 4 (.t 19) (.t 21)⟩,
   ⟨(some 23), none, .pick (.t 17) (.t 22) (.c (.bool false))⟩,
   ⟨(some 24), none, .move (.t 23)⟩,
   ⟨(some 25), (some (24, true)), .fieldAddr 3 (.t 2)⟩,
   ⟨(some 26), (some (24, true)), .load true 3 (.t 25)⟩,
   ⟨(some 27), (some (24, true)), .fieldAddr 3 (.t 3)⟩,
   ⟨(some 28), (some (24, true)), .load true 3 (.t 27)⟩,
   ⟨(some 29), (some (24, true)), .bin .eql 25 (.t 26) (.t 28)⟩,
   ⟨(some 30), none, .pick (.t 24) (.t 29) (.c (.bool false))⟩,
   ⟨(some 31), none, .move (.t 30)⟩,
   ⟨(some 32), (some (31, true)), .fieldAddr 7 (.t 2)⟩,
   ⟨(some 33), (some (31, true)), .load true 5 (.t 32)⟩,
   ⟨(some 34), (some (31, true)), .fieldAddr 7 (.t 3)⟩,
   ⟨(some 35), (some (31, true)), .load true 5 (.t 34)⟩,
   ⟨(some 36), (some (31, true)), .bin .eql 37 (.t 33) (.t 35)⟩,
   ⟨(some 37), none, .pick (.t 31) (.t 36) (.c (.bool false))⟩,
   ⟨(some 38), none, .move (.t 37)⟩,
   ⟨(some 39), (some (38, true)), .fieldAddr 6 (.t 2)⟩,
   ⟨(some 40), (some (38, true)), .load false 1 (.t 39)⟩,
   ⟨(some 41), (some (38, true)), .fieldAddr 6 (.t 3)⟩,
   ⟨(some 42), (some (38, true)), .load false 1 (.t 41)⟩,
   ⟨(some 43), (some (38, true)), .call (.c (.func (.func 56) #[] #[])) [(.t 40), (.t 42)]⟩,
   ⟨(some 44), none, .pick (.t 38) (.t 43) (.c (.bool false))⟩,
   ⟨(some 4), none, .move (.t 44)⟩] (some [4]))
 .ret)), [.tmp 4]⟩

theorem is12 : FnIs Tryz.prog 12 x12 := ⟨Tryz.f12, _, Tryz.func12, by kernel_rfl, rfl, by kernel_rfl, by decide, by kernel_rfl⟩

/-- (*cloisonne/sess.Session).Pending -/
def x13 : XDecl := .code ⟨1, 
 (.seq (.ops [⟨(some 2), none, .move (.c (.bool false))⟩] (some [0]))
 (.seq (.ops [⟨(some 3), none, .move (.t 0)⟩,
   ⟨(some 4), none, .isNil .ptr true (.t 3)⟩,
   ⟨(some 5), none, .move (.t 4)⟩,
   ⟨(some 6), (some (5, true)), .move (.t 0)⟩,
   ⟨(some 7), (some (5, true)), .nilCheck (.t 6)⟩,
   ⟨(some 8), (some (5, true)), .fieldAddr 7 (.t 7)⟩,
   ⟨(some 9), (some (5, true)), .load false 1 (.t 8)⟩,
   ⟨(some 10), (some (5, true)), .isNil .ptr true (.t 9)⟩,
   ⟨(some 11), none, .pick (.t 5) (.t 10) (.c (.bool false))⟩,
   ⟨(some 2), none, .move (.t 11)⟩] (some [2]))
 .ret)), [.tmp 2]⟩

theorem is13 : FnIs Tryz.prog 13 x13 := ⟨Tryz.f13, _, Tryz.func13, by kernel_rfl, rfl, by kernel_rfl, by decide, by kernel_rfl⟩

/-- (*cloisonne/sess.Session).Point -/
def x14 : XDecl := .code ⟨1, 
 (.seq (.ops [⟨(some 2), none, .move (.c (.int .i64 0))⟩] (some [0]))
 (.seq (.seq (.ops [⟨(some 3), none, .move (.t 0)⟩,
   ⟨(some 4), none, .isNil .ptr false (.t 3)⟩] (some [0, 4]))
 (.cond (.t 4)
  (.seq (.ops [⟨(some 2), none, .move (.c (.int .i64 0))⟩] (some [2]))
  .ret)
  .skip))
 (.seq (.ops [⟨(some 5), none, .move (.t 0)⟩,
   ⟨(some 6), none, .nilCheck (.t 5)⟩,
   ⟨(some 7), none, .fieldAddr 8 (.t 6)⟩,
   ⟨(some 8), none, .load false 1 (.t 7)⟩,
   ⟨(some 2), none, .move (.t 8)⟩] (some [2]))
 .ret))), [.tmp 2]⟩

theorem is14 : FnIs Tryz.prog 14 x14 := ⟨Tryz.f14, _, Tryz.func14, by kernel_rfl, rfl, by kernel_rfl, by decide, by kernel_rfl⟩

/-- (*cloisonne/sess.Session).Open -/
def x15 : XDecl := .code ⟨1, 
 (.seq (.ops [⟨(some 2), none, .move (.c (.bool false))⟩] (some [0]))
 (.seq (.ops [⟨(some 3), none, .move (.t 0)⟩,
   ⟨(some 4), none, .isNil .ptr true (.t 3)⟩,
   ⟨(some 5), none, .move (.t 4)⟩,
   ⟨(some 6), (some (5, true)), .move (.t 0)⟩,
   ⟨(some 7), (some (5, true)), .nilCheck (.t 6)⟩,
   ⟨(some 8), (some (5, true)), .fieldAddr 3 (.t 7)⟩,
   ⟨(some 9), (some (5, true)), .load false 1 (.t 8)⟩,
   ⟨(some 10), none, .pick (.t 5) (.t 9) (.c (.bool false))⟩,
   ⟨(some 2), none, .move (.t 10)⟩] (some [2]))
 .ret)), [.tmp 2]⟩

theorem is15 : FnIs Tryz.prog 15 x15 := ⟨Tryz.f15, _, Tryz.func15, by kernel_rfl, rfl, by kernel_rfl, by decide, by kernel_rfl⟩

/-- (*cloisonne/sess.Session).Who -/
def x16 : XDecl := .code ⟨1, 
 (.seq (.ops [⟨(some 2), none, .move (.c (.int .i64 0))⟩] (some [0]))
 (.seq (.seq (.ops [⟨(some 3), none, .move (.t 0)⟩,
   ⟨(some 4), none, .isNil .ptr false (.t 3)⟩] (some [0, 4]))
 (.cond (.t 4)
  (.seq (.ops [⟨(some 2), none, .move (.c (.int .i64 0))⟩] (some [2]))
  .ret)
  .skip))
 (.seq (.ops [⟨(some 5), none, .move (.t 0)⟩,
   ⟨(some 6), none, .nilCheck (.t 5)⟩,
   ⟨(some 7), none, .fieldAddr 4 (.t 6)⟩,
   ⟨(some 8), none, .load false 1 (.t 7)⟩,
   ⟨(some 2), none, .move (.t 8)⟩] (some [2]))
 .ret))), [.tmp 2]⟩

theorem is16 : FnIs Tryz.prog 16 x16 := ⟨Tryz.f16, _, Tryz.func16, by kernel_rfl, rfl, by kernel_rfl, by decide, by kernel_rfl⟩

/-- (*cloisonne/sess.Session).Label -/
def x17 : XDecl := .code ⟨1, 
 (.seq (.ops [⟨(some 2), none, .move (.c (.slice none 0 0))⟩] (some [0]))
 (.seq (.seq (.ops [⟨(some 3), none, .move (.t 0)⟩,
   ⟨(some 4), none, .isNil .ptr false (.t 3)⟩] (some [0, 4]))
 (.cond (.t 4)
  (.seq (.ops [⟨(some 2), none, .move (.c (.slice none 0 0))⟩] (some [2]))
  .ret)
  .skip))
 (.seq (.ops [⟨(some 5), none, .move (.t 0)⟩,
   ⟨(some 6), none, .nilCheck (.t 5)⟩,
   ⟨(some 7), none, .fieldAddr 5 (.t 6)⟩,
   ⟨(some 8), none, .load false 1 (.t 7)⟩,
   ⟨(some 9), none, .call (.c (.func (.func 54) #[] #[])) [(.t 8)]⟩,
   ⟨(some 2), none, .move (.t 9)⟩] (some [2]))
 .ret))), [.tmp 2]⟩

theorem is17 : FnIs Tryz.prog 17 x17 := ⟨Tryz.f17, _, Tryz.func17, by kernel_rfl, rfl, by kernel_rfl, by decide, by kernel_rfl⟩

/-- (*cloisonne/sess.Session).Busy -/
def x18 : XDecl := .code ⟨1, 
 (.seq (.ops [⟨(some 2), none, .move (.c (.bool false))⟩] (some [0]))
 (.seq (.ops [⟨(some 3), none, .move (.t 0)⟩,
   ⟨(some 4), none, .isNil .ptr true (.t 3)⟩,
   ⟨(some 5), none, .move (.t 4)⟩,
   ⟨(some 6), (some (5, true)), .move (.t 0)⟩,
   ⟨(some 7), (some (5, true)), .nilCheck (.t 6)⟩,
   ⟨(some 8), (some (5, true)), .fieldAddr 6 (.t 7)⟩,
   ⟨(some 9), (some (5, true)), .load false 1 (.t 8)⟩,
   ⟨(some 10), (some (5, true)), .isNil .ptr true (.t 9)⟩,
   ⟨(some 11), none, .pick (.t 5) (.t 10) (.c (.bool false))⟩,
   ⟨(some 2), none, .move (.t 11)⟩] (some [2]))
 .ret)), [.tmp 2]⟩

theorem is18 : FnIs Tryz.prog 18 x18 := ⟨Tryz.f18, _, Tryz.func18, by kernel_rfl, rfl, by kernel_rfl, by decide, by kernel_rfl⟩

/-- (*cloisonne/sess.Session).Room -/
def x19 : XDecl := .code ⟨1, 
 (.seq (.ops [⟨(some 2), none, .move (.c (.int .i64 0))⟩] (some [0]))
 (.seq (.block 0
  (.seq (.ops [⟨(some 4), none, .move (.t 0)⟩,
    ⟨(some 5), none, .isNil .ptr false (.t 4)⟩,
    ⟨(some 3), none, .move (.t 5)⟩] (some [0, 3]))
  (.cond (.t 3)
   (.seq (.ops [⟨(some 2), none, .move (.c (.int .i64 0))⟩] (some [2]))
   .ret)
   (.seq (.ops [⟨(some 7), none, .move (.t 0)⟩,
     ⟨(some 8), none, .nilCheck (.t 7)⟩,
     ⟨(some 9), none, .fieldAddr 6 (.t 8)⟩,
     ⟨(some 10), none, .load false 1 (.t 9)⟩,
     ⟨(some 11), none, .isNil .ptr false (.t 10)⟩,
     ⟨(some 6), none, .move (.t 11)⟩] (some [0, 6]))
   (.cond (.t 6)
    (.seq (.ops [⟨(some 2), none, .move (.c (.int .i64 (-1)))⟩] (some [2]))
    .ret)
    .skip)))))
 (.seq (.ops [⟨(some 12), none, .move (.t 0)⟩,
   ⟨(some 13), none, .nilCheck (.t 12)⟩,
   ⟨(some 14), none, .fieldAddr 6 (.t 13)⟩,
   ⟨(some 15), none, .load false 1 (.t 14)⟩,
   ⟨(some 16), none, .nilCheck (.t 15)⟩,
   ⟨(some 17), none, .fieldAddr 2 (.t 16)⟩,
   ⟨(some 18), none, .load false 1 (.t 17)⟩,
   ⟨(some 2), none, .move (.t 18)⟩] (some [2]))
 .ret))), [.tmp 2]⟩

theorem is19 : FnIs Tryz.prog 19 x19 := ⟨Tryz.f19, _, Tryz.func19, by kernel_rfl, rfl, by kernel_rfl, by decide, by kernel_rfl⟩

/-- (*cloisonne/sess.Session).Holds -/
def x20 : XDecl := .code ⟨1, 
 (.seq (.ops [⟨(some 2), none, .move (.c (.bool false))⟩] (some [0]))
 (.seq (.ops [⟨(some 3), none, .move (.t 0)⟩,
   ⟨(some 4), none, .call (.c (.func (.func 13) #[] #[])) [(.t 3)]⟩,
   ⟨(some 5), none, .move (.t 4)⟩,
   ⟨(some 6), (some (5, true)), .move (.t 0)⟩,
   ⟨(some 7), (some (5, true)), .nilCheck (.t 6)⟩,
   ⟨(some 8), (some (5, true)), .fieldAddr 7 (.t 7)⟩,
   ⟨(some 9), (some (5, true)), .load false 1 (.t 8)⟩,
   ⟨(some 10), (some (5, true)), .nilCheck (.t 9)⟩,
   ⟨(some 11), (some (5, true)), .fieldAddr 17 (.t 10)⟩,
   ⟨(some 12), (some (5, true)), .load false 1 (.t 11)⟩,
   ⟨(some 13), (some (5, true)), .call (.c (.func (.func 57) #[] #[])) [(.t 12)]⟩,
   ⟨(some 14), none, .pick (.t 5) (.t 13) (.c (.bool false))⟩,
   ⟨(some 2), none, .move (.t 14)⟩] (some [2]))
 .ret)), [.tmp 2]⟩

theorem is20 : FnIs Tryz.prog 20 x20 := ⟨Tryz.f20, _, Tryz.func20, by kernel_rfl, rfl, by kernel_rfl, by decide, by kernel_rfl⟩

/-- cloisonne/extent.New -/
def x26 : XDecl := .code ⟨2, 
 (.seq (.ops [⟨(some 4), none, .move (.c (.pointer none))⟩,
   ⟨(some 5), none, .move (.c (.int .i64 0))⟩] (some [0, 1]))
 (.seq (.seq (.ops [⟨(some 7), none, .move (.t 0)⟩,
   ⟨(some 8), none, .bin .lss 3 (.t 7) (.c (.int .i64 1))⟩,
   ⟨(some 9), none, .move (.t 8)⟩,
   ⟨(some 10), (some (9, false)), .move (.t 0)⟩,
   ⟨(some 11), (some (9, false)), .bin .gtr 3 (.t 10) (.c (.int .i64 32))⟩,
   ⟨(some 12), none, .pick (.t 9) (.c (.bool true)) (.t 11)⟩,
   ⟨(some 13), none, .move (.t 12)⟩,
   ⟨(some 14), (some (13, false)), .move (.t 1)⟩,
   ⟨(some 15), (some (13, false)), .bin .lss 3 (.t 14) (.c (.int .i64 1))⟩,
   ⟨(some 16), none, .pick (.t 13) (.c (.bool true)) (.t 15)⟩,
   ⟨(some 17), none, .move (.t 16)⟩,
   ⟨(some 18), (some (17, false)), .move (.t 1)⟩,
   ⟨(some 19), (some (17, false)), .bin .gtr 3 (.t 18) (.c (.int .i64 128))⟩,
   ⟨(some 20), none, .pick (.t 17) (.c (.bool true)) (.t 19)⟩] (some [0, 1, 20]))
 (.cond (.t 20)
  (.seq (.ops [⟨(some 4), none, .move (.c (.pointer none))⟩,
    ⟨(some 5), none, .move (.c (.int .i64 1))⟩] (some [4, 5]))
  .ret)
  .skip))
 (.seq (.ops [⟨(some 21), none, .move (.t 1)⟩,
   ⟨(some 22), none, .build [(.bool false), (.int .i64 0), (.slice none 0 0), (.slice none 0 0)] [(0, 1), (1, 1), (2, 1), (3, 1)] [(1, (.t 21))]⟩,
   ⟨(some 23), none, .box (.t 22)⟩,
   ⟨(some 6), none, .move (.t 23)⟩] (some [0, 1, 6]))
 (.seq (.seq (.ops [⟨(some 24), none, .move (.t 0)⟩,
   ⟨(some 25), none, .move (.c (.int .i64 0))⟩] (some [1, 6, 24, 25]))
 (.block 0
  (.loop
   (.seq (.ops [⟨(some 26), none, .bin .lss 3 (.t 25) (.t 24)⟩] (some [1, 6, 24, 25, 26]))
   (.seq (.cond (.t 26)
    .skip
    (.exit 0))
   (.seq (.block 1
    (.seq (.opsd [(0, 0, ⟨(some 27), none, .move (.t 6)⟩),
      (1, 0, ⟨(some 28), none, .move (.t 6)⟩),
      (2, 2, ⟨(some 29), none, .nilCheck (.t 28)⟩),
      (3, 6, ⟨(some 30), none, .fieldAddr 2 (.t 29)⟩),
      (4, 14, ⟨(some 31), none, .load false 1 (.t 30)⟩),
      (5, 0, ⟨(some 32), none, .move (.t 1)⟩),
      (6, 32, ⟨(some 33), none, .makeSlice [(.string .empty)] 16 (.t 32) (.t 32)⟩),
      (7, 96, ⟨(some 34), none, .buildSlice [(.slice none 0 0)] 1 1 [(0, (.t 33))]⟩),
      (8, 254, ⟨(some 35), none, .append 1 24 [(.slice none 0 0)] (.t 31) (.t 34)⟩),
      (9, 511, ⟨(some 36), none, .nilCheck (.t 27)⟩),
      (10, 1023, ⟨(some 37), none, .fieldAddr 2 (.t 36)⟩),
      (11, 2047, ⟨none, none, .store 1 (.t 37) (.t 35)⟩)] (some [1, 6, 24, 25]))
    (.ops [⟨(some 38), none, .move (.t 6)⟩,
      ⟨(some 39), none, .move (.t 6)⟩,
      ⟨(some 40), none, .nilCheck (.t 39)⟩,
      ⟨(some 41), none, .fieldAddr 3 (.t 40)⟩,
      ⟨(some 42), none, .load false 1 (.t 41)⟩,
      ⟨(some 43), none, .makeMap⟩,
      ⟨(some 44), none, .buildSlice [(.map none)] 1 1 [(0, (.t 43))]⟩,
      ⟨(some 45), none, .append 1 8 [(.map none)] (.t 42) (.t 44)⟩,
      ⟨(some 46), none, .nilCheck (.t 38)⟩,
      ⟨(some 47), none, .fieldAddr 3 (.t 46)⟩,
      ⟨none, none, .store 1 (.t 47) (.t 45)⟩] (some [1, 6, 24, 25]))))
   (.ops [⟨(some 48), none, .bin .add 3 (.t 25) (.c (.int .i64 1))⟩,
     ⟨(some 25), none, .move (.t 48)⟩] (some [1, 6, 24, 25]))))))))
 (.seq (.ops [⟨(some 49), none, .move (.t 6)⟩,
   ⟨(some 4), none, .move (.t 49)⟩,
   ⟨(some 5), none, .move (.c (.int .i64 0))⟩] (some [4, 5]))
 .ret))))), [.tmp 4, .tmp 5]⟩

theorem is26 : FnIs Tryz.prog 26 x26 := ⟨Tryz.f26, _, Tryz.func26, by kernel_rfl, rfl, by kernel_rfl, by decide, by kernel_rfl⟩

/-- cloisonne/vault.Open -/
def x50 : XDecl := .code ⟨2, 
 (.seq (.ops [⟨(some 2), none, .box (.t 0)⟩,
   ⟨(some 4), none, .move (.c (.pointer none))⟩,
   ⟨(some 5), none, .move (.c (.int .i64 0))⟩] (some [1, 2]))
 (.seq (.block 0
  (.seq (.ops [⟨(some 12), none, .move (.t 1)⟩,
    ⟨(some 13), none, .isNil .ptr false (.t 12)⟩,
    ⟨(some 11), none, .move (.t 13)⟩] (some [1, 2, 11]))
  (.cond (.t 11)
   (.seq (.ops [⟨(some 4), none, .move (.c (.pointer none))⟩,
     ⟨(some 5), none, .move (.c (.int .i64 2))⟩] (some [4, 5]))
   .ret)
   (.seq (.opsd [(0, 0, ⟨(some 15), none, .load true 4 (.t 2)⟩),
     (1, 1, ⟨(some 16), none, .call (.c (.func (.func 92) #[] #[])) [(.t 15)]⟩),
     (2, 3, ⟨(some 17), none, .un .not (.t 16)⟩),
     (3, 7, ⟨(some 18), none, .move (.t 17)⟩),
     (4, 15, ⟨(some 19), (some (18, false)), .move (.t 1)⟩),
     (6, 15, ⟨(some 21), (some (18, false)), .fieldAddr 3 (.t 2)⟩),
     (7, 79, ⟨(some 22), (some (18, false)), .load false 1 (.t 21)⟩),
     (8, 207, ⟨(some 23), (some (18, false)), .len (.t 22)⟩),
     (9, 463, ⟨(some 24), (some (18, false)), .bin .mul 3 (.c (.int .i64 2)) (.t 23)⟩),
     (10, 975, ⟨(some 25), (some (18, false)), .bin .add 3 (.c (.int .i64 2)) (.t 24)⟩),
     (5, 31, ⟨(some 20), (some (18, false)), .call (.c (.func (.func 93) #[] #[])) [(.t 19)]⟩),
     (11, 2047, ⟨(some 26), (some (18, false)), .bin .lss 3 (.t 20) (.t 25)⟩),
     (12, 4095, ⟨(some 27), none, .pick (.t 18) (.c (.bool true)) (.t 26)⟩),
     (13, 8191, ⟨(some 28), none, .move (.t 27)⟩),
     (14, 16383, ⟨(some 29), (some (28, false)), .move (.t 1)⟩),
     (16, 16383, ⟨(some 31), (some (28, false)), .fieldAddr 2 (.t 2)⟩),
     (17, 81919, ⟨(some 32), (some (28, false)), .load false 1 (.t 31)⟩),
     (15, 32767, ⟨(some 30), (some (28, false)), .call (.c (.func (.func 94) #[] #[])) [(.t 29)]⟩),
     (18, 262143, ⟨(some 33), (some (28, false)), .bin .neq 3 (.t 30) (.t 32)⟩),
     (19, 524287, ⟨(some 34), none, .pick (.t 28) (.c (.bool true)) (.t 33)⟩),
     (20, 1048575, ⟨(some 14), none, .move (.t 34)⟩)] (some [1, 2, 14]))
   (.cond (.t 14)
    (.seq (.ops [⟨(some 4), none, .move (.c (.pointer none))⟩,
      ⟨(some 5), none, .move (.c (.int .i64 1))⟩] (some [4, 5]))
    .ret)
    (.seq (.ops [⟨(some 36), none, .move (.t 1)⟩,
      ⟨(some 37), none, .call (.c (.func (.func 95) #[] #[])) [(.t 36)]⟩,
      ⟨(some 38), none, .un .not (.t 37)⟩,
      ⟨(some 35), none, .move (.t 38)⟩] (some [1, 2, 35]))
    (.cond (.t 35)
     (.seq (.ops [⟨(some 4), none, .move (.c (.pointer none))⟩,
       ⟨(some 5), none, .move (.c (.int .i64 6))⟩] (some [4, 5]))
     .ret)
     .skip)))))))
 (.seq (.ops [⟨(some 39), none, .load true 4 (.t 2)⟩,
   ⟨(some 40), none, .call (.c (.func (.func 96) #[] #[])) [(.t 39)]⟩,
   ⟨(some 41), none, .move (.t 1)⟩,
   ⟨(some 42), none, .makeMap⟩,
   ⟨(some 43), none, .build [(.int .i64 0), (.int .i64 0), (.int .i64 0), (.slice none 0 0), (.pointer none), (.pointer none), (.slice none 0 0), (.slice none 0 0), (.map none), (.int .u64 0)] [(0, 4), (4, 1), (5, 1), (6, 1), (7, 1), (8, 1), (9, 1)] [(0, (.t 40)), (1, (.t 41)), (5, (.t 42))]⟩,
   ⟨(some 44), none, .box (.t 43)⟩,
   ⟨(some 6), none, .move (.t 44)⟩] (some [6]))
 (.seq (.seq (.ops [⟨(some 45), none, .move (.t 6)⟩,
   ⟨(some 46), none, .call (.c (.func (.func 97) #[] #[])) [(.t 45)]⟩,
   ⟨(some 7), none, .move (.t 46)⟩] (some [6, 7]))
 (.seq (.ops [⟨(some 47), none, .move (.t 7)⟩,
   ⟨(some 48), none, .bin .neq 34 (.t 47) (.c (.int .i64 0))⟩] (some [6, 7, 48]))
 (.cond (.t 48)
  (.seq (.ops [⟨(some 49), none, .move (.t 7)⟩,
    ⟨(some 4), none, .move (.c (.pointer none))⟩,
    ⟨(some 5), none, .move (.t 49)⟩] (some [4, 5]))
  .ret)
  .skip)))
 (.seq (.seq (.ops [⟨(some 50), none, .move (.t 6)⟩,
   ⟨(some 51), none, .nilCheck (.t 50)⟩,
   ⟨(some 52), none, .fieldAddr 0 (.t 51)⟩,
   ⟨(some 53), none, .fieldAddr 3 (.t 52)⟩,
   ⟨(some 54), none, .load false 1 (.t 53)⟩,
   ⟨(some 55), none, .len (.t 54)⟩,
   ⟨(some 56), none, .move (.c (.int .i64 0))⟩] (some [6, 54, 55, 56]))
 (.block 1
  (.loop
   (.seq (.ops [⟨(some 57), none, .bin .lss 3 (.t 56) (.t 55)⟩] (some [6, 54, 55, 56, 57]))
   (.seq (.cond (.t 57)
    .skip
    (.exit 1))
   (.seq (.block 2
    (.seq (.ops [⟨(some 58), none, .indexAddr 4 (.t 54) (.t 56)⟩,
      ⟨(some 59), none, .load true 4 (.t 58)⟩,
      ⟨(some 9), none, .alloc [(.slice none 0 0), (.int .i64 0), (.int .i64 0), (.int .i64 0)]⟩,
      ⟨none, none, .store 4 (.t 9) (.t 59)⟩] (some [6, 9, 54, 55, 56]))
    (.seq (.ops [⟨(some 60), none, .move (.t 6)⟩,
      ⟨(some 61), none, .load true 4 (.t 9)⟩,
      ⟨(some 62), none, .call (.c (.func (.func 98) #[] #[])) [(.t 60), (.t 61)]⟩,
      ⟨(some 10), none, .move (.t 62)⟩] (some [6, 10, 54, 55, 56]))
    (.seq (.ops [⟨(some 63), none, .move (.t 10)⟩,
      ⟨(some 64), none, .bin .neq 34 (.t 63) (.c (.int .i64 0))⟩] (some [6, 10, 54, 55, 56, 64]))
    (.cond (.t 64)
     (.seq (.ops [⟨(some 65), none, .move (.t 10)⟩,
       ⟨(some 4), none, .move (.c (.pointer none))⟩,
       ⟨(some 5), none, .move (.t 65)⟩] (some [4, 5]))
     .ret)
     .skip)))))
   (.ops [⟨(some 66), none, .bin .add 3 (.t 56) (.c (.int .i64 1))⟩,
     ⟨(some 56), none, .move (.t 66)⟩] (some [6, 54, 55, 56]))))))))
 (.seq (.ops [⟨(some 67), none, .move (.t 6)⟩,
   ⟨(some 4), none, .move (.t 67)⟩,
   ⟨(some 5), none, .move (.c (.int .i64 0))⟩] (some [4, 5]))
 .ret)))))), [.tmp 4, .tmp 5]⟩

theorem is50 : FnIs Tryz.prog 50 x50 := ⟨Tryz.f50, _, Tryz.func50, by kernel_rfl, rfl, by kernel_rfl, by decide, by kernel_rfl⟩

/-- cloisonne/cloisonnelaw18.Plain -/
def x51 : XDecl := .code ⟨0, 
 (.seq (.ops [⟨(some 0), none, .alloc [(.int .i64 0), (.int .i64 0), (.int .i64 0), (.slice none 0 0)]⟩] (some [0]))
 (.seq (.ops [⟨(some 3), none, .build [(.slice none 0 0), (.int .i64 0), (.int .i64 0), (.int .i64 0)] [(0, 1), (1, 1), (2, 1), (3, 1)] [(1, (.c (.int .i64 4))), (2, (.c (.int .i64 200))), (3, (.c (.int .i64 99)))]⟩,
   ⟨(some 1), none, .alloc [(.slice none 0 0), (.int .i64 0), (.int .i64 0), (.int .i64 0)]⟩,
   ⟨none, none, .store 4 (.t 1) (.t 3)⟩] (some [0, 1]))
 (.seq (.ops [⟨(some 4), none, .load true 4 (.t 1)⟩,
   ⟨(some 2), none, .alloc [(.slice none 0 0), (.int .i64 0), (.int .i64 0), (.int .i64 0)]⟩,
   ⟨none, none, .store 4 (.t 2) (.t 4)⟩] (some [0, 1, 2]))
 (.seq (.ops [⟨(some 5), none, .buildSlice [(.int .u64 0)] 1 1 [(0, (.c (.int .u64 1)))]⟩,
   ⟨(some 6), none, .fieldAddr 0 (.t 2)⟩,
   ⟨none, none, .store 1 (.t 6) (.t 5)⟩] (some [0, 1, 2]))
 (.seq (.ops [⟨(some 7), none, .load true 4 (.t 1)⟩,
   ⟨(some 8), none, .load true 4 (.t 2)⟩,
   ⟨(some 9), none, .buildSlice [(.slice none 0 0), (.int .i64 0), (.int .i64 0), (.int .i64 0)] 4 2 [(0, (.t 7)), (1, (.t 8))]⟩,
   ⟨(some 10), none, .build [(.int .i64 0), (.int .i64 0), (.int .i64 0), (.slice none 0 0)] [(0, 1), (1, 1), (2, 1), (3, 1)] [(0, (.c (.int .i64 2))), (1, (.c (.int .i64 3))), (2, (.c (.int .i64 8))), (3, (.t 9))]⟩,
   ⟨none, none, .store 4 (.t 0) (.t 10)⟩] (some [0]))
 .ret))))), [.cell true 4 0]⟩

theorem is51 : FnIs Tryz.prog 51 x51 := ⟨Tryz.f51, _, Tryz.func51, by kernel_rfl, rfl, by kernel_rfl, by decide, by kernel_rfl⟩

/-- (*cloisonne/sess.Session).step -/
def x52 : XDecl := .code ⟨1, 
 (.seq (.ops [⟨(some 2), none, .move (.c (.int .i64 0))⟩,
   ⟨(some 3), none, .alloc [(.int .i64 0), (.int .u64 0), (.bool false), (.bool false), (.string .empty), (.int .u64 0), (.slice none 0 0), (.int .i64 0), (.int .u64 0), (.int .u64 0), (.int .u64 0), (.int .u64 0)]⟩,
   ⟨(some 4), none, .move (.c (.int .i64 0))⟩] (some [0, 3]))
 (.seq (.ops [⟨(some 10), none, .move (.t 0)⟩,
   ⟨(some 11), none, .nilCheck (.t 10)⟩,
   ⟨(some 12), none, .fieldAddr 7 (.t 11)⟩,
   ⟨(some 13), none, .load false 1 (.t 12)⟩,
   ⟨(some 14), none, .nilCheck (.t 13)⟩,
   ⟨(some 15), none, .fieldAddr 0 (.t 14)⟩,
   ⟨(some 16), none, .load true 15 (.t 15)⟩,
   ⟨(some 5), none, .alloc [(.int .i64 0), (.int .i64 0), (.slice none 0 0), (.int .u64 0), (.bool false), (.int .i64 0), (.string .empty), (.bool false), (.string .empty), (.int .u64 0), (.string .empty), (.string .empty), (.int .i64 0), (.int .i64 0), (.slice none 0 0)]⟩,
   ⟨none, none, .store 15 (.t 5) (.t 16)⟩] (some [0, 3, 5]))
 (.seq (.seq (.ops [⟨(some 17), none, .move (.t 0)⟩,
   ⟨(some 18), none, .nilCheck (.t 17)⟩,
   ⟨(some 19), none, .fieldAddr 3 (.t 18)⟩,
   ⟨(some 20), none, .load false 1 (.t 19)⟩,
   ⟨(some 21), none, .un .not (.t 20)⟩,
   ⟨(some 22), none, .move (.t 21)⟩,
   ⟨(some 23), (some (22, true)), .fieldAddr 0 (.t 5)⟩,
   ⟨(some 24), (some (22, true)), .load false 1 (.t 23)⟩,
   ⟨(some 25), (some (22, true)), .bin .neq 3 (.t 24) (.c (.int .i64 1))⟩,
   ⟨(some 26), none, .pick (.t 22) (.t 25) (.c (.bool false))⟩] (some [0, 3, 5, 26]))
 (.cond (.t 26)
  (.seq (.ops [⟨(some 27), none, .call (.c (.func (.func 99) #[] #[])) [(.c (.int .i64 7))]⟩,
    ⟨(some 2), none, .move (.c (.int .i64 2))⟩,
    ⟨none, none, .store 12 (.t 3) (.t 27)⟩,
    ⟨(some 4), none, .move (.c (.int .i64 0))⟩] (some [2, 3, 4]))
  .ret)
  .skip))
 (.seq (.seq (.ops [⟨(some 29), none, .move (.t 0)⟩,
   ⟨(some 30), none, .load true 15 (.t 5)⟩,
   ⟨(some 31), none, .call (.c (.func (.func 100) #[] #[])) [(.t 29), (.t 30)]⟩,
   ⟨(some 28), none, .move (.t 31)⟩,
   ⟨(some 32), none, .extract (.t 28) 0⟩,
   ⟨(some 33), none, .extract (.t 28) 1⟩,
   ⟨(some 6), none, .alloc [(.int .i64 0), (.int .u64 0), (.bool false), (.bool false), (.string .empty), (.int .u64 0), (.slice none 0 0), (.int .i64 0), (.int .u64 0), (.int .u64 0), (.int .u64 0), (.int .u64 0)]⟩,
   ⟨none, none, .store 12 (.t 6) (.t 32)⟩,
   ⟨(some 7), none, .move (.t 33)⟩] (some [0, 3, 5, 6, 7]))
 (.seq (.ops [⟨(some 34), none, .move (.t 7)⟩] (some [0, 3, 5, 6, 34]))
 (.cond (.t 34)
  (.seq (.opsd [(0, 0, ⟨(some 35), none, .load true 12 (.t 6)⟩),
    (1, 0, ⟨(some 2), none, .move (.c (.int .i64 2))⟩),
    (2, 3, ⟨none, none, .store 12 (.t 3) (.t 35)⟩),
    (3, 7, ⟨(some 4), none, .move (.c (.int .i64 0))⟩)] (some [2, 3, 4]))
  .ret)
  .skip)))
 (.seq (.seq (.ops [⟨(some 36), none, .fieldAddr 0 (.t 5)⟩,
   ⟨(some 37), none, .load false 1 (.t 36)⟩,
   ⟨(some 38), none, .bin .eql 3 (.t 37) (.c (.int .i64 5))⟩,
   ⟨(some 39), none, .move (.t 38)⟩,
   ⟨(some 40), (some (39, false)), .fieldAddr 0 (.t 5)⟩,
   ⟨(some 41), (some (39, false)), .load false 1 (.t 40)⟩,
   ⟨(some 42), (some (39, false)), .bin .eql 3 (.t 41) (.c (.int .i64 6))⟩,
   ⟨(some 43), none, .pick (.t 39) (.c (.bool true)) (.t 42)⟩] (some [0, 3, 5, 43]))
 (.cond (.t 43)
  (.seq (.ops [⟨(some 44), none, .move (.t 0)⟩,
    ⟨(some 45), none, .call (.c (.func (.func 101) #[] #[])) [(.t 44)]⟩,
    ⟨(some 46), none, .extract (.t 45) 0⟩,
    ⟨(some 47), none, .extract (.t 45) 1⟩,
    ⟨(some 48), none, .extract (.t 45) 2⟩,
    ⟨(some 2), none, .move (.t 46)⟩,
    ⟨none, none, .store 12 (.t 3) (.t 47)⟩,
    ⟨(some 4), none, .move (.t 48)⟩] (some [2, 3, 4]))
  .ret)
  .skip))
 (.seq (.seq (.ops [⟨(some 49), none, .move (.t 0)⟩,
   ⟨(some 50), none, .nilCheck (.t 49)⟩,
   ⟨(some 51), none, .fieldAddr 6 (.t 50)⟩,
   ⟨(some 52), none, .load false 1 (.t 51)⟩,
   ⟨(some 53), none, .isNil .ptr false (.t 52)⟩] (some [0, 3, 5, 53]))
 (.cond (.t 53)
  (.seq (.ops [⟨(some 54), none, .call (.c (.func (.func 99) #[] #[])) [(.c (.int .i64 9))]⟩,
    ⟨(some 2), none, .move (.c (.int .i64 2))⟩,
    ⟨none, none, .store 12 (.t 3) (.t 54)⟩,
    ⟨(some 4), none, .move (.c (.int .i64 0))⟩] (some [2, 3, 4]))
  .ret)
  .skip))
 (.seq (.seq (.ops [⟨(some 55), none, .fieldAddr 0 (.t 5)⟩,
   ⟨(some 56), none, .load false 1 (.t 55)⟩] (some [0, 3, 5, 56]))
 (.block 0
  (.seq (.seq (.ops [⟨(some 58), none, .bin .eql 3 (.t 56) (.c (.int .i64 11))⟩,
    ⟨(some 57), none, .move (.t 58)⟩] (some [0, 3, 5, 56, 57]))
  (.cond (.t 57)
   .skip
   (.ops [⟨(some 59), none, .bin .eql 3 (.t 56) (.c (.int .i64 17))⟩,
     ⟨(some 57), none, .move (.t 59)⟩] (some [0, 3, 5, 56, 57]))))
  (.cond (.t 57)
   (.seq (.ops [⟨(some 61), none, .move (.t 0)⟩,
     ⟨(some 62), none, .call (.c (.func (.func 102) #[] #[])) [(.t 61)]⟩,
     ⟨(some 60), none, .move (.t 62)⟩,
     ⟨(some 63), none, .extract (.t 60) 0⟩,
     ⟨(some 64), none, .extract (.t 60) 1⟩,
     ⟨(some 9), none, .alloc [(.int .i64 0), (.int .u64 0), (.bool false), (.bool false), (.string .empty), (.int .u64 0), (.slice none 0 0), (.int .i64 0), (.int .u64 0), (.int .u64 0), (.int .u64 0), (.int .u64 0)]⟩,
     ⟨(some 8), none, .move (.t 63)⟩,
     ⟨none, none, .store 12 (.t 9) (.t 64)⟩] (some [3, 8, 9]))
   (.seq (.opsd [(0, 0, ⟨(some 65), none, .move (.t 8)⟩),
     (1, 0, ⟨(some 66), none, .load true 12 (.t 9)⟩),
     (2, 1, ⟨(some 2), none, .move (.t 65)⟩),
     (3, 7, ⟨none, none, .store 12 (.t 3) (.t 66)⟩),
     (4, 15, ⟨(some 4), none, .move (.c (.int .i64 0))⟩)] (some [2, 3, 4]))
   .ret))
   (.seq (.ops [⟨(some 68), none, .bin .eql 3 (.t 56) (.c (.int .i64 14))⟩,
     ⟨(some 67), none, .move (.t 68)⟩] (some [0, 3, 5, 67]))
   (.cond (.t 67)
    (.seq (.ops [⟨(some 69), none, .move (.t 0)⟩,
      ⟨(some 70), none, .call (.c (.func (.func 101) #[] #[])) [(.t 69)]⟩,
      ⟨(some 71), none, .extract (.t 70) 0⟩,
      ⟨(some 72), none, .extract (.t 70) 1⟩,
      ⟨(some 73), none, .extract (.t 70) 2⟩,
      ⟨(some 2), none, .move (.t 71)⟩,
      ⟨none, none, .store 12 (.t 3) (.t 72)⟩,
      ⟨(some 4), none, .move (.t 73)⟩] (some [2, 3, 4]))
    .ret)
    .skip))))))
 (.seq (.ops [⟨(some 74), none, .move (.t 0)⟩,
   ⟨(some 75), none, .load true 15 (.t 5)⟩,
   ⟨(some 76), none, .call (.c (.func (.func 103) #[] #[])) [(.t 74), (.t 75)]⟩,
   ⟨(some 2), none, .move (.c (.int .i64 2))⟩,
   ⟨none, none, .store 12 (.t 3) (.t 76)⟩,
   ⟨(some 4), none, .move (.c (.int .i64 0))⟩] (some [2, 3, 4]))
 .ret)))))))), [.tmp 2, .cell true 12 3, .tmp 4]⟩

theorem is52 : FnIs Tryz.prog 52 x52 := ⟨Tryz.f52, _, Tryz.func52, by kernel_rfl, rfl, by kernel_rfl, by decide, by kernel_rfl⟩

/-- cloisonne/ask.Right -/
def x53 : XDecl := .code ⟨1, 
 (.seq (.ops [⟨(some 1), none, .box (.t 0)⟩,
   ⟨(some 2), none, .move (.c (.bool false))⟩] (some [1]))
 (.seq (.ops [⟨(some 5), none, .fieldAddr 0 (.t 1)⟩,
   ⟨(some 6), none, .load false 1 (.t 5)⟩,
   ⟨(some 7), none, .call (.c (.func (.func 104) #[] #[])) [(.t 6)]⟩,
   ⟨(some 3), none, .move (.t 7)⟩] (some [1, 3]))
 (.seq (.seq (.ops [⟨(some 4), none, .move (.c (.int .i64 0))⟩] (some [1, 3, 4]))
 (.block 0
  (.loop
   (.seq (.seq (.ops [⟨(some 8), none, .move (.t 4)⟩,
     ⟨(some 9), none, .bin .leq 193 (.t 8) (.c (.int .i64 9))⟩] (some [1, 3, 4, 9]))
   (.cond (.t 9)
    .skip
    (.exit 0)))
   (.seq (.block 1
    (.seq (.ops [⟨(some 12), none, .move (.t 3)⟩,
      ⟨(some 13), none, .move (.t 4)⟩,
      ⟨(some 14), none, .call (.c (.func (.func 105) #[] #[])) [(.t 12), (.t 13)]⟩,
      ⟨(some 15), none, .move (.t 14)⟩,
      ⟨(some 16), (some (15, true)), .load true 15 (.t 1)⟩,
      ⟨(some 17), (some (15, true)), .move (.t 4)⟩,
      ⟨(some 18), (some (15, true)), .call (.c (.func (.func 106) #[] #[])) [(.t 16), (.t 17)]⟩,
      ⟨(some 19), (some (15, true)), .un .not (.t 18)⟩,
      ⟨(some 20), none, .pick (.t 15) (.t 19) (.c (.bool false))⟩,
      ⟨(some 21), none, .move (.t 20)⟩,
      ⟨(some 22), (some (21, false)), .move (.t 3)⟩,
      ⟨(some 23), (some (21, false)), .move (.t 4)⟩,
      ⟨(some 24), (some (21, false)), .call (.c (.func (.func 105) #[] #[])) [(.t 22), (.t 23)]⟩,
      ⟨(some 25), (some (21, false)), .un .not (.t 24)⟩,
      ⟨(some 26), (some (21, false)), .move (.t 25)⟩,
      ⟨(some 27), (some (26, true)), .load true 15 (.t 1)⟩,
      ⟨(some 28), (some (26, true)), .move (.t 4)⟩,
      ⟨(some 29), (some (26, true)), .call (.c (.func (.func 107) #[] #[])) [(.t 27), (.t 28)]⟩,
      ⟨(some 30), (some (26, true)), .un .not (.t 29)⟩,
      ⟨(some 31), (some (21, false)), .pick (.t 26) (.t 30) (.c (.bool false))⟩,
      ⟨(some 32), none, .pick (.t 21) (.c (.bool true)) (.t 31)⟩] (some [1, 3, 4, 32]))
    (.cond (.t 32)
     (.seq (.ops [⟨(some 2), none, .move (.c (.bool false))⟩] (some [2]))
     .ret)
     .skip)))
   (.ops [⟨(some 10), none, .move (.t 4)⟩,
     ⟨(some 11), none, .bin .add 193 (.t 10) (.c (.int .i64 1))⟩,
     ⟨(some 4), none, .move (.t 11)⟩] (some [1, 3, 4])))))))
 (.seq (.ops [⟨(some 33), none, .fieldAddr 0 (.t 1)⟩,
   ⟨(some 34), none, .load false 1 (.t 33)⟩,
   ⟨(some 35), none, .call (.c (.func (.func 108) #[] #[])) [(.t 34), (.c (.int .i64 1)), (.c (.int .i64 17))]⟩,
   ⟨(some 2), none, .move (.t 35)⟩] (some [2]))
 .ret)))), [.tmp 2]⟩

theorem is53 : FnIs Tryz.prog 53 x53 := ⟨Tryz.f53, _, Tryz.func53, by kernel_rfl, rfl, by kernel_rfl, by decide, by kernel_rfl⟩

/-- slices.Clone[[]uint64,uint64] -/
def x54 : XDecl := .code ⟨1, 
 (.seq (.ops [⟨(some 2), none, .move (.c (.slice none 0 0))⟩] (some [0]))
 (.seq (.seq (.ops [⟨(some 3), none, .move (.t 0)⟩,
   ⟨(some 4), none, .isNil .slice false (.t 3)⟩] (some [0, 4]))
 (.cond (.t 4)
  (.seq (.ops [⟨(some 2), none, .move (.c (.slice none 0 0))⟩] (some [2]))
  .ret)
  .skip))
 (.seq (.ops [⟨(some 5), none, .buildSlice [(.int .u64 0)] 1 0 []⟩,
   ⟨(some 6), none, .move (.t 0)⟩,
   ⟨(some 7), none, .append 1 8 [(.int .u64 0)] (.t 5) (.t 6)⟩,
   ⟨(some 2), none, .move (.t 7)⟩] (some [2]))
 .ret))), [.tmp 2]⟩

theorem is54 : FnIs Tryz.prog 54 x54 := ⟨Tryz.f54, _, Tryz.func54, by kernel_rfl, rfl, by kernel_rfl, by decide, by kernel_rfl⟩

/-- slices.Clone[[]cloisonne/api.Code,cloisonne/api.Code] -/
def x55 : XDecl := .code ⟨1, 
 (.seq (.ops [⟨(some 2), none, .move (.c (.slice none 0 0))⟩] (some [0]))
 (.seq (.seq (.ops [⟨(some 3), none, .move (.t 0)⟩,
   ⟨(some 4), none, .isNil .slice false (.t 3)⟩] (some [0, 4]))
 (.cond (.t 4)
  (.seq (.ops [⟨(some 2), none, .move (.c (.slice none 0 0))⟩] (some [2]))
  .ret)
  .skip))
 (.seq (.ops [⟨(some 5), none, .buildSlice [(.int .i64 0), (.int .u64 0)] 2 0 []⟩,
   ⟨(some 6), none, .move (.t 0)⟩,
   ⟨(some 7), none, .append 2 16 [(.int .i64 0), (.int .u64 0)] (.t 5) (.t 6)⟩,
   ⟨(some 2), none, .move (.t 7)⟩] (some [2]))
 .ret))), [.tmp 2]⟩

theorem is55 : FnIs Tryz.prog 55 x55 := ⟨Tryz.f55, _, Tryz.func55, by kernel_rfl, rfl, by kernel_rfl, by decide, by kernel_rfl⟩

/-- cloisonne/cloisonneref13.Same -/
def x56 : XDecl := .code ⟨2, 
 (.seq (.ops [⟨(some 4), none, .move (.c (.bool false))⟩] (some [0, 1]))
 (.seq (.seq (.ops [⟨(some 6), none, .move (.t 0)⟩,
   ⟨(some 7), none, .len (.t 6)⟩,
   ⟨(some 8), none, .move (.t 1)⟩,
   ⟨(some 9), none, .len (.t 8)⟩,
   ⟨(some 10), none, .bin .neq 3 (.t 7) (.t 9)⟩] (some [0, 1, 10]))
 (.cond (.t 10)
  (.seq (.ops [⟨(some 4), none, .move (.c (.bool false))⟩] (some [4]))
  .ret)
  .skip))
 (.seq (.seq (.ops [⟨(some 5), none, .move (.c (.int .i64 0))⟩] (some [0, 1, 5]))
 (.block 0
  (.loop
   (.seq (.seq (.ops [⟨(some 11), none, .move (.t 5)⟩,
     ⟨(some 12), none, .move (.t 0)⟩,
     ⟨(some 13), none, .len (.t 12)⟩,
     ⟨(some 14), none, .bin .lss 3 (.t 11) (.t 13)⟩] (some [0, 1, 5, 14]))
   (.cond (.t 14)
    .skip
    (.exit 0)))
   (.seq (.block 1
    (.seq (.opsr [⟨(some 17), none, .move (.t 0)⟩,
      ⟨(some 18), none, .move (.t 5)⟩,
      ⟨(some 19), none, .indexAddr 5 (.t 17) (.t 18)⟩,
      ⟨(some 20), none, .load true 5 (.t 19)⟩,
      ⟨(some 21), none, .move (.t 1)⟩,
      ⟨(some 22), none, .move (.t 5)⟩,
      ⟨(some 23), none, .indexAddr 5 (.t 21) (.t 22)⟩,
      ⟨(some 24), none, .load true 5 (.t 23)⟩,
      ⟨(some 25), none, .bin .neq 197 (.t 20) (.t 24)⟩] (some [0, 1, 5, 25]))
    (.cond (.t 25)
     (.seq (.ops [⟨(some 4), none, .move (.c (.bool false))⟩] (some [4]))
     .ret)
     .skip)))
   (.ops [⟨(some 15), none, .move (.t 5)⟩,
     ⟨(some 16), none, .bin .add 3 (.t 15) (.c (.int .i64 1))⟩,
     ⟨(some 5), none, .move (.t 16)⟩] (some [0, 1, 5])))))))
 (.seq (.ops [⟨(some 4), none, .move (.c (.bool true))⟩] (some [4]))
 .ret)))), [.tmp 4]⟩

theorem is56 : FnIs Tryz.prog 56 x56 := ⟨Tryz.f56, _, Tryz.func56, by kernel_rfl, rfl, by kernel_rfl, by decide, by kernel_rfl⟩

/-- (*cloisonne/vault.Vault).Room -/
def x65 : XDecl := .code ⟨2, 
 (.seq (.ops [⟨(some 4), none, .move (.c (.pointer none))⟩] (some [0, 1]))
 (.seq (.seq (.ops [⟨(some 5), none, .move (.t 0)⟩,
   ⟨(some 6), none, .isNil .ptr false (.t 5)⟩,
   ⟨(some 7), none, .move (.t 6)⟩,
   ⟨(some 8), (some (7, false)), .move (.t 1)⟩,
   ⟨(some 9), (some (7, false)), .move (.t 0)⟩,
   ⟨(some 10), (some (7, false)), .nilCheck (.t 9)⟩,
   ⟨(some 11), (some (7, false)), .fieldAddr 6 (.t 10)⟩,
   ⟨(some 12), (some (7, false)), .load false 1 (.t 11)⟩,
   ⟨(some 13), (some (7, false)), .len (.t 12)⟩,
   ⟨(some 14), (some (7, false)), .bin .sub 3 (.t 13) (.c (.int .i64 1))⟩,
   ⟨(some 15), (some (7, false)), .call (.c (.func (.func 118) #[] #[])) [(.t 8), (.c (.int .i64 0)), (.t 14)]⟩,
   ⟨(some 16), (some (7, false)), .un .not (.t 15)⟩,
   ⟨(some 17), none, .pick (.t 7) (.c (.bool true)) (.t 16)⟩] (some [0, 1, 17]))
 (.cond (.t 17)
  (.seq (.ops [⟨(some 4), none, .move (.c (.pointer none))⟩] (some [4]))
  .ret)
  .skip))
 (.seq (.ops [⟨(some 18), none, .move (.t 0)⟩,
   ⟨(some 19), none, .nilCheck (.t 18)⟩,
   ⟨(some 20), none, .fieldAddr 6 (.t 19)⟩,
   ⟨(some 21), none, .load false 1 (.t 20)⟩,
   ⟨(some 22), none, .move (.t 1)⟩,
   ⟨(some 23), none, .indexAddr 1 (.t 21) (.t 22)⟩,
   ⟨(some 24), none, .load false 1 (.t 23)⟩,
   ⟨(some 4), none, .move (.t 24)⟩] (some [4]))
 .ret))), [.tmp 4]⟩

theorem is65 : FnIs Tryz.prog 65 x65 := ⟨Tryz.f65, _, Tryz.func65, by kernel_rfl, rfl, by kernel_rfl, by decide, by kernel_rfl⟩

/-- cmp.Compare[int] -/
def x82 : XDecl := .code ⟨2, 
 (.seq (.ops [⟨(some 4), none, .move (.c (.int .i64 0))⟩] (some [0, 1]))
 (.seq (.ops [⟨(some 7), none, .move (.t 0)⟩,
   ⟨(some 8), none, .call (.c (.func (.func 136) #[] #[])) [(.t 7)]⟩,
   ⟨(some 5), none, .move (.t 8)⟩] (some [0, 1, 5]))
 (.seq (.ops [⟨(some 9), none, .move (.t 1)⟩,
   ⟨(some 10), none, .call (.c (.func (.func 136) #[] #[])) [(.t 9)]⟩,
   ⟨(some 6), none, .move (.t 10)⟩] (some [0, 1, 5, 6]))
 (.seq (.seq (.ops [⟨(some 11), none, .move (.t 5)⟩] (some [0, 1, 6, 11]))
 (.cond (.t 11)
  (.seq (.seq (.ops [⟨(some 12), none, .move (.t 6)⟩] (some [12]))
  (.cond (.t 12)
   (.seq (.ops [⟨(some 4), none, .move (.c (.int .i64 0))⟩] (some [4]))
   .ret)
   .skip))
  (.seq (.ops [⟨(some 4), none, .move (.c (.int .i64 (-1)))⟩] (some [4]))
  .ret))
  .skip))
 (.seq (.seq (.ops [⟨(some 13), none, .move (.t 6)⟩] (some [0, 1, 13]))
 (.cond (.t 13)
  (.seq (.ops [⟨(some 4), none, .move (.c (.int .i64 1))⟩] (some [4]))
  .ret)
  .skip))
 (.seq (.seq (.ops [⟨(some 14), none, .move (.t 0)⟩,
   ⟨(some 15), none, .move (.t 1)⟩,
   ⟨(some 16), none, .bin .lss 3 (.t 14) (.t 15)⟩] (some [0, 1, 16]))
 (.cond (.t 16)
  (.seq (.ops [⟨(some 4), none, .move (.c (.int .i64 (-1)))⟩] (some [4]))
  .ret)
  .skip))
 (.seq (.seq (.ops [⟨(some 17), none, .move (.t 0)⟩,
   ⟨(some 18), none, .move (.t 1)⟩,
   ⟨(some 19), none, .bin .gtr 3 (.t 17) (.t 18)⟩] (some [19]))
 (.cond (.t 19)
  (.seq (.ops [⟨(some 4), none, .move (.c (.int .i64 1))⟩] (some [4]))
  .ret)
  .skip))
 (.seq (.ops [⟨(some 4), none, .move (.c (.int .i64 0))⟩] (some [4]))
 .ret)))))))), [.tmp 4]⟩

theorem is82 : FnIs Tryz.prog 82 x82 := ⟨Tryz.f82, _, Tryz.func82, by kernel_rfl, rfl, by kernel_rfl, by decide, by kernel_rfl⟩

/-- cloisonne/vault.Right -/
def x92 : XDecl := .code ⟨1, 
 (.seq (.ops [⟨(some 1), none, .box (.t 0)⟩,
   ⟨(some 2), none, .move (.c (.bool false))⟩] (some [1]))
 (.seq (.seq (.ops [⟨(some 6), none, .fieldAddr 0 (.t 1)⟩,
   ⟨(some 7), none, .load false 1 (.t 6)⟩,
   ⟨(some 8), none, .call (.c (.func (.func 118) #[] #[])) [(.t 7), (.c (.int .i64 1)), (.c (.int .i64 8))]⟩,
   ⟨(some 9), none, .un .not (.t 8)⟩,
   ⟨(some 10), none, .move (.t 9)⟩,
   ⟨(some 11), (some (10, false)), .fieldAddr 1 (.t 1)⟩,
   ⟨(some 12), (some (10, false)), .load false 1 (.t 11)⟩,
   ⟨(some 13), (some (10, false)), .call (.c (.func (.func 118) #[] #[])) [(.t 12), (.c (.int .i64 1)), (.c (.int .i64 16))]⟩,
   ⟨(some 14), (some (10, false)), .un .not (.t 13)⟩,
   ⟨(some 15), none, .pick (.t 10) (.c (.bool true)) (.t 14)⟩,
   ⟨(some 16), none, .move (.t 15)⟩,
   ⟨(some 17), (some (16, false)), .fieldAddr 2 (.t 1)⟩,
   ⟨(some 18), (some (16, false)), .load false 1 (.t 17)⟩,
   ⟨(some 19), (some (16, false)), .call (.c (.func (.func 118) #[] #[])) [(.t 18), (.c (.int .i64 1)), (.c (.int .i64 128))]⟩,
   ⟨(some 20), (some (16, false)), .un .not (.t 19)⟩,
   ⟨(some 21), none, .pick (.t 16) (.c (.bool true)) (.t 20)⟩,
   ⟨(some 22), none, .move (.t 21)⟩,
   ⟨(some 23), (some (22, false)), .fieldAddr 3 (.t 1)⟩,
   ⟨(some 24), (some (22, false)), .load false 1 (.t 23)⟩,
   ⟨(some 25), (some (22, false)), .len (.t 24)⟩,
   ⟨(some 26), (some (22, false)), .bin .gtr 3 (.t 25) (.c (.int .i64 8))⟩,
   ⟨(some 27), none, .pick (.t 22) (.c (.bool true)) (.t 26)⟩] (some [1, 27]))
 (.cond (.t 27)
  (.seq (.ops [⟨(some 2), none, .move (.c (.bool false))⟩] (some [2]))
  .ret)
  .skip))
 (.seq (.seq (.ops [⟨(some 28), none, .fieldAddr 3 (.t 1)⟩,
   ⟨(some 29), none, .load false 1 (.t 28)⟩,
   ⟨(some 30), none, .len (.t 29)⟩,
   ⟨(some 31), none, .move (.c (.int .i64 0))⟩] (some [1, 29, 30, 31]))
 (.block 0
  (.loop
   (.seq (.ops [⟨(some 32), none, .bin .lss 3 (.t 31) (.t 30)⟩] (some [1, 29, 30, 31, 32]))
   (.seq (.cond (.t 32)
    .skip
    (.exit 0))
   (.seq (.block 1
    (.seq (.ops [⟨(some 33), none, .move (.t 31)⟩,
      ⟨(some 34), none, .indexAddr 4 (.t 29) (.t 31)⟩,
      ⟨(some 35), none, .load true 4 (.t 34)⟩,
      ⟨(some 4), none, .alloc [(.slice none 0 0), (.int .i64 0), (.int .i64 0), (.int .i64 0)]⟩,
      ⟨(some 3), none, .move (.t 33)⟩,
      ⟨none, none, .store 4 (.t 4) (.t 35)⟩] (some [1, 3, 4, 29, 30, 31]))
    (.seq (.ops [⟨(some 36), none, .makeFunc (.func 147) [] [(.t 4)]⟩,
      ⟨(some 5), none, .move (.t 36)⟩] (some [1, 3, 4, 5, 29, 30, 31]))
    (.seq (.ops [⟨(some 37), none, .load true 4 (.t 4)⟩,
      ⟨(some 38), none, .call (.c (.func (.func 149) #[] #[])) [(.t 37)]⟩,
      ⟨(some 39), none, .un .not (.t 38)⟩,
      ⟨(some 40), none, .move (.t 39)⟩,
      ⟨(some 41), (some (40, false)), .fieldAddr 3 (.t 1)⟩,
      ⟨(some 42), (some (40, false)), .load false 1 (.t 41)⟩,
      ⟨(some 43), (some (40, false)), .move (.t 3)⟩,
      ⟨(some 44), (some (40, false)), .slice 4 (.t 42) none (some (.t 43)) none⟩,
      ⟨(some 45), (some (40, false)), .move (.t 5)⟩,
      ⟨(some 46), (some (40, false)), .call (.c (.func (.func 150) #[] #[])) [(.t 44), (.t 45)]⟩,
      ⟨(some 47), none, .pick (.t 40) (.c (.bool true)) (.t 46)⟩] (some [1, 29, 30, 31, 47]))
    (.cond (.t 47)
     (.seq (.ops [⟨(some 2), none, .move (.c (.bool false))⟩] (some [2]))
     .ret)
     .skip)))))
   (.ops [⟨(some 48), none, .bin .add 3 (.t 31) (.c (.int .i64 1))⟩,
     ⟨(some 31), none, .move (.t 48)⟩] (some [1, 29, 30, 31]))))))))
 (.seq (.ops [⟨(some 2), none, .move (.c (.bool true))⟩] (some [2]))
 .ret)))), [.tmp 2]⟩

theorem is92 : FnIs Tryz.prog 92 x92 := ⟨Tryz.f92, _, Tryz.func92, by kernel_rfl, rfl, by kernel_rfl, by decide, by kernel_rfl⟩

/-- (*cloisonne/extent.World).Extents -/
def x93 : XDecl := .code ⟨1, 
 (.seq (.ops [⟨(some 2), none, .move (.c (.int .i64 0))⟩] (some [0]))
 (.seq (.seq (.ops [⟨(some 3), none, .move (.t 0)⟩,
   ⟨(some 4), none, .isNil .ptr false (.t 3)⟩] (some [0, 4]))
 (.cond (.t 4)
  (.seq (.ops [⟨(some 2), none, .move (.c (.int .i64 0))⟩] (some [2]))
  .ret)
  .skip))
 (.seq (.ops [⟨(some 5), none, .move (.t 0)⟩,
   ⟨(some 6), none, .nilCheck (.t 5)⟩,
   ⟨(some 7), none, .fieldAddr 2 (.t 6)⟩,
   ⟨(some 8), none, .load false 1 (.t 7)⟩,
   ⟨(some 9), none, .len (.t 8)⟩,
   ⟨(some 2), none, .move (.t 9)⟩] (some [2]))
 .ret))), [.tmp 2]⟩

theorem is93 : FnIs Tryz.prog 93 x93 := ⟨Tryz.f93, _, Tryz.func93, by kernel_rfl, rfl, by kernel_rfl, by decide, by kernel_rfl⟩

/-- (*cloisonne/extent.World).Sectors -/
def x94 : XDecl := .code ⟨1, 
 (.seq (.ops [⟨(some 2), none, .move (.c (.int .i64 0))⟩] (some [0]))
 (.seq (.seq (.ops [⟨(some 3), none, .move (.t 0)⟩,
   ⟨(some 4), none, .isNil .ptr false (.t 3)⟩] (some [0, 4]))
 (.cond (.t 4)
  (.seq (.ops [⟨(some 2), none, .move (.c (.int .i64 0))⟩] (some [2]))
  .ret)
  .skip))
 (.seq (.ops [⟨(some 5), none, .move (.t 0)⟩,
   ⟨(some 6), none, .nilCheck (.t 5)⟩,
   ⟨(some 7), none, .fieldAddr 1 (.t 6)⟩,
   ⟨(some 8), none, .load false 1 (.t 7)⟩,
   ⟨(some 2), none, .move (.t 8)⟩] (some [2]))
 .ret))), [.tmp 2]⟩

theorem is94 : FnIs Tryz.prog 94 x94 := ⟨Tryz.f94, _, Tryz.func94, by kernel_rfl, rfl, by kernel_rfl, by decide, by kernel_rfl⟩

/-- (*cloisonne/extent.World).On -/
def x95 : XDecl := .code ⟨1, 
 (.seq (.ops [⟨(some 2), none, .move (.c (.bool false))⟩] (some [0]))
 (.seq (.ops [⟨(some 3), none, .move (.t 0)⟩,
   ⟨(some 4), none, .isNil .ptr true (.t 3)⟩,
   ⟨(some 5), none, .move (.t 4)⟩,
   ⟨(some 6), (some (5, true)), .move (.t 0)⟩,
   ⟨(some 7), (some (5, true)), .nilCheck (.t 6)⟩,
   ⟨(some 8), (some (5, true)), .fieldAddr 0 (.t 7)⟩,
   ⟨(some 9), (some (5, true)), .load false 1 (.t 8)⟩,
   ⟨(some 10), (some (5, true)), .un .not (.t 9)⟩,
   ⟨(some 11), none, .pick (.t 5) (.t 10) (.c (.bool false))⟩,
   ⟨(some 2), none, .move (.t 11)⟩] (some [2]))
 .ret)), [.tmp 2]⟩

theorem is95 : FnIs Tryz.prog 95 x95 := ⟨Tryz.f95, _, Tryz.func95, by kernel_rfl, rfl, by kernel_rfl, by decide, by kernel_rfl⟩

/-- cloisonne/vault.copied -/
def x96 : XDecl := .code ⟨1, 
 (.seq (.ops [⟨(some 1), none, .box (.t 0)⟩,
   ⟨(some 2), none, .alloc [(.int .i64 0), (.int .i64 0), (.int .i64 0), (.slice none 0 0)]⟩] (some [1, 2]))
 (.seq (.ops [⟨(some 4), none, .fieldAddr 3 (.t 1)⟩,
   ⟨(some 5), none, .load false 1 (.t 4)⟩,
   ⟨(some 6), none, .call (.c (.func (.func 151) #[] #[])) [(.t 5)]⟩,
   ⟨(some 7), none, .fieldAddr 3 (.t 1)⟩,
   ⟨none, none, .store 1 (.t 7) (.t 6)⟩] (some [1, 2]))
 (.seq (.seq (.ops [⟨(some 8), none, .fieldAddr 3 (.t 1)⟩,
   ⟨(some 9), none, .load false 1 (.t 8)⟩,
   ⟨(some 10), none, .len (.t 9)⟩,
   ⟨(some 11), none, .move (.c (.int .i64 0))⟩] (some [1, 2, 10, 11]))
 (.block 0
  (.loop
   (.seq (.ops [⟨(some 12), none, .bin .lss 3 (.t 11) (.t 10)⟩] (some [1, 2, 10, 11, 12]))
   (.seq (.cond (.t 12)
    .skip
    (.exit 0))
   (.seq (.block 1
    (.seq (.ops [⟨(some 13), none, .move (.t 11)⟩,
      ⟨(some 3), none, .move (.t 13)⟩] (some [1, 2, 3, 10, 11]))
    (.opsd [(0, 0, ⟨(some 14), none, .fieldAddr 3 (.t 1)⟩),
      (1, 1, ⟨(some 15), none, .load false 1 (.t 14)⟩),
      (2, 0, ⟨(some 16), none, .move (.t 3)⟩),
      (3, 0, ⟨(some 17), none, .fieldAddr 3 (.t 1)⟩),
      (4, 8, ⟨(some 18), none, .load false 1 (.t 17)⟩),
      (5, 0, ⟨(some 19), none, .move (.t 3)⟩),
      (6, 56, ⟨(some 20), none, .indexAddr 4 (.t 18) (.t 19)⟩),
      (7, 120, ⟨(some 21), none, .fieldAddr 0 (.t 20)⟩),
      (8, 248, ⟨(some 22), none, .load false 1 (.t 21)⟩),
      (9, 504, ⟨(some 23), none, .call (.c (.func (.func 54) #[] #[])) [(.t 22)]⟩),
      (10, 1023, ⟨(some 24), none, .indexAddr 4 (.t 15) (.t 16)⟩),
      (11, 2047, ⟨(some 25), none, .fieldAddr 0 (.t 24)⟩),
      (12, 4095, ⟨none, none, .store 1 (.t 25) (.t 23)⟩)] (some [1, 2, 10, 11]))))
   (.ops [⟨(some 26), none, .bin .add 3 (.t 11) (.c (.int .i64 1))⟩,
     ⟨(some 11), none, .move (.t 26)⟩] (some [1, 2, 10, 11]))))))))
 (.seq (.ops [⟨(some 27), none, .load true 4 (.t 1)⟩,
   ⟨none, none, .store 4 (.t 2) (.t 27)⟩] (some [2]))
 .ret)))), [.cell true 4 2]⟩

theorem is96 : FnIs Tryz.prog 96 x96 := ⟨Tryz.f96, _, Tryz.func96, by kernel_rfl, rfl, by kernel_rfl, by decide, by kernel_rfl⟩

/-- (*cloisonne/vault.Vault).openTable -/
def x97 : XDecl := .code ⟨1, 
 (.seq (.ops [⟨(some 2), none, .move (.c (.int .i64 0))⟩] (some [0]))
 (.seq (.ops [⟨(some 12), none, .move (.t 0)⟩,
   ⟨(some 13), none, .nilCheck (.t 12)⟩,
   ⟨(some 14), none, .fieldAddr 4 (.t 13)⟩,
   ⟨(some 15), none, .load false 1 (.t 14)⟩,
   ⟨(some 16), none, .call (.c (.func (.func 152) #[] #[])) [(.t 15), (.c (.int .i64 0))]⟩,
   ⟨(some 11), none, .move (.t 16)⟩,
   ⟨(some 17), none, .extract (.t 11) 0⟩,
   ⟨(some 18), none, .extract (.t 11) 1⟩,
   ⟨(some 19), none, .extract (.t 11) 2⟩,
   ⟨(some 3), none, .move (.t 17)⟩,
   ⟨(some 4), none, .move (.t 18)⟩,
   ⟨(some 5), none, .move (.t 19)⟩] (some [0, 3, 4, 5]))
 (.seq (.seq (.ops [⟨(some 20), none, .move (.t 5)⟩,
   ⟨(some 21), none, .bin .neq 34 (.t 20) (.c (.int .i64 0))⟩] (some [0, 3, 4, 5, 21]))
 (.cond (.t 21)
  (.seq (.ops [⟨(some 22), none, .move (.t 5)⟩,
    ⟨(some 2), none, .move (.t 22)⟩] (some [2]))
  .ret)
  .skip))
 (.seq (.ops [⟨(some 23), none, .move (.t 0)⟩,
   ⟨(some 24), none, .move (.t 0)⟩,
   ⟨(some 25), none, .nilCheck (.t 24)⟩,
   ⟨(some 26), none, .fieldAddr 7 (.t 25)⟩,
   ⟨(some 27), none, .load false 1 (.t 26)⟩,
   ⟨(some 28), none, .move (.t 3)⟩,
   ⟨(some 29), none, .buildSlice [(.pointer none)] 1 1 [(0, (.t 28))]⟩,
   ⟨(some 30), none, .append 1 8 [(.pointer none)] (.t 27) (.t 29)⟩,
   ⟨(some 31), none, .nilCheck (.t 23)⟩,
   ⟨(some 32), none, .fieldAddr 7 (.t 31)⟩,
   ⟨none, none, .store 1 (.t 32) (.t 30)⟩] (some [0, 3, 4]))
 (.seq (.seq (.ops [⟨(some 33), none, .move (.t 3)⟩,
   ⟨(some 34), none, .call (.c (.func (.func 153) #[] #[])) [(.t 33)]⟩,
   ⟨(some 35), none, .bin .eql 3 (.t 34) (.c (.int .i64 0))⟩] (some [0, 3, 4, 35]))
 (.cond (.t 35)
  (.seq (.ops [⟨(some 37), none, .move (.t 0)⟩,
    ⟨(some 38), none, .nilCheck (.t 37)⟩,
    ⟨(some 39), none, .fieldAddr 0 (.t 38)⟩,
    ⟨(some 40), none, .fieldAddr 0 (.t 39)⟩,
    ⟨(some 41), none, .load false 1 (.t 40)⟩,
    ⟨(some 42), none, .call (.c (.func (.func 154) #[] #[])) [(.t 41)]⟩,
    ⟨(some 36), none, .move (.t 42)⟩,
    ⟨(some 43), none, .extract (.t 36) 0⟩,
    ⟨(some 44), none, .extract (.t 36) 1⟩,
    ⟨(some 6), none, .move (.t 43)⟩,
    ⟨(some 7), none, .move (.t 44)⟩] (some [0, 3, 6, 7]))
  (.seq (.seq (.ops [⟨(some 45), none, .move (.t 7)⟩,
    ⟨(some 46), none, .bin .neq 34 (.t 45) (.c (.int .i64 0))⟩] (some [0, 3, 6, 7, 46]))
  (.cond (.t 46)
   (.seq (.ops [⟨(some 47), none, .move (.t 7)⟩,
     ⟨(some 2), none, .move (.t 47)⟩] (some [2]))
   .ret)
   .skip))
  (.seq (.ops [⟨(some 49), none, .move (.t 6)⟩,
    ⟨(some 50), none, .call (.c (.func (.func 155) #[] #[])) [(.t 49)]⟩,
    ⟨(some 48), none, .move (.t 50)⟩,
    ⟨(some 51), none, .extract (.t 48) 0⟩,
    ⟨(some 52), none, .extract (.t 48) 1⟩,
    ⟨(some 8), none, .move (.t 51)⟩,
    ⟨(some 7), none, .move (.t 52)⟩] (some [0, 3, 6, 7, 8]))
  (.seq (.seq (.ops [⟨(some 53), none, .move (.t 7)⟩,
    ⟨(some 54), none, .bin .neq 34 (.t 53) (.c (.int .i64 0))⟩] (some [0, 3, 6, 7, 8, 54]))
  (.cond (.t 54)
   (.seq (.ops [⟨(some 55), none, .move (.t 7)⟩,
     ⟨(some 2), none, .move (.t 55)⟩] (some [2]))
   .ret)
   .skip))
  (.seq (.ops [⟨(some 56), none, .move (.t 0)⟩,
    ⟨(some 57), none, .move (.t 6)⟩,
    ⟨(some 58), none, .nilCheck (.t 56)⟩,
    ⟨(some 59), none, .fieldAddr 5 (.t 58)⟩,
    ⟨none, none, .store 1 (.t 59) (.t 57)⟩] (some [3, 8]))
  (.seq (.ops [⟨(some 60), none, .move (.t 3)⟩,
    ⟨(some 61), none, .move (.t 8)⟩,
    ⟨(some 62), none, .call (.c (.func (.func 156) #[] #[])) [(.t 60), (.t 61)]⟩,
    ⟨(some 2), none, .move (.t 62)⟩] (some [2]))
  .ret))))))
  .skip))
 (.seq (.ops [⟨(some 64), none, .move (.t 0)⟩,
   ⟨(some 65), none, .nilCheck (.t 64)⟩,
   ⟨(some 66), none, .fieldAddr 0 (.t 65)⟩,
   ⟨(some 67), none, .fieldAddr 0 (.t 66)⟩,
   ⟨(some 68), none, .load false 1 (.t 67)⟩,
   ⟨(some 69), none, .move (.t 4)⟩,
   ⟨(some 70), none, .call (.c (.func (.func 157) #[] #[])) [(.t 68), (.t 69)]⟩,
   ⟨(some 63), none, .move (.t 70)⟩,
   ⟨(some 71), none, .extract (.t 63) 0⟩,
   ⟨(some 72), none, .extract (.t 63) 1⟩,
   ⟨(some 9), none, .move (.t 71)⟩,
   ⟨(some 10), none, .move (.t 72)⟩] (some [0, 9, 10]))
 (.seq (.seq (.ops [⟨(some 73), none, .move (.t 10)⟩,
   ⟨(some 74), none, .un .not (.t 73)⟩] (some [0, 9, 74]))
 (.cond (.t 74)
  (.seq (.ops [⟨(some 2), none, .move (.c (.int .i64 19))⟩] (some [2]))
  .ret)
  .skip))
 (.seq (.ops [⟨(some 75), none, .move (.t 0)⟩,
   ⟨(some 76), none, .move (.t 9)⟩,
   ⟨(some 77), none, .nilCheck (.t 75)⟩,
   ⟨(some 78), none, .fieldAddr 5 (.t 77)⟩,
   ⟨none, none, .store 1 (.t 78) (.t 76)⟩] (some []))
 (.seq (.ops [⟨(some 2), none, .move (.c (.int .i64 0))⟩] (some [2]))
 .ret))))))))), [.tmp 2]⟩

theorem is97 : FnIs Tryz.prog 97 x97 := ⟨Tryz.f97, _, Tryz.func97, by kernel_rfl, rfl, by kernel_rfl, by decide, by kernel_rfl⟩

/-- (*cloisonne/vault.Vault).openRoom -/
def x98 : XDecl := .code ⟨2, 
 (.seq (.ops [⟨(some 3), none, .box (.t 1)⟩,
   ⟨(some 4), none, .move (.c (.int .i64 0))⟩] (some [0, 3]))
 (.seq (.opsd [(0, 0, ⟨(some 14), none, .move (.t 0)⟩),
   (1, 1, ⟨(some 15), none, .nilCheck (.t 14)⟩),
   (2, 3, ⟨(some 16), none, .fieldAddr 4 (.t 15)⟩),
   (3, 7, ⟨(some 17), none, .load false 1 (.t 16)⟩),
   (4, 0, ⟨(some 18), none, .move (.t 0)⟩),
   (5, 16, ⟨(some 19), none, .nilCheck (.t 18)⟩),
   (6, 48, ⟨(some 20), none, .fieldAddr 7 (.t 19)⟩),
   (7, 112, ⟨(some 21), none, .load false 1 (.t 20)⟩),
   (8, 240, ⟨(some 22), none, .len (.t 21)⟩),
   (9, 496, ⟨(some 23), none, .bin .mul 3 (.c (.int .i64 2)) (.t 22)⟩),
   (10, 1023, ⟨(some 24), none, .call (.c (.func (.func 152) #[] #[])) [(.t 17), (.t 23)]⟩),
   (11, 2047, ⟨(some 13), none, .move (.t 24)⟩),
   (12, 4095, ⟨(some 25), none, .extract (.t 13) 0⟩),
   (13, 4095, ⟨(some 26), none, .extract (.t 13) 1⟩),
   (14, 4095, ⟨(some 27), none, .extract (.t 13) 2⟩),
   (15, 8191, ⟨(some 5), none, .move (.t 25)⟩),
   (16, 49151, ⟨(some 6), none, .move (.t 26)⟩),
   (17, 131071, ⟨(some 7), none, .move (.t 27)⟩)] (some [0, 3, 5, 6, 7]))
 (.seq (.seq (.ops [⟨(some 28), none, .move (.t 7)⟩,
   ⟨(some 29), none, .bin .neq 34 (.t 28) (.c (.int .i64 0))⟩] (some [0, 3, 5, 6, 7, 29]))
 (.cond (.t 29)
  (.seq (.ops [⟨(some 30), none, .move (.t 7)⟩,
    ⟨(some 4), none, .move (.t 30)⟩] (some [4]))
  .ret)
  .skip))
 (.seq (.ops [⟨(some 31), none, .move (.t 0)⟩,
   ⟨(some 32), none, .move (.t 0)⟩,
   ⟨(some 33), none, .nilCheck (.t 32)⟩,
   ⟨(some 34), none, .fieldAddr 7 (.t 33)⟩,
   ⟨(some 35), none, .load false 1 (.t 34)⟩,
   ⟨(some 36), none, .move (.t 5)⟩,
   ⟨(some 37), none, .buildSlice [(.pointer none)] 1 1 [(0, (.t 36))]⟩,
   ⟨(some 38), none, .append 1 8 [(.pointer none)] (.t 35) (.t 37)⟩,
   ⟨(some 39), none, .nilCheck (.t 31)⟩,
   ⟨(some 40), none, .fieldAddr 7 (.t 39)⟩,
   ⟨none, none, .store 1 (.t 40) (.t 38)⟩] (some [0, 3, 5, 6]))
 (.seq (.seq (.ops [⟨(some 41), none, .move (.t 5)⟩,
   ⟨(some 42), none, .call (.c (.func (.func 153) #[] #[])) [(.t 41)]⟩,
   ⟨(some 43), none, .bin .eql 3 (.t 42) (.c (.int .i64 0))⟩] (some [0, 3, 5, 6, 43]))
 (.cond (.t 43)
  (.seq (.ops [⟨(some 45), none, .load true 4 (.t 3)⟩,
    ⟨(some 46), none, .call (.c (.func (.func 158) #[] #[])) [(.t 45)]⟩,
    ⟨(some 44), none, .move (.t 46)⟩,
    ⟨(some 47), none, .extract (.t 44) 0⟩,
    ⟨(some 48), none, .extract (.t 44) 1⟩,
    ⟨(some 8), none, .move (.t 47)⟩,
    ⟨(some 9), none, .move (.t 48)⟩] (some [0, 5, 8, 9]))
  (.seq (.seq (.ops [⟨(some 49), none, .move (.t 9)⟩,
    ⟨(some 50), none, .bin .neq 34 (.t 49) (.c (.int .i64 0))⟩] (some [0, 5, 8, 9, 50]))
  (.cond (.t 50)
   (.seq (.ops [⟨(some 51), none, .move (.t 9)⟩,
     ⟨(some 4), none, .move (.t 51)⟩] (some [4]))
   .ret)
   .skip))
  (.seq (.ops [⟨(some 53), none, .call (.c (.func (.func 159) #[] #[])) [(.c (.int .i64 0)), (.c (.slice none 0 0))]⟩,
    ⟨(some 52), none, .move (.t 53)⟩,
    ⟨(some 54), none, .extract (.t 52) 0⟩,
    ⟨(some 55), none, .extract (.t 52) 1⟩,
    ⟨(some 10), none, .move (.t 54)⟩,
    ⟨(some 9), none, .move (.t 55)⟩] (some [0, 5, 8, 9, 10]))
  (.seq (.seq (.ops [⟨(some 56), none, .move (.t 9)⟩,
    ⟨(some 57), none, .bin .neq 34 (.t 56) (.c (.int .i64 0))⟩] (some [0, 5, 8, 9, 10, 57]))
  (.cond (.t 57)
   (.seq (.ops [⟨(some 58), none, .move (.t 9)⟩,
     ⟨(some 4), none, .move (.t 58)⟩] (some [4]))
   .ret)
   .skip))
  (.seq (.ops [⟨(some 59), none, .move (.t 0)⟩,
    ⟨(some 60), none, .move (.t 0)⟩,
    ⟨(some 61), none, .nilCheck (.t 60)⟩,
    ⟨(some 62), none, .fieldAddr 6 (.t 61)⟩,
    ⟨(some 63), none, .load false 1 (.t 62)⟩,
    ⟨(some 64), none, .move (.t 8)⟩,
    ⟨(some 65), none, .buildSlice [(.pointer none)] 1 1 [(0, (.t 64))]⟩,
    ⟨(some 66), none, .append 1 8 [(.pointer none)] (.t 63) (.t 65)⟩,
    ⟨(some 67), none, .nilCheck (.t 59)⟩,
    ⟨(some 68), none, .fieldAddr 6 (.t 67)⟩,
    ⟨none, none, .store 1 (.t 68) (.t 66)⟩] (some [5, 10]))
  (.seq (.ops [⟨(some 69), none, .move (.t 5)⟩,
    ⟨(some 70), none, .move (.t 10)⟩,
    ⟨(some 71), none, .call (.c (.func (.func 156) #[] #[])) [(.t 69), (.t 70)]⟩,
    ⟨(some 4), none, .move (.t 71)⟩] (some [4]))
  .ret))))))
  .skip))
 (.seq (.ops [⟨(some 73), none, .load true 4 (.t 3)⟩,
   ⟨(some 74), none, .move (.t 6)⟩,
   ⟨(some 75), none, .call (.c (.func (.func 160) #[] #[])) [(.t 73), (.t 74)]⟩,
   ⟨(some 72), none, .move (.t 75)⟩,
   ⟨(some 76), none, .extract (.t 72) 0⟩,
   ⟨(some 77), none, .extract (.t 72) 1⟩,
   ⟨(some 11), none, .move (.t 76)⟩,
   ⟨(some 12), none, .move (.t 77)⟩] (some [0, 11, 12]))
 (.seq (.seq (.ops [⟨(some 78), none, .move (.t 12)⟩,
   ⟨(some 79), none, .un .not (.t 78)⟩] (some [0, 11, 79]))
 (.cond (.t 79)
  (.seq (.ops [⟨(some 4), none, .move (.c (.int .i64 19))⟩] (some [4]))
  .ret)
  .skip))
 (.seq (.ops [⟨(some 80), none, .move (.t 0)⟩,
   ⟨(some 81), none, .move (.t 0)⟩,
   ⟨(some 82), none, .nilCheck (.t 81)⟩,
   ⟨(some 83), none, .fieldAddr 6 (.t 82)⟩,
   ⟨(some 84), none, .load false 1 (.t 83)⟩,
   ⟨(some 85), none, .move (.t 11)⟩,
   ⟨(some 86), none, .buildSlice [(.pointer none)] 1 1 [(0, (.t 85))]⟩,
   ⟨(some 87), none, .append 1 8 [(.pointer none)] (.t 84) (.t 86)⟩,
   ⟨(some 88), none, .nilCheck (.t 80)⟩,
   ⟨(some 89), none, .fieldAddr 6 (.t 88)⟩,
   ⟨none, none, .store 1 (.t 89) (.t 87)⟩] (some []))
 (.seq (.ops [⟨(some 4), none, .move (.c (.int .i64 0))⟩] (some [4]))
 .ret))))))))), [.tmp 4]⟩

theorem is98 : FnIs Tryz.prog 98 x98 := ⟨Tryz.f98, _, Tryz.func98, by kernel_rfl, rfl, by kernel_rfl, by decide, by kernel_rfl⟩

/-- cloisonne/sess.as -/
def x99 : XDecl := .code ⟨1, 
 (.seq (.ops [⟨(some 2), none, .alloc [(.int .i64 0), (.int .u64 0), (.bool false), (.bool false), (.string .empty), (.int .u64 0), (.slice none 0 0), (.int .i64 0), (.int .u64 0), (.int .u64 0), (.int .u64 0), (.int .u64 0)]⟩] (some [0, 2]))
 (.seq (.ops [⟨(some 3), none, .move (.t 0)⟩,
   ⟨(some 4), none, .build [(.int .i64 0), (.int .u64 0), (.bool false), (.bool false), (.string .empty), (.int .u64 0), (.slice none 0 0), (.int .i64 0), (.int .u64 0), (.int .u64 0), (.int .u64 0), (.int .u64 0)] [(0, 1), (1, 1), (2, 1), (3, 3), (6, 1), (7, 5)] [(0, (.t 3))]⟩,
   ⟨none, none, .store 12 (.t 2) (.t 4)⟩] (some [2]))
 .ret)), [.cell true 12 2]⟩

theorem is99 : FnIs Tryz.prog 99 x99 := ⟨Tryz.f99, _, Tryz.func99, by kernel_rfl, rfl, by kernel_rfl, by decide, by kernel_rfl⟩

/-- (*cloisonne/sess.Session).outside -/
def x100 : XDecl := .code ⟨2, 
 (.seq (.ops [⟨(some 3), none, .box (.t 1)⟩,
   ⟨(some 4), none, .alloc [(.int .i64 0), (.int .u64 0), (.bool false), (.bool false), (.string .empty), (.int .u64 0), (.slice none 0 0), (.int .i64 0), (.int .u64 0), (.int .u64 0), (.int .u64 0), (.int .u64 0)]⟩,
   ⟨(some 5), none, .move (.c (.bool false))⟩] (some [0, 3, 4]))
 (.seq (.seq (.ops [⟨(some 6), none, .fieldAddr 0 (.t 3)⟩,
   ⟨(some 7), none, .load false 1 (.t 6)⟩] (some [0, 3, 4, 7]))
 (.block 0
  (.seq (.ops [⟨(some 9), none, .bin .eql 3 (.t 7) (.c (.int .i64 1))⟩,
    ⟨(some 8), none, .move (.t 9)⟩] (some [0, 3, 4, 7, 8]))
  (.cond (.t 8)
   (.seq (.ops [⟨(some 10), none, .move (.t 0)⟩,
     ⟨(some 11), none, .load true 15 (.t 3)⟩,
     ⟨(some 12), none, .call (.c (.func (.func 161) #[] #[])) [(.t 10), (.t 11)]⟩,
     ⟨none, none, .store 12 (.t 4) (.t 12)⟩,
     ⟨(some 5), none, .move (.c (.bool true))⟩] (some [4, 5]))
   .ret)
   (.seq (.ops [⟨(some 14), none, .bin .eql 3 (.t 7) (.c (.int .i64 2))⟩,
     ⟨(some 13), none, .move (.t 14)⟩] (some [0, 3, 4, 7, 13]))
   (.cond (.t 13)
    (.seq (.ops [⟨(some 15), none, .move (.t 0)⟩,
      ⟨(some 16), none, .move (.t 0)⟩,
      ⟨(some 17), none, .nilCheck (.t 15)⟩,
      ⟨(some 18), none, .fieldAddr 3 (.t 17)⟩,
      ⟨none, none, .store 1 (.t 18) (.c (.bool false))⟩,
      ⟨(some 19), none, .nilCheck (.t 16)⟩,
      ⟨(some 20), none, .fieldAddr 6 (.t 19)⟩,
      ⟨none, none, .store 1 (.t 20) (.c (.pointer none))⟩] (some [4]))
    (.seq (.ops [⟨(some 21), none, .call (.c (.func (.func 99) #[] #[])) [(.c (.int .i64 0))]⟩,
      ⟨none, none, .store 12 (.t 4) (.t 21)⟩,
      ⟨(some 5), none, .move (.c (.bool true))⟩] (some [4, 5]))
    .ret))
    (.seq (.ops [⟨(some 23), none, .bin .eql 3 (.t 7) (.c (.int .i64 3))⟩,
      ⟨(some 22), none, .move (.t 23)⟩] (some [0, 3, 4, 7, 22]))
    (.cond (.t 22)
     (.seq (.ops [⟨(some 24), none, .move (.t 0)⟩,
       ⟨(some 25), none, .fieldAddr 2 (.t 3)⟩,
       ⟨(some 26), none, .load false 1 (.t 25)⟩,
       ⟨(some 27), none, .call (.c (.func (.func 162) #[] #[])) [(.t 24), (.t 26)]⟩,
       ⟨(some 28), none, .call (.c (.func (.func 99) #[] #[])) [(.t 27)]⟩,
       ⟨none, none, .store 12 (.t 4) (.t 28)⟩,
       ⟨(some 5), none, .move (.c (.bool true))⟩] (some [4, 5]))
     .ret)
     (.seq (.ops [⟨(some 30), none, .bin .eql 3 (.t 7) (.c (.int .i64 4))⟩,
       ⟨(some 29), none, .move (.t 30)⟩] (some [0, 3, 4, 7, 29]))
     (.cond (.t 29)
      (.seq (.ops [⟨(some 31), none, .move (.t 0)⟩,
        ⟨(some 32), none, .load true 15 (.t 3)⟩,
        ⟨(some 33), none, .call (.c (.func (.func 163) #[] #[])) [(.t 31), (.t 32)]⟩,
        ⟨none, none, .store 12 (.t 4) (.t 33)⟩,
        ⟨(some 5), none, .move (.c (.bool true))⟩] (some [4, 5]))
      .ret)
      (.seq (.ops [⟨(some 35), none, .bin .eql 3 (.t 7) (.c (.int .i64 7))⟩,
        ⟨(some 34), none, .move (.t 35)⟩] (some [0, 4, 34]))
      (.cond (.t 34)
       (.seq (.seq (.ops [⟨(some 36), none, .move (.t 0)⟩,
         ⟨(some 37), none, .nilCheck (.t 36)⟩,
         ⟨(some 38), none, .fieldAddr 6 (.t 37)⟩,
         ⟨(some 39), none, .load false 1 (.t 38)⟩,
         ⟨(some 40), none, .isNil .ptr true (.t 39)⟩] (some [0, 4, 40]))
       (.cond (.t 40)
        (.seq (.ops [⟨(some 41), none, .call (.c (.func (.func 99) #[] #[])) [(.c (.int .i64 8))]⟩,
          ⟨none, none, .store 12 (.t 4) (.t 41)⟩,
          ⟨(some 5), none, .move (.c (.bool true))⟩] (some [4, 5]))
        .ret)
        .skip))
       (.seq (.ops [⟨(some 42), none, .move (.t 0)⟩,
         ⟨(some 43), none, .move (.t 0)⟩,
         ⟨(some 44), none, .nilCheck (.t 43)⟩,
         ⟨(some 45), none, .fieldAddr 0 (.t 44)⟩,
         ⟨(some 46), none, .load false 1 (.t 45)⟩,
         ⟨(some 47), none, .call (.c (.func (.func 164) #[] #[])) [(.t 46)]⟩,
         ⟨(some 48), none, .call (.c (.func (.func 165) #[] #[])) []⟩,
         ⟨(some 49), none, .build [(.int .u64 0), (.pointer none), (.int .i64 0)] [(0, 1), (1, 1), (2, 1)] [(0, (.t 47)), (1, (.t 48)), (2, (.c (.int .i64 (-1))))]⟩,
         ⟨(some 50), none, .box (.t 49)⟩,
         ⟨(some 51), none, .nilCheck (.t 42)⟩,
         ⟨(some 52), none, .fieldAddr 6 (.t 51)⟩,
         ⟨none, none, .store 1 (.t 52) (.t 50)⟩] (some [4]))
       (.seq (.ops [⟨(some 53), none, .call (.c (.func (.func 99) #[] #[])) [(.c (.int .i64 0))]⟩,
         ⟨none, none, .store 12 (.t 4) (.t 53)⟩,
         ⟨(some 5), none, .move (.c (.bool true))⟩] (some [4, 5]))
       .ret)))
       .skip))))))))))))
 (.seq (.ops [⟨(some 54), none, .build [(.int .i64 0), (.int .u64 0), (.bool false), (.bool false), (.string .empty), (.int .u64 0), (.slice none 0 0), (.int .i64 0), (.int .u64 0), (.int .u64 0), (.int .u64 0), (.int .u64 0)] [(0, 1), (1, 1), (2, 1), (3, 3), (6, 1), (7, 5)] []⟩,
   ⟨none, none, .store 12 (.t 4) (.t 54)⟩,
   ⟨(some 5), none, .move (.c (.bool false))⟩] (some [4, 5]))
 .ret))), [.cell true 12 4, .tmp 5]⟩

theorem is100 : FnIs Tryz.prog 100 x100 := ⟨Tryz.f100, _, Tryz.func100, by kernel_rfl, rfl, by kernel_rfl, by decide, by kernel_rfl⟩

/-- (*cloisonne/sess.Session).work -/
def x101 : XDecl := .code ⟨1, 
 (.seq (.ops [⟨(some 2), none, .move (.c (.int .i64 0))⟩,
   ⟨(some 3), none, .alloc [(.int .i64 0), (.int .u64 0), (.bool false), (.bool false), (.string .empty), (.int .u64 0), (.slice none 0 0), (.int .i64 0), (.int .u64 0), (.int .u64 0), (.int .u64 0), (.int .u64 0)]⟩,
   ⟨(some 4), none, .move (.c (.int .i64 0))⟩] (some [0, 3]))
 (.seq (.ops [⟨(some 12), none, .move (.t 0)⟩,
   ⟨(some 13), none, .nilCheck (.t 12)⟩,
   ⟨(some 14), none, .fieldAddr 7 (.t 13)⟩,
   ⟨(some 15), none, .load false 1 (.t 14)⟩,
   ⟨(some 5), none, .move (.t 15)⟩] (some [0, 3, 5]))
 (.seq (.seq (.ops [⟨(some 16), none, .move (.t 5)⟩,
   ⟨(some 17), none, .nilCheck (.t 16)⟩,
   ⟨(some 18), none, .fieldAddr 17 (.t 17)⟩,
   ⟨(some 19), none, .load false 1 (.t 18)⟩,
   ⟨(some 20), none, .isNil .ptr false (.t 19)⟩] (some [0, 3, 5, 20]))
 (.cond (.t 20)
  (.seq (.ops [⟨(some 22), none, .move (.t 0)⟩,
    ⟨(some 23), none, .move (.t 5)⟩,
    ⟨(some 24), none, .nilCheck (.t 23)⟩,
    ⟨(some 25), none, .fieldAddr 0 (.t 24)⟩,
    ⟨(some 26), none, .load true 15 (.t 25)⟩,
    ⟨(some 27), none, .call (.c (.func (.func 166) #[] #[])) [(.t 22), (.t 26)]⟩,
    ⟨(some 21), none, .move (.t 27)⟩,
    ⟨(some 28), none, .extract (.t 21) 0⟩,
    ⟨(some 29), none, .extract (.t 21) 1⟩,
    ⟨(some 7), none, .alloc [(.int .i64 0), (.int .u64 0), (.bool false), (.bool false), (.string .empty), (.int .u64 0), (.slice none 0 0), (.int .i64 0), (.int .u64 0), (.int .u64 0), (.int .u64 0), (.int .u64 0)]⟩,
    ⟨(some 6), none, .move (.t 28)⟩,
    ⟨none, none, .store 12 (.t 7) (.t 29)⟩] (some [3, 5, 6, 7]))
  (.seq (.seq (.ops [⟨(some 30), none, .move (.t 6)⟩,
    ⟨(some 31), none, .isNil .ptr false (.t 30)⟩] (some [3, 5, 6, 7, 31]))
  (.cond (.t 31)
   (.seq (.opsd [(0, 0, ⟨(some 32), none, .load true 12 (.t 7)⟩),
     (1, 0, ⟨(some 2), none, .move (.c (.int .i64 2))⟩),
     (2, 3, ⟨none, none, .store 12 (.t 3) (.t 32)⟩),
     (3, 7, ⟨(some 4), none, .move (.c (.int .i64 0))⟩)] (some [2, 3, 4]))
   .ret)
   .skip))
  (.ops [⟨(some 33), none, .move (.t 5)⟩,
    ⟨(some 34), none, .move (.t 6)⟩,
    ⟨(some 35), none, .nilCheck (.t 33)⟩,
    ⟨(some 36), none, .fieldAddr 17 (.t 35)⟩,
    ⟨none, none, .store 1 (.t 36) (.t 34)⟩] (some [3, 5]))))
  .skip))
 (.seq (.ops [⟨(some 38), none, .move (.t 5)⟩,
   ⟨(some 39), none, .nilCheck (.t 38)⟩,
   ⟨(some 40), none, .fieldAddr 17 (.t 39)⟩,
   ⟨(some 41), none, .load false 1 (.t 40)⟩,
   ⟨(some 42), none, .call (.c (.func (.func 126) #[] #[])) [(.t 41)]⟩,
   ⟨(some 37), none, .move (.t 42)⟩,
   ⟨(some 43), none, .extract (.t 37) 0⟩,
   ⟨(some 44), none, .extract (.t 37) 1⟩,
   ⟨(some 8), none, .move (.t 43)⟩,
   ⟨(some 9), none, .move (.t 44)⟩] (some [3, 5, 8, 9]))
 (.seq (.seq (.ops [⟨(some 45), none, .move (.t 9)⟩,
   ⟨(some 46), none, .bin .neq 34 (.t 45) (.c (.int .i64 0))⟩,
   ⟨(some 47), none, .move (.t 46)⟩,
   ⟨(some 48), (some (47, false)), .move (.t 8)⟩,
   ⟨(some 49), (some (47, false)), .bin .neq 3 (.t 48) (.c (.int .i64 2))⟩,
   ⟨(some 50), none, .pick (.t 47) (.c (.bool true)) (.t 49)⟩] (some [3, 5, 8, 9, 50]))
 (.cond (.t 50)
  (.seq (.ops [⟨(some 51), none, .move (.t 8)⟩,
    ⟨(some 52), none, .build [(.int .i64 0), (.int .u64 0), (.bool false), (.bool false), (.string .empty), (.int .u64 0), (.slice none 0 0), (.int .i64 0), (.int .u64 0), (.int .u64 0), (.int .u64 0), (.int .u64 0)] [(0, 1), (1, 1), (2, 1), (3, 3), (6, 1), (7, 5)] []⟩,
    ⟨(some 53), none, .move (.t 9)⟩,
    ⟨(some 2), none, .move (.t 51)⟩,
    ⟨none, none, .store 12 (.t 3) (.t 52)⟩,
    ⟨(some 4), none, .move (.t 53)⟩] (some [2, 3, 4]))
  .ret)
  .skip))
 (.seq (.ops [⟨(some 55), none, .move (.t 5)⟩,
   ⟨(some 56), none, .nilCheck (.t 55)⟩,
   ⟨(some 57), none, .fieldAddr 17 (.t 56)⟩,
   ⟨(some 58), none, .load false 1 (.t 57)⟩,
   ⟨(some 59), none, .call (.c (.func (.func 127) #[] #[])) [(.t 58)]⟩,
   ⟨(some 54), none, .move (.t 59)⟩,
   ⟨(some 60), none, .extract (.t 54) 0⟩,
   ⟨(some 61), none, .extract (.t 54) 1⟩,
   ⟨(some 62), none, .extract (.t 54) 2⟩,
   ⟨(some 10), none, .move (.t 60)⟩,
   ⟨(some 9), none, .move (.t 61)⟩,
   ⟨(some 11), none, .move (.t 62)⟩] (some [3, 9, 10]))
 (.seq (.ops [⟨(some 63), none, .move (.t 9)⟩,
   ⟨(some 64), none, .move (.t 10)⟩,
   ⟨(some 65), none, .build [(.int .i64 0), (.int .u64 0), (.bool false), (.bool false), (.string .empty), (.int .u64 0), (.slice none 0 0), (.int .i64 0), (.int .u64 0), (.int .u64 0), (.int .u64 0), (.int .u64 0)] [(0, 1), (1, 1), (2, 1), (3, 3), (6, 1), (7, 5)] [(0, (.t 63)), (1, (.t 64))]⟩,
   ⟨(some 2), none, .move (.c (.int .i64 2))⟩,
   ⟨none, none, .store 12 (.t 3) (.t 65)⟩,
   ⟨(some 4), none, .move (.c (.int .i64 0))⟩] (some [2, 3, 4]))
 .ret))))))), [.tmp 2, .cell true 12 3, .tmp 4]⟩

theorem is101 : FnIs Tryz.prog 101 x101 := ⟨Tryz.f101, _, Tryz.func101, by kernel_rfl, rfl, by kernel_rfl, by decide, by kernel_rfl⟩

/-- (*cloisonne/sess.Session).inside -/
def x103 : XDecl := .code ⟨2, 
 (.seq (.ops [⟨(some 3), none, .box (.t 1)⟩,
   ⟨(some 4), none, .alloc [(.int .i64 0), (.int .u64 0), (.bool false), (.bool false), (.string .empty), (.int .u64 0), (.slice none 0 0), (.int .i64 0), (.int .u64 0), (.int .u64 0), (.int .u64 0), (.int .u64 0)]⟩] (some [0, 3, 4]))
 (.seq (.seq (.ops [⟨(some 5), none, .fieldAddr 0 (.t 3)⟩,
   ⟨(some 6), none, .load false 1 (.t 5)⟩] (some [0, 3, 4, 6]))
 (.block 0
  (.seq (.ops [⟨(some 8), none, .bin .eql 3 (.t 6) (.c (.int .i64 8))⟩,
    ⟨(some 7), none, .move (.t 8)⟩] (some [0, 3, 4, 6, 7]))
  (.cond (.t 7)
   (.seq (.ops [⟨(some 9), none, .move (.t 0)⟩,
     ⟨(some 10), none, .load true 15 (.t 3)⟩,
     ⟨(some 11), none, .call (.c (.func (.func 171) #[] #[])) [(.t 9), (.t 10)]⟩,
     ⟨none, none, .store 12 (.t 4) (.t 11)⟩] (some [4]))
   .ret)
   (.seq (.seq (.ops [⟨(some 13), none, .bin .eql 3 (.t 6) (.c (.int .i64 9))⟩,
     ⟨(some 12), none, .move (.t 13)⟩] (some [0, 3, 4, 6, 12]))
   (.cond (.t 12)
    .skip
    (.ops [⟨(some 14), none, .bin .eql 3 (.t 6) (.c (.int .i64 10))⟩,
      ⟨(some 12), none, .move (.t 14)⟩] (some [0, 3, 4, 6, 12]))))
   (.cond (.t 12)
    (.seq (.ops [⟨(some 15), none, .move (.t 0)⟩,
      ⟨(some 16), none, .load true 15 (.t 3)⟩,
      ⟨(some 17), none, .call (.c (.func (.func 172) #[] #[])) [(.t 15), (.t 16)]⟩,
      ⟨none, none, .store 12 (.t 4) (.t 17)⟩] (some [4]))
    .ret)
    (.seq (.ops [⟨(some 19), none, .bin .eql 3 (.t 6) (.c (.int .i64 16))⟩,
      ⟨(some 18), none, .move (.t 19)⟩] (some [0, 3, 4, 6, 18]))
    (.cond (.t 18)
     (.seq (.ops [⟨(some 20), none, .move (.t 0)⟩,
       ⟨(some 21), none, .load true 15 (.t 3)⟩,
       ⟨(some 22), none, .call (.c (.func (.func 173) #[] #[])) [(.t 20), (.t 21)]⟩,
       ⟨none, none, .store 12 (.t 4) (.t 22)⟩] (some [4]))
     .ret)
     (.seq (.seq (.ops [⟨(some 24), none, .bin .eql 3 (.t 6) (.c (.int .i64 12))⟩,
       ⟨(some 23), none, .move (.t 24)⟩] (some [0, 3, 4, 6, 23]))
     (.cond (.t 23)
      .skip
      (.ops [⟨(some 25), none, .bin .eql 3 (.t 6) (.c (.int .i64 13))⟩,
        ⟨(some 23), none, .move (.t 25)⟩] (some [0, 3, 4, 23]))))
     (.cond (.t 23)
      (.seq (.ops [⟨(some 26), none, .move (.t 0)⟩,
        ⟨(some 27), none, .load true 15 (.t 3)⟩,
        ⟨(some 28), none, .call (.c (.func (.func 174) #[] #[])) [(.t 26), (.t 27)]⟩,
        ⟨none, none, .store 12 (.t 4) (.t 28)⟩] (some [4]))
      .ret)
      .skip))))))))))
 (.seq (.ops [⟨(some 29), none, .move (.t 0)⟩,
   ⟨(some 30), none, .nilCheck (.t 29)⟩,
   ⟨(some 31), none, .fieldAddr 6 (.t 30)⟩,
   ⟨none, none, .store 1 (.t 31) (.c (.pointer none))⟩] (some [4]))
 (.seq (.ops [⟨(some 32), none, .call (.c (.func (.func 99) #[] #[])) [(.c (.int .i64 0))]⟩,
   ⟨none, none, .store 12 (.t 4) (.t 32)⟩] (some [4]))
 .ret)))), [.cell true 12 4]⟩

theorem is103 : FnIs Tryz.prog 103 x103 := ⟨Tryz.f103, _, Tryz.func103, by kernel_rfl, rfl, by kernel_rfl, by decide, by kernel_rfl⟩

/-- cloisonne/ask.fields -/
def x104 : XDecl := .code ⟨1, 
 (.seq (.ops [⟨(some 2), none, .move (.c (.slice none 0 0))⟩] (some [0]))
 (.seq (.seq (.ops [⟨(some 3), none, .move (.t 0)⟩] (some [3]))
 (.block 0
  (.seq (.ops [⟨(some 5), none, .bin .eql 3 (.t 3) (.c (.int .i64 1))⟩,
    ⟨(some 4), none, .move (.t 5)⟩] (some [3, 4]))
  (.cond (.t 4)
   (.seq (.ops [⟨(some 6), none, .buildSlice [(.int .i64 0)] 1 1 [(0, (.c (.int .i64 0)))]⟩,
     ⟨(some 2), none, .move (.t 6)⟩] (some [2]))
   .ret)
   (.seq (.ops [⟨(some 8), none, .bin .eql 3 (.t 3) (.c (.int .i64 3))⟩,
     ⟨(some 7), none, .move (.t 8)⟩] (some [3, 7]))
   (.cond (.t 7)
    (.seq (.ops [⟨(some 9), none, .buildSlice [(.int .i64 0)] 1 1 [(0, (.c (.int .i64 1)))]⟩,
      ⟨(some 2), none, .move (.t 9)⟩] (some [2]))
    .ret)
    (.seq (.ops [⟨(some 11), none, .bin .eql 3 (.t 3) (.c (.int .i64 4))⟩,
      ⟨(some 10), none, .move (.t 11)⟩] (some [3, 10]))
    (.cond (.t 10)
     (.seq (.ops [⟨(some 12), none, .buildSlice [(.int .i64 0)] 1 1 [(0, (.c (.int .i64 2)))]⟩,
       ⟨(some 2), none, .move (.t 12)⟩] (some [2]))
     .ret)
     (.seq (.ops [⟨(some 14), none, .bin .eql 3 (.t 3) (.c (.int .i64 6))⟩,
       ⟨(some 13), none, .move (.t 14)⟩] (some [3, 13]))
     (.cond (.t 13)
      (.seq (.ops [⟨(some 15), none, .buildSlice [(.int .i64 0)] 1 3 [(0, (.c (.int .i64 0))), (1, (.c (.int .i64 2))), (2, (.c (.int .i64 3)))]⟩,
        ⟨(some 2), none, .move (.t 15)⟩] (some [2]))
      .ret)
      (.seq (.seq (.ops [⟨(some 17), none, .bin .eql 3 (.t 3) (.c (.int .i64 8))⟩,
        ⟨(some 16), none, .move (.t 17)⟩] (some [3, 16]))
      (.cond (.t 16)
       .skip
       (.ops [⟨(some 18), none, .bin .eql 3 (.t 3) (.c (.int .i64 10))⟩,
         ⟨(some 16), none, .move (.t 18)⟩] (some [3, 16]))))
      (.cond (.t 16)
       (.seq (.ops [⟨(some 19), none, .buildSlice [(.int .i64 0)] 1 2 [(0, (.c (.int .i64 4))), (1, (.c (.int .i64 5)))]⟩,
         ⟨(some 2), none, .move (.t 19)⟩] (some [2]))
       .ret)
       (.seq (.ops [⟨(some 21), none, .bin .eql 3 (.t 3) (.c (.int .i64 9))⟩,
         ⟨(some 20), none, .move (.t 21)⟩] (some [3, 20]))
       (.cond (.t 20)
        (.seq (.ops [⟨(some 22), none, .buildSlice [(.int .i64 0)] 1 3 [(0, (.c (.int .i64 4))), (1, (.c (.int .i64 5))), (2, (.c (.int .i64 6)))]⟩,
          ⟨(some 2), none, .move (.t 22)⟩] (some [2]))
        .ret)
        (.seq (.seq (.ops [⟨(some 24), none, .bin .eql 3 (.t 3) (.c (.int .i64 11))⟩,
          ⟨(some 23), none, .move (.t 24)⟩] (some [3, 23]))
        (.cond (.t 23)
         .skip
         (.ops [⟨(some 25), none, .bin .eql 3 (.t 3) (.c (.int .i64 17))⟩,
           ⟨(some 23), none, .move (.t 25)⟩] (some [3, 23]))))
        (.cond (.t 23)
         (.seq (.ops [⟨(some 26), none, .buildSlice [(.int .i64 0)] 1 2 [(0, (.c (.int .i64 1))), (1, (.c (.int .i64 7)))]⟩,
           ⟨(some 2), none, .move (.t 26)⟩] (some [2]))
         .ret)
         (.seq (.ops [⟨(some 28), none, .bin .eql 3 (.t 3) (.c (.int .i64 13))⟩,
           ⟨(some 27), none, .move (.t 28)⟩] (some [3, 27]))
         (.cond (.t 27)
          (.seq (.ops [⟨(some 29), none, .buildSlice [(.int .i64 0)] 1 1 [(0, (.c (.int .i64 8)))]⟩,
            ⟨(some 2), none, .move (.t 29)⟩] (some [2]))
          .ret)
          (.seq (.ops [⟨(some 31), none, .bin .eql 3 (.t 3) (.c (.int .i64 16))⟩,
            ⟨(some 30), none, .move (.t 31)⟩] (some [30]))
          (.cond (.t 30)
           (.seq (.ops [⟨(some 32), none, .buildSlice [(.int .i64 0)] 1 3 [(0, (.c (.int .i64 4))), (1, (.c (.int .i64 5))), (2, (.c (.int .i64 9)))]⟩,
             ⟨(some 2), none, .move (.t 32)⟩] (some [2]))
           .ret)
           .skip))))))))))))))))))))
 (.seq (.ops [⟨(some 2), none, .move (.c (.slice none 0 0))⟩] (some [2]))
 .ret))), [.tmp 2]⟩

theorem is104 : FnIs Tryz.prog 104 x104 := ⟨Tryz.f104, _, Tryz.func104, by kernel_rfl, rfl, by kernel_rfl, by decide, by kernel_rfl⟩

/-- slices.Contains[[]cloisonne/ask.field,cloisonne/ask.field] -/
def x105 : XDecl := .code ⟨2, 
 (.seq (.ops [⟨(some 4), none, .move (.c (.bool false))⟩] (some [0, 1]))
 (.seq (.ops [⟨(some 5), none, .move (.t 0)⟩,
   ⟨(some 6), none, .move (.t 1)⟩,
   ⟨(some 7), none, .call (.c (.func (.func 175) #[] #[])) [(.t 5), (.t 6)]⟩,
   ⟨(some 8), none, .bin .geq 3 (.t 7) (.c (.int .i64 0))⟩,
   ⟨(some 4), none, .move (.t 8)⟩] (some [4]))
 .ret)), [.tmp 4]⟩

theorem is105 : FnIs Tryz.prog 105 x105 := ⟨Tryz.f105, _, Tryz.func105, by kernel_rfl, rfl, by kernel_rfl, by decide, by kernel_rfl⟩

/-- cloisonne/ask.named -/
def x106 : XDecl := .code ⟨2, 
 (.seq (.ops [⟨(some 2), none, .box (.t 0)⟩,
   ⟨(some 4), none, .move (.c (.bool false))⟩] (some [1, 2]))
 (.seq (.seq (.ops [⟨(some 5), none, .move (.t 1)⟩] (some [2, 5]))
 (.block 0
  (.seq (.ops [⟨(some 7), none, .bin .eql 193 (.t 5) (.c (.int .i64 0))⟩,
    ⟨(some 6), none, .move (.t 7)⟩] (some [2, 5, 6]))
  (.cond (.t 6)
   (.seq (.ops [⟨(some 8), none, .fieldAddr 1 (.t 2)⟩,
     ⟨(some 9), none, .load false 1 (.t 8)⟩,
     ⟨(some 10), none, .call (.c (.func (.func 108) #[] #[])) [(.t 9), (.c (.int .i64 0)), (.c (.int .i64 7))]⟩,
     ⟨(some 4), none, .move (.t 10)⟩] (some [4]))
   .ret)
   (.seq (.ops [⟨(some 12), none, .bin .eql 193 (.t 5) (.c (.int .i64 1))⟩,
     ⟨(some 11), none, .move (.t 12)⟩] (some [2, 5, 11]))
   (.cond (.t 11)
    (.seq (.ops [⟨(some 13), none, .fieldAddr 2 (.t 2)⟩,
      ⟨(some 14), none, .load false 1 (.t 13)⟩,
      ⟨(some 15), none, .call (.c (.func (.func 176) #[] #[])) [(.t 14)]⟩,
      ⟨(some 4), none, .move (.t 15)⟩] (some [4]))
    .ret)
    (.seq (.ops [⟨(some 17), none, .bin .eql 193 (.t 5) (.c (.int .i64 2))⟩,
      ⟨(some 16), none, .move (.t 17)⟩] (some [2, 5, 16]))
    (.cond (.t 16)
     (.seq (.ops [⟨(some 18), none, .fieldAddr 3 (.t 2)⟩,
       ⟨(some 19), none, .load false 1 (.t 18)⟩,
       ⟨(some 20), none, .bin .geq 23 (.t 19) (.c (.int .u64 1))⟩,
       ⟨(some 4), none, .move (.t 20)⟩] (some [4]))
     .ret)
     (.seq (.ops [⟨(some 22), none, .bin .eql 193 (.t 5) (.c (.int .i64 4))⟩,
       ⟨(some 21), none, .move (.t 22)⟩] (some [2, 5, 21]))
     (.cond (.t 21)
      (.seq (.ops [⟨(some 23), none, .fieldAddr 5 (.t 2)⟩,
        ⟨(some 24), none, .load false 1 (.t 23)⟩,
        ⟨(some 25), none, .call (.c (.func (.func 108) #[] #[])) [(.t 24), (.c (.int .i64 0)), (.c (.int .i64 7))]⟩,
        ⟨(some 4), none, .move (.t 25)⟩] (some [4]))
      .ret)
      (.seq (.ops [⟨(some 27), none, .bin .eql 193 (.t 5) (.c (.int .i64 5))⟩,
        ⟨(some 26), none, .move (.t 27)⟩] (some [2, 5, 26]))
      (.cond (.t 26)
       (.seq (.ops [⟨(some 28), none, .fieldAddr 6 (.t 2)⟩,
         ⟨(some 29), none, .load false 1 (.t 28)⟩,
         ⟨(some 30), none, .calcB .len [9] 3 [(.t 29)]⟩,
         ⟨(some 31), none, .call (.c (.func (.func 108) #[] #[])) [(.t 30), (.c (.int .i64 1)), (.c (.int .i64 32))]⟩,
         ⟨(some 4), none, .move (.t 31)⟩] (some [4]))
       .ret)
       (.seq (.ops [⟨(some 33), none, .bin .eql 193 (.t 5) (.c (.int .i64 6))⟩,
         ⟨(some 32), none, .move (.t 33)⟩] (some [2, 5, 32]))
       (.cond (.t 32)
        (.seq (.ops [⟨(some 34), none, .fieldAddr 7 (.t 2)⟩,
          ⟨(some 35), none, .load true 3 (.t 34)⟩,
          ⟨(some 36), none, .call (.c (.func (.func 143) #[] #[])) [(.t 35)]⟩,
          ⟨(some 4), none, .move (.t 36)⟩] (some [4]))
        .ret)
        (.seq (.ops [⟨(some 38), none, .bin .eql 193 (.t 5) (.c (.int .i64 7))⟩,
          ⟨(some 37), none, .move (.t 38)⟩] (some [2, 5, 37]))
        (.cond (.t 37)
         (.seq (.ops [⟨(some 39), none, .fieldAddr 10 (.t 2)⟩,
           ⟨(some 40), none, .load true 3 (.t 39)⟩,
           ⟨(some 41), none, .call (.c (.func (.func 177) #[] #[])) [(.t 40)]⟩,
           ⟨(some 42), none, .move (.t 41)⟩,
           ⟨(some 43), (some (42, true)), .fieldAddr 10 (.t 2)⟩,
           ⟨(some 44), (some (42, true)), .fieldAddr 0 (.t 43)⟩,
           ⟨(some 45), (some (42, true)), .load false 1 (.t 44)⟩,
           ⟨(some 46), (some (42, true)), .calcB .len [9] 3 [(.t 45)]⟩,
           ⟨(some 47), (some (42, true)), .bin .leq 3 (.t 46) (.c (.int .i64 32))⟩,
           ⟨(some 48), none, .pick (.t 42) (.t 47) (.c (.bool false))⟩,
           ⟨(some 49), none, .move (.t 48)⟩,
           ⟨(some 50), (some (49, true)), .fieldAddr 10 (.t 2)⟩,
           ⟨(some 51), (some (49, true)), .fieldAddr 1 (.t 50)⟩,
           ⟨(some 52), (some (49, true)), .load false 1 (.t 51)⟩,
           ⟨(some 53), (some (49, true)), .calcB .len [9] 3 [(.t 52)]⟩,
           ⟨(some 54), (some (49, true)), .bin .leq 3 (.t 53) (.c (.int .i64 32))⟩,
           ⟨(some 55), none, .pick (.t 49) (.t 54) (.c (.bool false))⟩,
           ⟨(some 4), none, .move (.t 55)⟩] (some [4]))
         .ret)
         (.seq (.ops [⟨(some 57), none, .bin .eql 193 (.t 5) (.c (.int .i64 8))⟩,
           ⟨(some 56), none, .move (.t 57)⟩] (some [2, 5, 56]))
         (.cond (.t 56)
          (.seq (.ops [⟨(some 58), none, .fieldAddr 13 (.t 2)⟩,
            ⟨(some 59), none, .load false 1 (.t 58)⟩,
            ⟨(some 60), none, .call (.c (.func (.func 108) #[] #[])) [(.t 59), (.c (.int .i64 1)), (.c (.int .i64 4))]⟩,
            ⟨(some 4), none, .move (.t 60)⟩] (some [4]))
          .ret)
          (.seq (.ops [⟨(some 62), none, .bin .eql 193 (.t 5) (.c (.int .i64 9))⟩,
            ⟨(some 61), none, .move (.t 62)⟩] (some [2, 61]))
          (.cond (.t 61)
           (.seq (.ops [⟨(some 63), none, .fieldAddr 14 (.t 2)⟩,
             ⟨(some 64), none, .load false 1 (.t 63)⟩,
             ⟨(some 65), none, .call (.c (.func (.func 178) #[] #[])) [(.t 64)]⟩,
             ⟨(some 4), none, .move (.t 65)⟩] (some [4]))
           .ret)
           .skip))))))))))))))))))))
 (.seq (.ops [⟨(some 4), none, .move (.c (.bool true))⟩] (some [4]))
 .ret))), [.tmp 4]⟩

theorem is106 : FnIs Tryz.prog 106 x106 := ⟨Tryz.f106, _, Tryz.func106, by kernel_rfl, rfl, by kernel_rfl, by decide, by kernel_rfl⟩

/-- cloisonne/ask.zero -/
def x107 : XDecl := .code ⟨2, 
 (.seq (.ops [⟨(some 2), none, .box (.t 0)⟩,
   ⟨(some 4), none, .move (.c (.bool false))⟩] (some [1, 2]))
 (.seq (.seq (.ops [⟨(some 5), none, .move (.t 1)⟩] (some [2, 5]))
 (.block 0
  (.seq (.ops [⟨(some 7), none, .bin .eql 193 (.t 5) (.c (.int .i64 0))⟩,
    ⟨(some 6), none, .move (.t 7)⟩] (some [2, 5, 6]))
  (.cond (.t 6)
   (.seq (.ops [⟨(some 8), none, .fieldAddr 1 (.t 2)⟩,
     ⟨(some 9), none, .load false 1 (.t 8)⟩,
     ⟨(some 10), none, .bin .eql 3 (.t 9) (.c (.int .i64 0))⟩,
     ⟨(some 4), none, .move (.t 10)⟩] (some [4]))
   .ret)
   (.seq (.ops [⟨(some 12), none, .bin .eql 193 (.t 5) (.c (.int .i64 1))⟩,
     ⟨(some 11), none, .move (.t 12)⟩] (some [2, 5, 11]))
   (.cond (.t 11)
    (.seq (.ops [⟨(some 13), none, .fieldAddr 2 (.t 2)⟩,
      ⟨(some 14), none, .load false 1 (.t 13)⟩,
      ⟨(some 15), none, .len (.t 14)⟩,
      ⟨(some 16), none, .bin .eql 3 (.t 15) (.c (.int .i64 0))⟩,
      ⟨(some 4), none, .move (.t 16)⟩] (some [4]))
    .ret)
    (.seq (.ops [⟨(some 18), none, .bin .eql 193 (.t 5) (.c (.int .i64 2))⟩,
      ⟨(some 17), none, .move (.t 18)⟩] (some [2, 5, 17]))
    (.cond (.t 17)
     (.seq (.ops [⟨(some 19), none, .fieldAddr 3 (.t 2)⟩,
       ⟨(some 20), none, .load false 1 (.t 19)⟩,
       ⟨(some 21), none, .bin .eql 23 (.t 20) (.c (.int .u64 0))⟩,
       ⟨(some 4), none, .move (.t 21)⟩] (some [4]))
     .ret)
     (.seq (.ops [⟨(some 23), none, .bin .eql 193 (.t 5) (.c (.int .i64 3))⟩,
       ⟨(some 22), none, .move (.t 23)⟩] (some [2, 5, 22]))
     (.cond (.t 22)
      (.seq (.ops [⟨(some 24), none, .fieldAddr 4 (.t 2)⟩,
        ⟨(some 25), none, .load false 1 (.t 24)⟩,
        ⟨(some 26), none, .un .not (.t 25)⟩,
        ⟨(some 4), none, .move (.t 26)⟩] (some [4]))
      .ret)
      (.seq (.ops [⟨(some 28), none, .bin .eql 193 (.t 5) (.c (.int .i64 4))⟩,
        ⟨(some 27), none, .move (.t 28)⟩] (some [2, 5, 27]))
      (.cond (.t 27)
       (.seq (.ops [⟨(some 29), none, .fieldAddr 5 (.t 2)⟩,
         ⟨(some 30), none, .load false 1 (.t 29)⟩,
         ⟨(some 31), none, .bin .eql 3 (.t 30) (.c (.int .i64 0))⟩,
         ⟨(some 4), none, .move (.t 31)⟩] (some [4]))
       .ret)
       (.seq (.ops [⟨(some 33), none, .bin .eql 193 (.t 5) (.c (.int .i64 5))⟩,
         ⟨(some 32), none, .move (.t 33)⟩] (some [2, 5, 32]))
       (.cond (.t 32)
        (.seq (.ops [⟨(some 34), none, .fieldAddr 6 (.t 2)⟩,
          ⟨(some 35), none, .load false 1 (.t 34)⟩,
          ⟨(some 36), none, .bin .eql 9 (.t 35) (.c (.string .empty))⟩,
          ⟨(some 4), none, .move (.t 36)⟩] (some [4]))
        .ret)
        (.seq (.ops [⟨(some 38), none, .bin .eql 193 (.t 5) (.c (.int .i64 6))⟩,
          ⟨(some 37), none, .move (.t 38)⟩] (some [2, 5, 37]))
        (.cond (.t 37)
         (.seq (.ops [⟨(some 39), none, .fieldAddr 7 (.t 2)⟩,
           ⟨(some 40), none, .load true 3 (.t 39)⟩,
           ⟨(some 41), none, .build [(.bool false), (.string .empty), (.int .u64 0)] [(0, 1), (1, 1), (2, 1)] []⟩,
           ⟨(some 42), none, .bin .eql 25 (.t 40) (.t 41)⟩,
           ⟨(some 4), none, .move (.t 42)⟩] (some [4]))
         .ret)
         (.seq (.ops [⟨(some 44), none, .bin .eql 193 (.t 5) (.c (.int .i64 7))⟩,
           ⟨(some 43), none, .move (.t 44)⟩] (some [2, 5, 43]))
         (.cond (.t 43)
          (.seq (.ops [⟨(some 45), none, .fieldAddr 10 (.t 2)⟩,
            ⟨(some 46), none, .load true 3 (.t 45)⟩,
            ⟨(some 47), none, .build [(.string .empty), (.string .empty), (.int .i64 0)] [(0, 1), (1, 1), (2, 1)] []⟩,
            ⟨(some 48), none, .bin .eql 27 (.t 46) (.t 47)⟩,
            ⟨(some 4), none, .move (.t 48)⟩] (some [4]))
          .ret)
          (.seq (.ops [⟨(some 50), none, .bin .eql 193 (.t 5) (.c (.int .i64 8))⟩,
            ⟨(some 49), none, .move (.t 50)⟩] (some [2, 49]))
          (.cond (.t 49)
           (.seq (.ops [⟨(some 51), none, .fieldAddr 13 (.t 2)⟩,
             ⟨(some 52), none, .load false 1 (.t 51)⟩,
             ⟨(some 53), none, .bin .eql 3 (.t 52) (.c (.int .i64 0))⟩,
             ⟨(some 4), none, .move (.t 53)⟩] (some [4]))
           .ret)
           .skip))))))))))))))))))))
 (.seq (.ops [⟨(some 54), none, .fieldAddr 14 (.t 2)⟩,
   ⟨(some 55), none, .load false 1 (.t 54)⟩,
   ⟨(some 56), none, .len (.t 55)⟩,
   ⟨(some 57), none, .bin .eql 3 (.t 56) (.c (.int .i64 0))⟩,
   ⟨(some 4), none, .move (.t 57)⟩] (some [4]))
 .ret))), [.tmp 4]⟩

theorem is107 : FnIs Tryz.prog 107 x107 := ⟨Tryz.f107, _, Tryz.func107, by kernel_rfl, rfl, by kernel_rfl, by decide, by kernel_rfl⟩

/-- cloisonne/ask.within -/
def x108 : XDecl := .code ⟨3, 
 (.seq (.ops [⟨(some 6), none, .move (.c (.bool false))⟩] (some [0, 1, 2]))
 (.seq (.ops [⟨(some 7), none, .move (.t 0)⟩,
   ⟨(some 8), none, .move (.t 1)⟩,
   ⟨(some 9), none, .bin .geq 3 (.t 7) (.t 8)⟩,
   ⟨(some 10), none, .move (.t 9)⟩,
   ⟨(some 11), (some (10, true)), .move (.t 0)⟩,
   ⟨(some 12), (some (10, true)), .move (.t 2)⟩,
   ⟨(some 13), (some (10, true)), .bin .leq 3 (.t 11) (.t 12)⟩,
   ⟨(some 14), none, .pick (.t 10) (.t 13) (.c (.bool false))⟩,
   ⟨(some 6), none, .move (.t 14)⟩] (some [6]))
 .ret)), [.tmp 6]⟩

theorem is108 : FnIs Tryz.prog 108 x108 := ⟨Tryz.f108, _, Tryz.func108, by kernel_rfl, rfl, by kernel_rfl, by decide, by kernel_rfl⟩

/-- cloisonne/vault.within -/
def x118 : XDecl := .code ⟨3, 
 (.seq (.ops [⟨(some 6), none, .move (.c (.bool false))⟩] (some [0, 1, 2]))
 (.seq (.ops [⟨(some 7), none, .move (.t 0)⟩,
   ⟨(some 8), none, .move (.t 1)⟩,
   ⟨(some 9), none, .bin .geq 3 (.t 7) (.t 8)⟩,
   ⟨(some 10), none, .move (.t 9)⟩,
   ⟨(some 11), (some (10, true)), .move (.t 0)⟩,
   ⟨(some 12), (some (10, true)), .move (.t 2)⟩,
   ⟨(some 13), (some (10, true)), .bin .leq 3 (.t 11) (.t 12)⟩,
   ⟨(some 14), none, .pick (.t 10) (.t 13) (.c (.bool false))⟩,
   ⟨(some 6), none, .move (.t 14)⟩] (some [6]))
 .ret)), [.tmp 6]⟩

theorem is118 : FnIs Tryz.prog 118 x118 := ⟨Tryz.f118, _, Tryz.func118, by kernel_rfl, rfl, by kernel_rfl, by decide, by kernel_rfl⟩

/-- (*cloisonne/room.Room).chain -/
def x120 : XDecl := .code ⟨2, 
 (.seq (.ops [⟨(some 4), none, .move (.c (.slice none 0 0))⟩] (some [0, 1]))
 (.seq (.seq (.ops [⟨(some 7), none, .move (.t 0)⟩,
   ⟨(some 8), none, .isNil .ptr false (.t 7)⟩] (some [0, 1, 8]))
 (.cond (.t 8)
  (.seq (.ops [⟨(some 4), none, .move (.c (.slice none 0 0))⟩] (some [4]))
  .ret)
  .skip))
 (.seq (.ops [⟨(some 10), none, .move (.t 0)⟩,
   ⟨(some 11), none, .nilCheck (.t 10)⟩,
   ⟨(some 12), none, .fieldAddr 5 (.t 11)⟩,
   ⟨(some 13), none, .load false 1 (.t 12)⟩,
   ⟨(some 14), none, .move (.t 1)⟩,
   ⟨(some 15), none, .call (.c (.func (.func 193) #[] #[])) [(.t 13), (.t 14)]⟩,
   ⟨(some 9), none, .move (.t 15)⟩,
   ⟨(some 16), none, .extract (.t 9) 0⟩,
   ⟨(some 17), none, .extract (.t 9) 1⟩,
   ⟨(some 5), none, .move (.t 16)⟩,
   ⟨(some 6), none, .move (.t 17)⟩] (some [0, 5, 6]))
 (.seq (.seq (.ops [⟨(some 18), none, .move (.t 6)⟩,
   ⟨(some 19), none, .un .not (.t 18)⟩] (some [0, 5, 19]))
 (.cond (.t 19)
  (.seq (.ops [⟨(some 4), none, .move (.c (.slice none 0 0))⟩] (some [4]))
  .ret)
  .skip))
 (.seq (.ops [⟨(some 20), none, .move (.t 0)⟩,
   ⟨(some 21), none, .nilCheck (.t 20)⟩,
   ⟨(some 22), none, .fieldAddr 6 (.t 21)⟩,
   ⟨(some 23), none, .load false 1 (.t 22)⟩,
   ⟨(some 24), none, .move (.t 5)⟩,
   ⟨(some 25), none, .indexAddr 1 (.t 23) (.t 24)⟩,
   ⟨(some 26), none, .load false 1 (.t 25)⟩,
   ⟨(some 4), none, .move (.t 26)⟩] (some [4]))
 .ret))))), [.tmp 4]⟩

theorem is120 : FnIs Tryz.prog 120 x120 := ⟨Tryz.f120, _, Tryz.func120, by kernel_rfl, rfl, by kernel_rfl, by decide, by kernel_rfl⟩


end Go.Proofs.YtlhinicapcdikaaGreatDoor.X
