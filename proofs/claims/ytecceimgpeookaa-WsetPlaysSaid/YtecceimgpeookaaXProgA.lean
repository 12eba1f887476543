/-
  Own work, printed by a program of ours (mkprog.py): the functions of this seat as code of the abstract run, and that each is the model's.
-/
import Derived.Test.YtecceimgpeookaaXLaw
import Derived.Test.YtecceimgpeookaaChecked
set_option maxRecDepth 100000
namespace Go.Proofs.Ytecceimgpeookaa.X
open Go

/-- cloisonne/cloisonnelaw12.WsetBack -/
def x3 : XDecl := .code ⟨2, 
 (.seq (.ops [⟨(some 4), none, .move (.c (.bool false))⟩] (some [0, 1]))
 (.seq (.seq (.ops [⟨(some 13), none, .call (.c (.func (.func 8) #[] #[])) []⟩,
   ⟨(some 14), none, .un .not (.t 13)⟩] (some [0, 1, 14]))
 (.cond (.t 14)
  (.seq (.ops [⟨(some 4), none, .move (.c (.bool false))⟩] (some [4]))
  .ret)
  .skip))
 (.seq (.ops [⟨(some 15), none, .call (.c (.func (.func 9) #[] #[])) []⟩,
   ⟨(some 5), none, .move (.t 15)⟩] (some [0, 1, 5]))
 (.seq (.ops [⟨(some 16), none, .build [(.slice none 0 0), (.slice none 0 0)] [(0, 1), (1, 1)] []⟩,
   ⟨(some 17), none, .box (.t 16)⟩,
   ⟨(some 6), none, .move (.t 17)⟩] (some [0, 1, 5, 6]))
 (.seq (.seq (.ops [⟨(some 7), none, .move (.c (.int .i64 0))⟩] (some [0, 1, 5, 6, 7]))
 (.block 0
  (.loop
   (.seq (.seq (.ops [⟨(some 18), none, .move (.t 7)⟩,
     ⟨(some 19), none, .move (.t 0)⟩,
     ⟨(some 20), none, .len (.t 19)⟩,
     ⟨(some 21), none, .bin .lss 3 (.t 18) (.t 20)⟩,
     ⟨(some 22), none, .move (.t 21)⟩,
     ⟨(some 23), (some (22, true)), .move (.t 7)⟩,
     ⟨(some 24), (some (22, true)), .bin .lss 3 (.t 23) (.c (.int .i64 120))⟩,
     ⟨(some 25), none, .pick (.t 22) (.t 24) (.c (.bool false))⟩] (some [0, 1, 5, 6, 7, 25]))
   (.cond (.t 25)
    .skip
    (.exit 0)))
   (.seq (.block 1
    (.seq (.ops [⟨(some 28), none, .move (.t 0)⟩,
      ⟨(some 29), none, .move (.t 7)⟩,
      ⟨(some 30), none, .indexAddr 6 (.t 28) (.t 29)⟩,
      ⟨(some 31), none, .load true 6 (.t 30)⟩,
      ⟨(some 32), none, .call (.c (.func (.func 10) #[] #[])) [(.t 31)]⟩,
      ⟨(some 33), none, .un .not (.t 32)⟩] (some [0, 1, 5, 6, 7, 33]))
    (.cond (.t 33)
     (.ops [⟨(some 34), none, .move (.t 5)⟩,
       ⟨(some 35), none, .move (.t 6)⟩,
       ⟨(some 36), none, .move (.t 0)⟩,
       ⟨(some 37), none, .move (.t 7)⟩,
       ⟨(some 38), none, .indexAddr 6 (.t 36) (.t 37)⟩,
       ⟨(some 39), none, .load true 6 (.t 38)⟩,
       ⟨(some 40), none, .call (.c (.func (.func 11) #[] #[])) [(.t 34), (.t 35), (.t 39)]⟩] (some [0, 1, 5, 6, 7]))
     .skip)))
   (.ops [⟨(some 26), none, .move (.t 7)⟩,
     ⟨(some 27), none, .bin .add 3 (.t 26) (.c (.int .i64 1))⟩,
     ⟨(some 7), none, .move (.t 27)⟩] (some [0, 1, 5, 6, 7])))))))
 (.seq (.ops [⟨(some 41), none, .move (.t 5)⟩,
   ⟨(some 42), none, .call (.c (.func (.func 12) #[] #[])) [(.t 41)]⟩,
   ⟨(some 8), none, .move (.t 42)⟩] (some [1, 5, 6, 8]))
 (.seq (.ops [⟨(some 44), none, .move (.t 5)⟩,
   ⟨(some 45), none, .call (.c (.func (.func 13) #[] #[])) [(.t 44)]⟩,
   ⟨(some 43), none, .move (.t 45)⟩,
   ⟨(some 46), none, .extract (.t 43) 0⟩,
   ⟨(some 47), none, .extract (.t 43) 1⟩,
   ⟨(some 9), none, .move (.t 46)⟩,
   ⟨(some 10), none, .move (.t 47)⟩] (some [1, 5, 6, 8, 9, 10]))
 (.seq (.seq (.ops [⟨(some 48), none, .move (.t 10)⟩,
   ⟨(some 49), none, .bin .neq 39 (.t 48) (.c (.int .i64 0))⟩] (some [1, 5, 6, 8, 9, 10, 49]))
 (.cond (.t 49)
  (.seq (.ops [⟨(some 50), none, .move (.t 10)⟩,
    ⟨(some 51), none, .bin .eql 39 (.t 50) (.c (.int .i64 5))⟩,
    ⟨(some 52), none, .move (.t 51)⟩,
    ⟨(some 53), (some (52, true)), .move (.t 5)⟩,
    ⟨(some 54), (some (52, true)), .call (.c (.func (.func 14) #[] #[])) [(.t 53)]⟩,
    ⟨(some 55), (some (52, true)), .bin .eql 3 (.t 54) (.c (.int .i64 4))⟩,
    ⟨(some 56), none, .pick (.t 52) (.t 55) (.c (.bool false))⟩,
    ⟨(some 4), none, .move (.t 56)⟩] (some [4]))
  .ret)
  .skip))
 (.seq (.seq (.ops [⟨(some 11), none, .move (.c (.int .i64 0))⟩] (some [1, 5, 6, 8, 9, 11]))
 (.block 2
  (.loop
   (.seq (.seq (.ops [⟨(some 57), none, .move (.t 11)⟩,
     ⟨(some 58), none, .bin .lss 3 (.t 57) (.c (.int .i64 2))⟩] (some [1, 5, 6, 8, 9, 11, 58]))
   (.cond (.t 58)
    .skip
    (.exit 2)))
   (.seq (.block 3
    (.seq (.seq (.ops [⟨(some 12), none, .move (.c (.int .i64 0))⟩] (some [1, 5, 6, 8, 9, 11, 12]))
    (.block 4
     (.loop
      (.seq (.seq (.ops [⟨(some 61), none, .move (.t 12)⟩,
        ⟨(some 62), none, .move (.t 1)⟩,
        ⟨(some 63), none, .len (.t 62)⟩,
        ⟨(some 64), none, .bin .lss 3 (.t 61) (.t 63)⟩,
        ⟨(some 65), none, .move (.t 64)⟩,
        ⟨(some 66), (some (65, true)), .move (.t 12)⟩,
        ⟨(some 67), (some (65, true)), .bin .lss 3 (.t 66) (.c (.int .i64 120))⟩,
        ⟨(some 68), none, .pick (.t 65) (.t 67) (.c (.bool false))⟩] (some [1, 5, 6, 8, 9, 11, 12, 68]))
      (.cond (.t 68)
       .skip
       (.exit 4)))
      (.seq (.block 5
       (.seq (.seq (.ops [⟨(some 71), none, .move (.t 1)⟩,
         ⟨(some 72), none, .move (.t 12)⟩,
         ⟨(some 73), none, .indexAddr 6 (.t 71) (.t 72)⟩,
         ⟨(some 74), none, .load true 6 (.t 73)⟩,
         ⟨(some 75), none, .call (.c (.func (.func 10) #[] #[])) [(.t 74)]⟩,
         ⟨(some 76), none, .move (.t 75)⟩,
         ⟨(some 77), (some (76, false)), .move (.t 1)⟩,
         ⟨(some 78), (some (76, false)), .move (.t 12)⟩,
         ⟨(some 79), (some (76, false)), .indexAddr 6 (.t 77) (.t 78)⟩,
         ⟨(some 80), (some (76, false)), .fieldAddr 0 (.t 79)⟩,
         ⟨(some 81), (some (76, false)), .load false 1 (.t 80)⟩,
         ⟨(some 82), (some (76, false)), .bin .eql 3 (.t 81) (.c (.int .i64 4))⟩,
         ⟨(some 83), (some (76, false)), .move (.t 82)⟩,
         ⟨(some 84), (some (83, true)), .move (.t 1)⟩,
         ⟨(some 85), (some (83, true)), .move (.t 12)⟩,
         ⟨(some 86), (some (83, true)), .indexAddr 6 (.t 84) (.t 85)⟩,
         ⟨(some 87), (some (83, true)), .fieldAddr 5 (.t 86)⟩,
         ⟨(some 88), (some (83, true)), .load false 1 (.t 87)⟩,
         ⟨(some 89), (some (83, true)), .move (.t 9)⟩,
         ⟨(some 90), (some (83, true)), .bin .lss 3 (.t 88) (.t 89)⟩,
         ⟨(some 91), (some (76, false)), .pick (.t 83) (.t 90) (.c (.bool false))⟩,
         ⟨(some 92), none, .pick (.t 76) (.c (.bool true)) (.t 91)⟩] (some [1, 5, 6, 8, 9, 11, 12, 92]))
       (.cond (.t 92)
        (.exit 5)
        .skip))
       (.ops [⟨(some 93), none, .move (.t 5)⟩,
         ⟨(some 94), none, .move (.t 6)⟩,
         ⟨(some 95), none, .move (.t 1)⟩,
         ⟨(some 96), none, .move (.t 12)⟩,
         ⟨(some 97), none, .indexAddr 6 (.t 95) (.t 96)⟩,
         ⟨(some 98), none, .load true 6 (.t 97)⟩,
         ⟨(some 99), none, .call (.c (.func (.func 11) #[] #[])) [(.t 93), (.t 94), (.t 98)]⟩] (some [1, 5, 6, 8, 9, 11, 12]))))
      (.ops [⟨(some 69), none, .move (.t 12)⟩,
        ⟨(some 70), none, .bin .add 3 (.t 69) (.c (.int .i64 1))⟩,
        ⟨(some 12), none, .move (.t 70)⟩] (some [1, 5, 6, 8, 9, 11, 12])))))))
    (.seq (.ops [⟨(some 100), none, .move (.t 5)⟩,
      ⟨(some 101), none, .move (.t 9)⟩,
      ⟨(some 102), none, .call (.c (.func (.func 15) #[] #[])) [(.t 100), (.t 101)]⟩,
      ⟨(some 103), none, .bin .neq 39 (.t 102) (.c (.int .i64 0))⟩,
      ⟨(some 104), none, .move (.t 103)⟩,
      ⟨(some 105), (some (104, false)), .move (.t 5)⟩,
      ⟨(some 106), (some (104, false)), .call (.c (.func (.func 12) #[] #[])) [(.t 105)]⟩,
      ⟨(some 107), (some (104, false)), .move (.t 8)⟩,
      ⟨(some 108), (some (104, false)), .call (.c (.func (.func 16) #[] #[])) [(.t 106), (.t 107)]⟩,
      ⟨(some 109), (some (104, false)), .un .not (.t 108)⟩,
      ⟨(some 110), none, .pick (.t 104) (.c (.bool true)) (.t 109)⟩,
      ⟨(some 111), none, .move (.t 110)⟩,
      ⟨(some 112), (some (111, false)), .move (.t 5)⟩,
      ⟨(some 113), (some (111, false)), .call (.c (.func (.func 14) #[] #[])) [(.t 112)]⟩,
      ⟨(some 114), (some (111, false)), .move (.t 9)⟩,
      ⟨(some 115), (some (111, false)), .bin .neq 3 (.t 113) (.t 114)⟩,
      ⟨(some 116), none, .pick (.t 111) (.c (.bool true)) (.t 115)⟩] (some [1, 5, 6, 8, 9, 11, 116]))
    (.cond (.t 116)
     (.seq (.ops [⟨(some 4), none, .move (.c (.bool false))⟩] (some [4]))
     .ret)
     .skip))))
   (.ops [⟨(some 59), none, .move (.t 11)⟩,
     ⟨(some 60), none, .bin .add 3 (.t 59) (.c (.int .i64 1))⟩,
     ⟨(some 11), none, .move (.t 60)⟩] (some [1, 5, 6, 8, 9, 11])))))))
 (.seq (.ops [⟨(some 4), none, .move (.c (.bool true))⟩] (some [4]))
 .ret)))))))))), [.tmp 4]⟩

theorem is3 : FnIs Try.prog 3 x3 := ⟨Try.f3, _, Try.func3, by kernel_rfl, rfl, by kernel_rfl, by decide, by kernel_rfl⟩

/-- cloisonne/cloisonnelaw12.WsetMost -/
def x4 : XDecl := .code ⟨1, 
 (.seq (.ops [⟨(some 2), none, .move (.c (.bool false))⟩] (some [0]))
 (.seq (.seq (.ops [⟨(some 11), none, .call (.c (.func (.func 8) #[] #[])) []⟩,
   ⟨(some 12), none, .un .not (.t 11)⟩] (some [0, 12]))
 (.cond (.t 12)
  (.seq (.ops [⟨(some 2), none, .move (.c (.bool false))⟩] (some [2]))
  .ret)
  .skip))
 (.seq (.ops [⟨(some 13), none, .call (.c (.func (.func 9) #[] #[])) []⟩,
   ⟨(some 3), none, .move (.t 13)⟩] (some [0, 3]))
 (.seq (.seq (.ops [⟨(some 4), none, .move (.c (.int .i64 0))⟩] (some [0, 3, 4]))
 (.block 0
  (.loop
   (.seq (.seq (.ops [⟨(some 14), none, .move (.t 4)⟩,
     ⟨(some 15), none, .move (.t 0)⟩,
     ⟨(some 16), none, .len (.t 15)⟩,
     ⟨(some 17), none, .bin .lss 3 (.t 14) (.t 16)⟩,
     ⟨(some 18), none, .move (.t 17)⟩,
     ⟨(some 19), (some (18, true)), .move (.t 4)⟩,
     ⟨(some 20), (some (18, true)), .bin .lss 3 (.t 19) (.c (.int .i64 120))⟩,
     ⟨(some 21), none, .pick (.t 18) (.t 20) (.c (.bool false))⟩] (some [0, 3, 4, 21]))
   (.cond (.t 21)
    .skip
    (.exit 0)))
   (.seq (.block 1
    (.seq (.ops [⟨(some 24), none, .move (.t 0)⟩,
      ⟨(some 25), none, .move (.t 4)⟩,
      ⟨(some 26), none, .indexAddr 6 (.t 24) (.t 25)⟩,
      ⟨(some 27), none, .load true 6 (.t 26)⟩,
      ⟨(some 5), none, .alloc [(.int .i64 0), (.string .empty), (.bool false), (.string .empty), (.int .u64 0), (.int .i64 0)]⟩,
      ⟨none, none, .store 6 (.t 5) (.t 27)⟩] (some [0, 3, 4, 5]))
    (.seq (.seq (.ops [⟨(some 28), none, .load true 6 (.t 5)⟩,
      ⟨(some 29), none, .call (.c (.func (.func 10) #[] #[])) [(.t 28)]⟩] (some [0, 3, 4, 5, 29]))
    (.cond (.t 29)
     (.exit 1)
     .skip))
    (.seq (.ops [⟨(some 30), none, .move (.t 3)⟩,
      ⟨(some 31), none, .call (.c (.func (.func 12) #[] #[])) [(.t 30)]⟩,
      ⟨(some 6), none, .move (.t 31)⟩] (some [0, 3, 4, 5, 6]))
    (.seq (.ops [⟨(some 32), none, .move (.t 3)⟩,
      ⟨(some 33), none, .call (.c (.func (.func 14) #[] #[])) [(.t 32)]⟩,
      ⟨(some 7), none, .move (.t 33)⟩] (some [0, 3, 4, 5, 6, 7]))
    (.seq (.ops [⟨(some 8), none, .move (.c (.int .i64 0))⟩] (some [0, 3, 4, 5, 6, 7, 8]))
    (.seq (.seq (.ops [⟨(some 34), none, .fieldAddr 0 (.t 5)⟩,
      ⟨(some 35), none, .load false 1 (.t 34)⟩] (some [0, 3, 4, 5, 6, 7, 8, 35]))
    (.block 2
     (.seq (.ops [⟨(some 37), none, .bin .eql 3 (.t 35) (.c (.int .i64 1))⟩,
       ⟨(some 36), none, .move (.t 37)⟩] (some [0, 3, 4, 5, 6, 7, 8, 35, 36]))
     (.cond (.t 36)
      (.ops [⟨(some 38), none, .move (.t 3)⟩,
        ⟨(some 39), none, .fieldAddr 1 (.t 5)⟩,
        ⟨(some 40), none, .load false 1 (.t 39)⟩,
        ⟨(some 41), none, .fieldAddr 2 (.t 5)⟩,
        ⟨(some 42), none, .load true 3 (.t 41)⟩,
        ⟨(some 43), none, .call (.c (.func (.func 17) #[] #[])) [(.t 38), (.t 40), (.t 42)]⟩,
        ⟨(some 8), none, .move (.t 43)⟩] (some [0, 3, 4, 6, 7, 8]))
      (.seq (.ops [⟨(some 45), none, .bin .eql 3 (.t 35) (.c (.int .i64 2))⟩,
        ⟨(some 44), none, .move (.t 45)⟩] (some [0, 3, 4, 5, 6, 7, 8, 35, 44]))
      (.cond (.t 44)
       (.ops [⟨(some 46), none, .move (.t 3)⟩,
         ⟨(some 47), none, .fieldAddr 1 (.t 5)⟩,
         ⟨(some 48), none, .load false 1 (.t 47)⟩,
         ⟨(some 49), none, .call (.c (.func (.func 18) #[] #[])) [(.t 46), (.t 48)]⟩,
         ⟨(some 8), none, .move (.t 49)⟩] (some [0, 3, 4, 6, 7, 8]))
       (.seq (.ops [⟨(some 51), none, .bin .eql 3 (.t 35) (.c (.int .i64 3))⟩,
         ⟨(some 50), none, .move (.t 51)⟩] (some [0, 3, 4, 5, 6, 7, 8, 35, 50]))
       (.cond (.t 50)
        (.ops [⟨(some 53), none, .move (.t 3)⟩,
          ⟨(some 54), none, .call (.c (.func (.func 13) #[] #[])) [(.t 53)]⟩,
          ⟨(some 52), none, .move (.t 54)⟩,
          ⟨(some 55), none, .extract (.t 52) 0⟩,
          ⟨(some 56), none, .extract (.t 52) 1⟩,
          ⟨(some 8), none, .move (.t 56)⟩] (some [0, 3, 4, 6, 7, 8]))
        (.seq (.ops [⟨(some 58), none, .bin .eql 3 (.t 35) (.c (.int .i64 4))⟩,
          ⟨(some 57), none, .move (.t 58)⟩] (some [0, 3, 4, 5, 6, 7, 8, 57]))
        (.cond (.t 57)
         (.ops [⟨(some 59), none, .move (.t 3)⟩,
           ⟨(some 60), none, .fieldAddr 5 (.t 5)⟩,
           ⟨(some 61), none, .load false 1 (.t 60)⟩,
           ⟨(some 62), none, .call (.c (.func (.func 15) #[] #[])) [(.t 59), (.t 61)]⟩,
           ⟨(some 8), none, .move (.t 62)⟩] (some [0, 3, 4, 6, 7, 8]))
         .skip))))))))))
    (.seq (.ops [⟨(some 63), none, .move (.t 3)⟩,
      ⟨(some 64), none, .call (.c (.func (.func 12) #[] #[])) [(.t 63)]⟩,
      ⟨(some 9), none, .move (.t 64)⟩] (some [0, 3, 4, 6, 7, 8, 9]))
    (.seq (.seq (.ops [⟨(some 65), none, .move (.t 8)⟩,
      ⟨(some 66), none, .bin .neq 39 (.t 65) (.c (.int .i64 0))⟩,
      ⟨(some 67), none, .move (.t 66)⟩,
      ⟨(some 68), (some (67, true)), .move (.t 6)⟩,
      ⟨(some 69), (some (67, true)), .move (.t 9)⟩,
      ⟨(some 70), (some (67, true)), .call (.c (.func (.func 16) #[] #[])) [(.t 68), (.t 69)]⟩,
      ⟨(some 71), (some (67, true)), .un .not (.t 70)⟩,
      ⟨(some 72), (some (67, true)), .move (.t 71)⟩,
      ⟨(some 73), (some (72, false)), .move (.t 3)⟩,
      ⟨(some 74), (some (72, false)), .call (.c (.func (.func 14) #[] #[])) [(.t 73)]⟩,
      ⟨(some 75), (some (72, false)), .move (.t 7)⟩,
      ⟨(some 76), (some (72, false)), .bin .neq 3 (.t 74) (.t 75)⟩,
      ⟨(some 77), (some (67, true)), .pick (.t 72) (.c (.bool true)) (.t 76)⟩,
      ⟨(some 78), none, .pick (.t 67) (.t 77) (.c (.bool false))⟩] (some [0, 3, 4, 9, 78]))
    (.cond (.t 78)
     (.seq (.ops [⟨(some 2), none, .move (.c (.bool false))⟩] (some [2]))
     .ret)
     .skip))
    (.seq (.seq (.ops [⟨(some 10), none, .move (.c (.int .i64 1))⟩] (some [0, 3, 4, 9, 10]))
    (.block 3
     (.loop
      (.seq (.seq (.ops [⟨(some 79), none, .move (.t 10)⟩,
        ⟨(some 80), none, .move (.t 9)⟩,
        ⟨(some 81), none, .len (.t 80)⟩,
        ⟨(some 82), none, .bin .lss 3 (.t 79) (.t 81)⟩] (some [0, 3, 4, 9, 10, 82]))
      (.cond (.t 82)
       .skip
       (.exit 3)))
      (.seq (.block 4
       (.seq (.opsr [⟨(some 85), none, .move (.t 9)⟩,
         ⟨(some 86), none, .move (.t 10)⟩,
         ⟨(some 87), none, .bin .sub 3 (.t 86) (.c (.int .i64 1))⟩,
         ⟨(some 88), none, .indexAddr 5 (.t 85) (.t 87)⟩,
         ⟨(some 89), none, .fieldAddr 0 (.t 88)⟩,
         ⟨(some 90), none, .load false 1 (.t 89)⟩,
         ⟨(some 91), none, .move (.t 9)⟩,
         ⟨(some 92), none, .move (.t 10)⟩,
         ⟨(some 93), none, .indexAddr 5 (.t 91) (.t 92)⟩,
         ⟨(some 94), none, .fieldAddr 0 (.t 93)⟩,
         ⟨(some 95), none, .load false 1 (.t 94)⟩,
         ⟨(some 96), none, .bin .geq 9 (.t 90) (.t 95)⟩] (some [0, 3, 4, 9, 10, 96]))
       (.cond (.t 96)
        (.seq (.ops [⟨(some 2), none, .move (.c (.bool false))⟩] (some [2]))
        .ret)
        .skip)))
      (.ops [⟨(some 83), none, .move (.t 10)⟩,
        ⟨(some 84), none, .bin .add 3 (.t 83) (.c (.int .i64 1))⟩,
        ⟨(some 10), none, .move (.t 84)⟩] (some [0, 3, 4, 9, 10])))))))
    (.seq (.ops [⟨(some 97), none, .move (.t 9)⟩,
      ⟨(some 98), none, .len (.t 97)⟩,
      ⟨(some 99), none, .bin .gtr 3 (.t 98) (.c (.int .i64 16))⟩,
      ⟨(some 100), none, .move (.t 99)⟩,
      ⟨(some 101), (some (100, false)), .move (.t 9)⟩,
      ⟨(some 102), (some (100, false)), .len (.t 101)⟩,
      ⟨(some 103), (some (100, false)), .move (.t 3)⟩,
      ⟨(some 104), (some (100, false)), .call (.c (.func (.func 19) #[] #[])) [(.t 103)]⟩,
      ⟨(some 105), (some (100, false)), .bin .neq 3 (.t 102) (.t 104)⟩,
      ⟨(some 106), none, .pick (.t 100) (.c (.bool true)) (.t 105)⟩,
      ⟨(some 107), none, .move (.t 106)⟩,
      ⟨(some 108), (some (107, false)), .move (.t 3)⟩,
      ⟨(some 109), (some (107, false)), .call (.c (.func (.func 14) #[] #[])) [(.t 108)]⟩,
      ⟨(some 110), (some (107, false)), .bin .gtr 3 (.t 109) (.c (.int .i64 4))⟩,
      ⟨(some 111), none, .pick (.t 107) (.c (.bool true)) (.t 110)⟩] (some [0, 3, 4, 111]))
    (.cond (.t 111)
     (.seq (.ops [⟨(some 2), none, .move (.c (.bool false))⟩] (some [2]))
     .ret)
     .skip))))))))))))
   (.ops [⟨(some 22), none, .move (.t 4)⟩,
     ⟨(some 23), none, .bin .add 3 (.t 22) (.c (.int .i64 1))⟩,
     ⟨(some 4), none, .move (.t 23)⟩] (some [0, 3, 4])))))))
 (.seq (.ops [⟨(some 2), none, .move (.c (.bool true))⟩] (some [2]))
 .ret))))), [.tmp 2]⟩

theorem is4 : FnIs Try.prog 4 x4 := ⟨Try.f4, _, Try.func4, by kernel_rfl, rfl, by kernel_rfl, by decide, by kernel_rfl⟩

/-- cloisonne/cloisonnelaw12.WsetPlays -/
def x5 : XDecl := .code ⟨2, 
 (.seq (.ops [⟨(some 4), none, .move (.c (.bool false))⟩] (some [0, 1]))
 (.seq (.seq (.ops [⟨(some 20), none, .call (.c (.func (.func 8) #[] #[])) []⟩,
   ⟨(some 21), none, .un .not (.t 20)⟩] (some [0, 1, 21]))
 (.cond (.t 21)
  (.seq (.ops [⟨(some 4), none, .move (.c (.bool false))⟩] (some [4]))
  .ret)
  .skip))
 (.seq (.seq (.ops [⟨(some 22), none, .move (.t 1)⟩,
   ⟨(some 23), none, .calcB .len [9] 3 [(.t 22)]⟩,
   ⟨(some 24), none, .bin .gtr 3 (.t 23) (.c (.int .i64 200))⟩] (some [0, 1, 24]))
 (.cond (.t 24)
  (.seq (.ops [⟨(some 4), none, .move (.c (.bool true))⟩] (some [4]))
  .ret)
  .skip))
 (.seq (.ops [⟨(some 25), none, .call (.c (.func (.func 9) #[] #[])) []⟩,
   ⟨(some 5), none, .move (.t 25)⟩] (some [0, 1, 5]))
 (.seq (.ops [⟨(some 26), none, .build [(.slice none 0 0), (.slice none 0 0)] [(0, 1), (1, 1)] []⟩,
   ⟨(some 27), none, .box (.t 26)⟩,
   ⟨(some 6), none, .move (.t 27)⟩] (some [0, 1, 5, 6]))
 (.seq (.seq (.ops [⟨(some 7), none, .move (.c (.int .i64 0))⟩] (some [0, 1, 5, 6, 7]))
 (.block 0
  (.loop
   (.seq (.seq (.ops [⟨(some 28), none, .move (.t 7)⟩,
     ⟨(some 29), none, .move (.t 0)⟩,
     ⟨(some 30), none, .len (.t 29)⟩,
     ⟨(some 31), none, .bin .lss 3 (.t 28) (.t 30)⟩,
     ⟨(some 32), none, .move (.t 31)⟩,
     ⟨(some 33), (some (32, true)), .move (.t 7)⟩,
     ⟨(some 34), (some (32, true)), .bin .lss 3 (.t 33) (.c (.int .i64 120))⟩,
     ⟨(some 35), none, .pick (.t 32) (.t 34) (.c (.bool false))⟩] (some [0, 1, 5, 6, 7, 35]))
   (.cond (.t 35)
    .skip
    (.exit 0)))
   (.seq (.block 1
    (.seq (.seq (.ops [⟨(some 38), none, .move (.t 0)⟩,
      ⟨(some 39), none, .move (.t 7)⟩,
      ⟨(some 40), none, .indexAddr 6 (.t 38) (.t 39)⟩,
      ⟨(some 41), none, .load true 6 (.t 40)⟩,
      ⟨(some 42), none, .call (.c (.func (.func 10) #[] #[])) [(.t 41)]⟩] (some [0, 1, 5, 6, 7, 42]))
    (.cond (.t 42)
     (.exit 1)
     .skip))
    (.seq (.seq (.opsd [(0, 0, ⟨(some 43), none, .move (.t 5)⟩),
      (1, 0, ⟨(some 44), none, .move (.t 6)⟩),
      (2, 0, ⟨(some 45), none, .move (.t 0)⟩),
      (3, 0, ⟨(some 46), none, .move (.t 7)⟩),
      (4, 12, ⟨(some 47), none, .indexAddr 6 (.t 45) (.t 46)⟩),
      (5, 28, ⟨(some 48), none, .load true 6 (.t 47)⟩),
      (6, 63, ⟨(some 49), none, .call (.c (.func (.func 11) #[] #[])) [(.t 43), (.t 44), (.t 48)]⟩),
      (7, 127, ⟨(some 50), none, .un .not (.t 49)⟩),
      (8, 255, ⟨(some 51), none, .move (.t 50)⟩),
      (9, 511, ⟨(some 52), (some (51, false)), .move (.t 5)⟩),
      (11, 511, ⟨(some 54), (some (51, false)), .move (.t 6)⟩),
      (12, 2559, ⟨(some 55), (some (51, false)), .nilCheck (.t 54)⟩),
      (13, 6655, ⟨(some 56), (some (51, false)), .fieldAddr 0 (.t 55)⟩),
      (14, 14847, ⟨(some 57), (some (51, false)), .load false 1 (.t 56)⟩),
      (10, 1023, ⟨(some 53), (some (51, false)), .call (.c (.func (.func 12) #[] #[])) [(.t 52)]⟩),
      (15, 32767, ⟨(some 58), (some (51, false)), .call (.c (.func (.func 16) #[] #[])) [(.t 53), (.t 57)]⟩),
      (16, 65535, ⟨(some 59), (some (51, false)), .un .not (.t 58)⟩),
      (17, 131071, ⟨(some 60), none, .pick (.t 51) (.c (.bool true)) (.t 59)⟩),
      (18, 262143, ⟨(some 61), none, .move (.t 60)⟩),
      (19, 524287, ⟨(some 62), (some (61, false)), .move (.t 5)⟩),
      (21, 524287, ⟨(some 64), (some (61, false)), .move (.t 6)⟩),
      (22, 2621439, ⟨(some 65), (some (61, false)), .nilCheck (.t 64)⟩),
      (23, 6815743, ⟨(some 66), (some (61, false)), .fieldAddr 0 (.t 65)⟩),
      (24, 15204351, ⟨(some 67), (some (61, false)), .load false 1 (.t 66)⟩),
      (25, 31981567, ⟨(some 68), (some (61, false)), .len (.t 67)⟩),
      (20, 1048575, ⟨(some 63), (some (61, false)), .call (.c (.func (.func 19) #[] #[])) [(.t 62)]⟩),
      (26, 67108863, ⟨(some 69), (some (61, false)), .bin .neq 3 (.t 63) (.t 68)⟩),
      (27, 134217727, ⟨(some 70), none, .pick (.t 61) (.c (.bool true)) (.t 69)⟩),
      (28, 268435455, ⟨(some 71), none, .move (.t 70)⟩),
      (29, 536870911, ⟨(some 72), (some (71, false)), .move (.t 5)⟩),
      (31, 536870911, ⟨(some 74), (some (71, false)), .move (.t 6)⟩),
      (32, 2684354559, ⟨(some 75), (some (71, false)), .nilCheck (.t 74)⟩),
      (33, 6979321855, ⟨(some 76), (some (71, false)), .fieldAddr 1 (.t 75)⟩),
      (34, 15569256447, ⟨(some 77), (some (71, false)), .load false 1 (.t 76)⟩),
      (35, 32749125631, ⟨(some 78), (some (71, false)), .len (.t 77)⟩),
      (30, 1073741823, ⟨(some 73), (some (71, false)), .call (.c (.func (.func 14) #[] #[])) [(.t 72)]⟩),
      (36, 68719476735, ⟨(some 79), (some (71, false)), .bin .neq 3 (.t 73) (.t 78)⟩),
      (37, 137438953471, ⟨(some 80), none, .pick (.t 71) (.c (.bool true)) (.t 79)⟩)] (some [0, 1, 5, 6, 7, 80]))
    (.cond (.t 80)
     (.seq (.ops [⟨(some 4), none, .move (.c (.bool false))⟩] (some [4]))
     .ret)
     .skip))
    (.seq (.ops [⟨(some 82), none, .move (.t 5)⟩,
      ⟨(some 83), none, .move (.t 1)⟩,
      ⟨(some 84), none, .call (.c (.func (.func 20) #[] #[])) [(.t 82), (.t 83)]⟩,
      ⟨(some 81), none, .move (.t 84)⟩,
      ⟨(some 85), none, .extract (.t 81) 0⟩,
      ⟨(some 86), none, .extract (.t 81) 1⟩,
      ⟨(some 8), none, .alloc [(.string .empty), (.bool false), (.bool false), (.string .empty), (.int .u64 0)]⟩,
      ⟨none, none, .store 5 (.t 8) (.t 85)⟩,
      ⟨(some 9), none, .move (.t 86)⟩] (some [0, 1, 5, 6, 7, 8, 9]))
    (.seq (.ops [⟨(some 88), none, .move (.t 6)⟩,
      ⟨(some 89), none, .move (.t 1)⟩,
      ⟨(some 90), none, .call (.c (.func (.func 21) #[] #[])) [(.t 88), (.t 89)]⟩,
      ⟨(some 87), none, .move (.t 90)⟩,
      ⟨(some 91), none, .extract (.t 87) 0⟩,
      ⟨(some 92), none, .extract (.t 87) 1⟩,
      ⟨(some 10), none, .alloc [(.string .empty), (.bool false), (.bool false), (.string .empty), (.int .u64 0)]⟩,
      ⟨none, none, .store 5 (.t 10) (.t 91)⟩,
      ⟨(some 11), none, .move (.t 92)⟩] (some [0, 1, 5, 6, 7, 8, 9, 10, 11]))
    (.seq (.ops [⟨(some 94), none, .move (.t 5)⟩,
      ⟨(some 95), none, .move (.t 1)⟩,
      ⟨(some 96), none, .call (.c (.func (.func 22) #[] #[])) [(.t 94), (.t 95)]⟩,
      ⟨(some 93), none, .move (.t 96)⟩,
      ⟨(some 97), none, .extract (.t 93) 0⟩,
      ⟨(some 98), none, .extract (.t 93) 1⟩,
      ⟨(some 12), none, .alloc [(.string .empty), (.bool false), (.bool false), (.string .empty), (.int .u64 0)]⟩,
      ⟨none, none, .store 5 (.t 12) (.t 97)⟩,
      ⟨(some 13), none, .move (.t 98)⟩] (some [0, 1, 5, 6, 7, 8, 9, 10, 11, 12, 13]))
    (.seq (.ops [⟨(some 100), none, .move (.t 6)⟩,
      ⟨(some 101), none, .move (.t 1)⟩,
      ⟨(some 102), none, .call (.c (.func (.func 23) #[] #[])) [(.t 100), (.t 101), (.c (.bool true))]⟩,
      ⟨(some 99), none, .move (.t 102)⟩,
      ⟨(some 103), none, .extract (.t 99) 0⟩,
      ⟨(some 104), none, .extract (.t 99) 1⟩,
      ⟨(some 14), none, .alloc [(.string .empty), (.bool false), (.bool false), (.string .empty), (.int .u64 0)]⟩,
      ⟨none, none, .store 5 (.t 14) (.t 103)⟩,
      ⟨(some 15), none, .move (.t 104)⟩] (some [0, 1, 5, 6, 7, 8, 9, 10, 11, 12, 13, 14, 15]))
    (.seq (.ops [⟨(some 106), none, .move (.t 5)⟩,
      ⟨(some 107), none, .move (.t 1)⟩,
      ⟨(some 108), none, .call (.c (.func (.func 24) #[] #[])) [(.t 106), (.t 107)]⟩,
      ⟨(some 105), none, .move (.t 108)⟩,
      ⟨(some 109), none, .extract (.t 105) 0⟩,
      ⟨(some 110), none, .extract (.t 105) 1⟩,
      ⟨(some 16), none, .alloc [(.string .empty), (.bool false), (.bool false), (.string .empty), (.int .u64 0)]⟩,
      ⟨none, none, .store 5 (.t 16) (.t 109)⟩,
      ⟨(some 17), none, .move (.t 110)⟩] (some [0, 1, 5, 6, 7, 8, 9, 10, 11, 12, 13, 14, 15, 16, 17]))
    (.seq (.ops [⟨(some 112), none, .move (.t 6)⟩,
      ⟨(some 113), none, .move (.t 1)⟩,
      ⟨(some 114), none, .call (.c (.func (.func 23) #[] #[])) [(.t 112), (.t 113), (.c (.bool false))]⟩,
      ⟨(some 111), none, .move (.t 114)⟩,
      ⟨(some 115), none, .extract (.t 111) 0⟩,
      ⟨(some 116), none, .extract (.t 111) 1⟩,
      ⟨(some 18), none, .alloc [(.string .empty), (.bool false), (.bool false), (.string .empty), (.int .u64 0)]⟩,
      ⟨none, none, .store 5 (.t 18) (.t 115)⟩,
      ⟨(some 19), none, .move (.t 116)⟩] (some [0, 1, 5, 6, 7, 8, 9, 10, 11, 12, 13, 14, 15, 16, 17, 18, 19]))
    (.seq (.ops [⟨(some 117), none, .load true 5 (.t 8)⟩,
      ⟨(some 118), none, .load true 5 (.t 10)⟩,
      ⟨(some 119), none, .bin .neq 49 (.t 117) (.t 118)⟩,
      ⟨(some 120), none, .move (.t 119)⟩,
      ⟨(some 121), (some (120, false)), .move (.t 9)⟩,
      ⟨(some 122), (some (120, false)), .move (.t 11)⟩,
      ⟨(some 123), (some (120, false)), .bin .neq 4 (.t 121) (.t 122)⟩,
      ⟨(some 124), none, .pick (.t 120) (.c (.bool true)) (.t 123)⟩,
      ⟨(some 125), none, .move (.t 124)⟩,
      ⟨(some 126), (some (125, false)), .load true 5 (.t 12)⟩,
      ⟨(some 127), (some (125, false)), .load true 5 (.t 14)⟩,
      ⟨(some 128), (some (125, false)), .bin .neq 49 (.t 126) (.t 127)⟩,
      ⟨(some 129), none, .pick (.t 125) (.c (.bool true)) (.t 128)⟩,
      ⟨(some 130), none, .move (.t 129)⟩,
      ⟨(some 131), (some (130, false)), .move (.t 13)⟩,
      ⟨(some 132), (some (130, false)), .move (.t 15)⟩,
      ⟨(some 133), (some (130, false)), .bin .neq 4 (.t 131) (.t 132)⟩,
      ⟨(some 134), none, .pick (.t 130) (.c (.bool true)) (.t 133)⟩,
      ⟨(some 135), none, .move (.t 134)⟩,
      ⟨(some 136), (some (135, false)), .load true 5 (.t 16)⟩,
      ⟨(some 137), (some (135, false)), .load true 5 (.t 18)⟩,
      ⟨(some 138), (some (135, false)), .bin .neq 49 (.t 136) (.t 137)⟩,
      ⟨(some 139), none, .pick (.t 135) (.c (.bool true)) (.t 138)⟩,
      ⟨(some 140), none, .move (.t 139)⟩,
      ⟨(some 141), (some (140, false)), .move (.t 17)⟩,
      ⟨(some 142), (some (140, false)), .move (.t 19)⟩,
      ⟨(some 143), (some (140, false)), .bin .neq 4 (.t 141) (.t 142)⟩,
      ⟨(some 144), none, .pick (.t 140) (.c (.bool true)) (.t 143)⟩] (some [0, 1, 5, 6, 7, 144]))
    (.cond (.t 144)
     (.seq (.ops [⟨(some 4), none, .move (.c (.bool false))⟩] (some [4]))
     .ret)
     .skip)))))))))))
   (.ops [⟨(some 36), none, .move (.t 7)⟩,
     ⟨(some 37), none, .bin .add 3 (.t 36) (.c (.int .i64 1))⟩,
     ⟨(some 7), none, .move (.t 37)⟩] (some [0, 1, 5, 6, 7])))))))
 (.seq (.ops [⟨(some 4), none, .move (.c (.bool true))⟩] (some [4]))
 .ret))))))), [.tmp 4]⟩

theorem is5 : FnIs Try.prog 5 x5 := ⟨Try.f5, _, Try.func5, by kernel_rfl, rfl, by kernel_rfl, by decide, by kernel_rfl⟩

/-- cloisonne/cloisonnelaw12.awake -/
def x8 : XDecl := .code ⟨0, 
 (.seq (.ops [⟨(some 0), none, .move (.c (.bool false))⟩] (some []))
 (.seq (.ops [⟨(some 9), none, .call (.c (.func (.func 9) #[] #[])) []⟩,
   ⟨(some 1), none, .move (.t 9)⟩] (some [1]))
 (.seq (.ops [⟨(some 10), none, .move (.t 1)⟩,
   ⟨(some 11), none, .build [(.bool false), (.string .empty), (.int .u64 0)] [(0, 1), (1, 1), (2, 1)] [(1, (.c (.string ⟨#[120]⟩)))]⟩,
   ⟨(some 12), none, .call (.c (.func (.func 17) #[] #[])) [(.t 10), (.c (.string ⟨#[97]⟩)), (.t 11)]⟩,
   ⟨(some 2), none, .move (.t 12)⟩] (some [1, 2]))
 (.seq (.ops [⟨(some 14), none, .move (.t 1)⟩,
   ⟨(some 15), none, .call (.c (.func (.func 13) #[] #[])) [(.t 14)]⟩,
   ⟨(some 13), none, .move (.t 15)⟩,
   ⟨(some 16), none, .extract (.t 13) 0⟩,
   ⟨(some 17), none, .extract (.t 13) 1⟩,
   ⟨(some 3), none, .move (.t 16)⟩,
   ⟨(some 4), none, .move (.t 17)⟩] (some [1, 2, 3, 4]))
 (.seq (.ops [⟨(some 18), none, .move (.t 1)⟩,
   ⟨(some 19), none, .call (.c (.func (.func 18) #[] #[])) [(.t 18), (.c (.string ⟨#[97]⟩))]⟩,
   ⟨(some 5), none, .move (.t 19)⟩] (some [1, 2, 3, 4, 5]))
 (.seq (.ops [⟨(some 20), none, .move (.t 1)⟩,
   ⟨(some 21), none, .call (.c (.func (.func 15) #[] #[])) [(.t 20), (.c (.int .i64 1))]⟩,
   ⟨(some 6), none, .move (.t 21)⟩] (some [1, 2, 3, 4, 5, 6]))
 (.seq (.ops [⟨(some 23), none, .move (.t 1)⟩,
   ⟨(some 24), none, .call (.c (.func (.func 20) #[] #[])) [(.t 23), (.c (.string ⟨#[97]⟩))]⟩,
   ⟨(some 22), none, .move (.t 24)⟩,
   ⟨(some 25), none, .extract (.t 22) 0⟩,
   ⟨(some 26), none, .extract (.t 22) 1⟩,
   ⟨(some 7), none, .alloc [(.string .empty), (.bool false), (.bool false), (.string .empty), (.int .u64 0)]⟩,
   ⟨none, none, .store 5 (.t 7) (.t 25)⟩,
   ⟨(some 8), none, .move (.t 26)⟩] (some [2, 3, 4, 5, 6, 7, 8]))
 (.seq (.ops [⟨(some 27), none, .move (.t 2)⟩,
   ⟨(some 28), none, .bin .eql 39 (.t 27) (.c (.int .i64 0))⟩,
   ⟨(some 29), none, .move (.t 28)⟩,
   ⟨(some 30), (some (29, true)), .move (.t 3)⟩,
   ⟨(some 31), (some (29, true)), .bin .eql 3 (.t 30) (.c (.int .i64 1))⟩,
   ⟨(some 32), none, .pick (.t 29) (.t 31) (.c (.bool false))⟩,
   ⟨(some 33), none, .move (.t 32)⟩,
   ⟨(some 34), (some (33, true)), .move (.t 4)⟩,
   ⟨(some 35), (some (33, true)), .bin .eql 39 (.t 34) (.c (.int .i64 0))⟩,
   ⟨(some 36), none, .pick (.t 33) (.t 35) (.c (.bool false))⟩,
   ⟨(some 37), none, .move (.t 36)⟩,
   ⟨(some 38), (some (37, true)), .move (.t 5)⟩,
   ⟨(some 39), (some (37, true)), .bin .eql 39 (.t 38) (.c (.int .i64 0))⟩,
   ⟨(some 40), none, .pick (.t 37) (.t 39) (.c (.bool false))⟩,
   ⟨(some 41), none, .move (.t 40)⟩,
   ⟨(some 42), (some (41, true)), .move (.t 6)⟩,
   ⟨(some 43), (some (41, true)), .bin .eql 39 (.t 42) (.c (.int .i64 0))⟩,
   ⟨(some 44), none, .pick (.t 41) (.t 43) (.c (.bool false))⟩,
   ⟨(some 45), none, .move (.t 44)⟩,
   ⟨(some 46), (some (45, true)), .move (.t 8)⟩,
   ⟨(some 47), none, .pick (.t 45) (.t 46) (.c (.bool false))⟩,
   ⟨(some 48), none, .move (.t 47)⟩,
   ⟨(some 49), (some (48, true)), .fieldAddr 1 (.t 7)⟩,
   ⟨(some 50), (some (48, true)), .load false 1 (.t 49)⟩,
   ⟨(some 51), (some (48, true)), .un .not (.t 50)⟩,
   ⟨(some 52), none, .pick (.t 48) (.t 51) (.c (.bool false))⟩,
   ⟨(some 53), none, .move (.t 52)⟩,
   ⟨(some 54), (some (53, true)), .fieldAddr 2 (.t 7)⟩,
   ⟨(some 55), (some (53, true)), .fieldAddr 1 (.t 54)⟩,
   ⟨(some 56), (some (53, true)), .load false 1 (.t 55)⟩,
   ⟨(some 57), (some (53, true)), .bin .eql 9 (.t 56) (.c (.string ⟨#[120]⟩))⟩,
   ⟨(some 58), none, .pick (.t 53) (.t 57) (.c (.bool false))⟩,
   ⟨(some 0), none, .move (.t 58)⟩] (some [0]))
 .ret)))))))), [.tmp 0]⟩

theorem is8 : FnIs Try.prog 8 x8 := ⟨Try.f8, _, Try.func8, by kernel_rfl, rfl, by kernel_rfl, by decide, by kernel_rfl⟩

/-- cloisonne/wset.New -/
def x9 : XDecl := .code ⟨0, 
 (.seq (.ops [⟨(some 0), none, .move (.c (.pointer none))⟩] (some []))
 (.seq (.ops [⟨(some 1), none, .build [(.slice none 0 0), (.slice none 0 0), (.slice none 0 0)] [(0, 1), (1, 1), (2, 1)] []⟩,
   ⟨(some 2), none, .box (.t 1)⟩,
   ⟨(some 0), none, .move (.t 2)⟩] (some [0]))
 .ret)), [.tmp 0]⟩

theorem is9 : FnIs Try.prog 9 x9 := ⟨Try.f9, _, Try.func9, by kernel_rfl, rfl, by kernel_rfl, by decide, by kernel_rfl⟩

/-- cloisonne/cloisonnelaw12.far -/
def x10 : XDecl := .code ⟨1, 
 (.seq (.ops [⟨(some 1), none, .box (.t 0)⟩,
   ⟨(some 2), none, .move (.c (.bool false))⟩] (some [1]))
 (.seq (.ops [⟨(some 3), none, .fieldAddr 1 (.t 1)⟩,
   ⟨(some 4), none, .load false 1 (.t 3)⟩,
   ⟨(some 5), none, .calcB .len [9] 3 [(.t 4)]⟩,
   ⟨(some 6), none, .bin .gtr 3 (.t 5) (.c (.int .i64 200))⟩,
   ⟨(some 7), none, .move (.t 6)⟩,
   ⟨(some 8), (some (7, false)), .fieldAddr 2 (.t 1)⟩,
   ⟨(some 9), (some (7, false)), .fieldAddr 1 (.t 8)⟩,
   ⟨(some 10), (some (7, false)), .load false 1 (.t 9)⟩,
   ⟨(some 11), (some (7, false)), .calcB .len [9] 3 [(.t 10)]⟩,
   ⟨(some 12), (some (7, false)), .bin .gtr 3 (.t 11) (.c (.int .i64 200))⟩,
   ⟨(some 13), none, .pick (.t 7) (.c (.bool true)) (.t 12)⟩,
   ⟨(some 2), none, .move (.t 13)⟩] (some [2]))
 .ret)), [.tmp 2]⟩

theorem is10 : FnIs Try.prog 10 x10 := ⟨Try.f10, _, Try.func10, by kernel_rfl, rfl, by kernel_rfl, by decide, by kernel_rfl⟩

/-- cloisonne/cloisonnelaw12.does -/
def x11 : XDecl := .code ⟨3, 
 (.seq (.ops [⟨(some 5), none, .box (.t 2)⟩,
   ⟨(some 6), none, .move (.c (.bool false))⟩] (some [0, 1, 5]))
 (.seq (.seq (.ops [⟨(some 11), none, .fieldAddr 0 (.t 5)⟩,
   ⟨(some 12), none, .load false 1 (.t 11)⟩] (some [0, 1, 5, 12]))
 (.block 0
  (.seq (.ops [⟨(some 14), none, .bin .eql 3 (.t 12) (.c (.int .i64 1))⟩,
    ⟨(some 13), none, .move (.t 14)⟩] (some [0, 1, 5, 12, 13]))
  (.cond (.t 13)
   (.seq (.opsd [(0, 0, ⟨(some 15), none, .move (.t 0)⟩),
     (1, 0, ⟨(some 16), none, .fieldAddr 1 (.t 5)⟩),
     (2, 2, ⟨(some 17), none, .load false 1 (.t 16)⟩),
     (3, 0, ⟨(some 18), none, .fieldAddr 2 (.t 5)⟩),
     (4, 8, ⟨(some 19), none, .load true 3 (.t 18)⟩),
     (6, 0, ⟨(some 21), none, .move (.t 1)⟩),
     (7, 0, ⟨(some 22), none, .fieldAddr 1 (.t 5)⟩),
     (8, 128, ⟨(some 23), none, .load false 1 (.t 22)⟩),
     (9, 0, ⟨(some 24), none, .fieldAddr 2 (.t 5)⟩),
     (10, 512, ⟨(some 25), none, .load true 3 (.t 24)⟩),
     (11, 1920, ⟨(some 26), none, .build [(.string .empty), (.bool false), (.bool false), (.string .empty), (.int .u64 0)] [(0, 1), (1, 1), (2, 3)] [(0, (.t 23)), (2, (.t 25))]⟩),
     (5, 31, ⟨(some 20), none, .call (.c (.func (.func 17) #[] #[])) [(.t 15), (.t 17), (.t 19)]⟩),
     (12, 4095, ⟨(some 27), none, .call (.c (.func (.func 36) #[] #[])) [(.t 21), (.t 26)]⟩),
     (13, 8191, ⟨(some 28), none, .bin .eql 39 (.t 20) (.t 27)⟩),
     (14, 16383, ⟨(some 6), none, .move (.t 28)⟩)] (some [6]))
   .ret)
   (.seq (.ops [⟨(some 30), none, .bin .eql 3 (.t 12) (.c (.int .i64 2))⟩,
     ⟨(some 29), none, .move (.t 30)⟩] (some [0, 1, 5, 12, 29]))
   (.cond (.t 29)
    (.seq (.opsd [(0, 0, ⟨(some 31), none, .move (.t 0)⟩),
      (1, 0, ⟨(some 32), none, .fieldAddr 1 (.t 5)⟩),
      (2, 2, ⟨(some 33), none, .load false 1 (.t 32)⟩),
      (4, 0, ⟨(some 35), none, .move (.t 1)⟩),
      (5, 0, ⟨(some 36), none, .fieldAddr 1 (.t 5)⟩),
      (6, 32, ⟨(some 37), none, .load false 1 (.t 36)⟩),
      (7, 96, ⟨(some 38), none, .build [(.string .empty), (.bool false), (.bool false), (.string .empty), (.int .u64 0)] [(0, 1), (1, 1), (2, 3)] [(0, (.t 37)), (1, (.c (.bool true)))]⟩),
      (3, 7, ⟨(some 34), none, .call (.c (.func (.func 18) #[] #[])) [(.t 31), (.t 33)]⟩),
      (8, 255, ⟨(some 39), none, .call (.c (.func (.func 36) #[] #[])) [(.t 35), (.t 38)]⟩),
      (9, 511, ⟨(some 40), none, .bin .eql 39 (.t 34) (.t 39)⟩),
      (10, 1023, ⟨(some 6), none, .move (.t 40)⟩)] (some [6]))
    .ret)
    (.seq (.ops [⟨(some 42), none, .bin .eql 3 (.t 12) (.c (.int .i64 3))⟩,
      ⟨(some 41), none, .move (.t 42)⟩] (some [0, 1, 5, 12, 41]))
    (.cond (.t 41)
     (.seq (.ops [⟨(some 44), none, .move (.t 0)⟩,
       ⟨(some 45), none, .call (.c (.func (.func 13) #[] #[])) [(.t 44)]⟩,
       ⟨(some 43), none, .move (.t 45)⟩,
       ⟨(some 46), none, .extract (.t 43) 0⟩,
       ⟨(some 47), none, .extract (.t 43) 1⟩,
       ⟨(some 7), none, .move (.t 46)⟩,
       ⟨(some 8), none, .move (.t 47)⟩] (some [1, 7, 8]))
     (.seq (.ops [⟨(some 49), none, .move (.t 1)⟩,
       ⟨(some 50), none, .call (.c (.func (.func 37) #[] #[])) [(.t 49)]⟩,
       ⟨(some 48), none, .move (.t 50)⟩,
       ⟨(some 51), none, .extract (.t 48) 0⟩,
       ⟨(some 52), none, .extract (.t 48) 1⟩,
       ⟨(some 9), none, .move (.t 51)⟩,
       ⟨(some 10), none, .move (.t 52)⟩] (some [7, 8, 9, 10]))
     (.seq (.ops [⟨(some 53), none, .move (.t 7)⟩,
       ⟨(some 54), none, .move (.t 9)⟩,
       ⟨(some 55), none, .bin .eql 3 (.t 53) (.t 54)⟩,
       ⟨(some 56), none, .move (.t 55)⟩,
       ⟨(some 57), (some (56, true)), .move (.t 8)⟩,
       ⟨(some 58), (some (56, true)), .move (.t 10)⟩,
       ⟨(some 59), (some (56, true)), .bin .eql 39 (.t 57) (.t 58)⟩,
       ⟨(some 60), none, .pick (.t 56) (.t 59) (.c (.bool false))⟩,
       ⟨(some 6), none, .move (.t 60)⟩] (some [6]))
     .ret)))
     (.seq (.ops [⟨(some 62), none, .bin .eql 3 (.t 12) (.c (.int .i64 4))⟩,
       ⟨(some 61), none, .move (.t 62)⟩] (some [0, 1, 5, 61]))
     (.cond (.t 61)
      (.seq (.opsd [(0, 0, ⟨(some 63), none, .move (.t 0)⟩),
        (1, 0, ⟨(some 64), none, .fieldAddr 5 (.t 5)⟩),
        (2, 2, ⟨(some 65), none, .load false 1 (.t 64)⟩),
        (4, 0, ⟨(some 67), none, .move (.t 1)⟩),
        (5, 0, ⟨(some 68), none, .fieldAddr 5 (.t 5)⟩),
        (6, 32, ⟨(some 69), none, .load false 1 (.t 68)⟩),
        (3, 7, ⟨(some 66), none, .call (.c (.func (.func 15) #[] #[])) [(.t 63), (.t 65)]⟩),
        (7, 127, ⟨(some 70), none, .call (.c (.func (.func 38) #[] #[])) [(.t 67), (.t 69)]⟩),
        (8, 255, ⟨(some 71), none, .bin .eql 39 (.t 66) (.t 70)⟩),
        (9, 511, ⟨(some 6), none, .move (.t 71)⟩)] (some [6]))
      .ret)
      .skip))))))))))
 (.seq (.ops [⟨(some 6), none, .move (.c (.bool true))⟩] (some [6]))
 .ret))), [.tmp 6]⟩

theorem is11 : FnIs Try.prog 11 x11 := ⟨Try.f11, _, Try.func11, by kernel_rfl, rfl, by kernel_rfl, by decide, by kernel_rfl⟩

/-- (*cloisonne/wset.Set).All -/
def x12 : XDecl := .code ⟨1, 
 (.seq (.ops [⟨(some 2), none, .move (.c (.slice none 0 0))⟩] (some [0]))
 (.seq (.seq (.ops [⟨(some 3), none, .move (.t 0)⟩,
   ⟨(some 4), none, .isNil .ptr false (.t 3)⟩] (some [0, 4]))
 (.cond (.t 4)
  (.seq (.ops [⟨(some 2), none, .move (.c (.slice none 0 0))⟩] (some [2]))
  .ret)
  .skip))
 (.seq (.ops [⟨(some 5), none, .move (.t 0)⟩,
   ⟨(some 6), none, .nilCheck (.t 5)⟩,
   ⟨(some 7), none, .fieldAddr 0 (.t 6)⟩,
   ⟨(some 8), none, .load false 1 (.t 7)⟩,
   ⟨(some 9), none, .call (.c (.func (.func 39) #[] #[])) [(.t 8)]⟩,
   ⟨(some 2), none, .move (.t 9)⟩] (some [2]))
 .ret))), [.tmp 2]⟩

theorem is12 : FnIs Try.prog 12 x12 := ⟨Try.f12, _, Try.func12, by kernel_rfl, rfl, by kernel_rfl, by decide, by kernel_rfl⟩

/-- (*cloisonne/wset.Set).Mark -/
def x13 : XDecl := .code ⟨1, 
 (.seq (.ops [⟨(some 2), none, .move (.c (.int .i64 0))⟩,
   ⟨(some 3), none, .move (.c (.int .i64 0))⟩] (some [0]))
 (.seq (.block 0
  (.seq (.ops [⟨(some 5), none, .move (.t 0)⟩,
    ⟨(some 6), none, .isNil .ptr false (.t 5)⟩,
    ⟨(some 4), none, .move (.t 6)⟩] (some [0, 4]))
  (.cond (.t 4)
   (.seq (.ops [⟨(some 2), none, .move (.c (.int .i64 0))⟩,
     ⟨(some 3), none, .move (.c (.int .i64 2))⟩] (some [2, 3]))
   .ret)
   (.seq (.ops [⟨(some 8), none, .move (.t 0)⟩,
     ⟨(some 9), none, .nilCheck (.t 8)⟩,
     ⟨(some 10), none, .fieldAddr 2 (.t 9)⟩,
     ⟨(some 11), none, .load false 1 (.t 10)⟩,
     ⟨(some 12), none, .len (.t 11)⟩,
     ⟨(some 13), none, .bin .geq 3 (.t 12) (.c (.int .i64 4))⟩,
     ⟨(some 7), none, .move (.t 13)⟩] (some [0, 7]))
   (.cond (.t 7)
    (.seq (.ops [⟨(some 2), none, .move (.c (.int .i64 0))⟩,
      ⟨(some 3), none, .move (.c (.int .i64 5))⟩] (some [2, 3]))
    .ret)
    .skip)))))
 (.seq (.opsd [(0, 0, ⟨(some 14), none, .move (.t 0)⟩),
   (1, 0, ⟨(some 15), none, .move (.t 0)⟩),
   (2, 2, ⟨(some 16), none, .nilCheck (.t 15)⟩),
   (3, 6, ⟨(some 17), none, .fieldAddr 2 (.t 16)⟩),
   (4, 14, ⟨(some 18), none, .load false 1 (.t 17)⟩),
   (5, 0, ⟨(some 19), none, .move (.t 0)⟩),
   (6, 32, ⟨(some 20), none, .nilCheck (.t 19)⟩),
   (7, 96, ⟨(some 21), none, .fieldAddr 1 (.t 20)⟩),
   (8, 224, ⟨(some 22), none, .load false 1 (.t 21)⟩),
   (9, 480, ⟨(some 23), none, .len (.t 22)⟩),
   (10, 992, ⟨(some 24), none, .buildSlice [(.int .i64 0)] 1 1 [(0, (.t 23))]⟩),
   (11, 2046, ⟨(some 25), none, .append 1 8 [(.int .i64 0)] (.t 18) (.t 24)⟩),
   (12, 4095, ⟨(some 26), none, .nilCheck (.t 14)⟩),
   (13, 8191, ⟨(some 27), none, .fieldAddr 2 (.t 26)⟩),
   (14, 16383, ⟨none, none, .store 1 (.t 27) (.t 25)⟩)] (some [0]))
 (.seq (.ops [⟨(some 28), none, .move (.t 0)⟩,
   ⟨(some 29), none, .nilCheck (.t 28)⟩,
   ⟨(some 30), none, .fieldAddr 2 (.t 29)⟩,
   ⟨(some 31), none, .load false 1 (.t 30)⟩,
   ⟨(some 32), none, .len (.t 31)⟩,
   ⟨(some 2), none, .move (.t 32)⟩,
   ⟨(some 3), none, .move (.c (.int .i64 0))⟩] (some [2, 3]))
 .ret)))), [.tmp 2, .tmp 3]⟩

theorem is13 : FnIs Try.prog 13 x13 := ⟨Try.f13, _, Try.func13, by kernel_rfl, rfl, by kernel_rfl, by decide, by kernel_rfl⟩

/-- (*cloisonne/wset.Set).Marks -/
def x14 : XDecl := .code ⟨1, 
 (.seq (.ops [⟨(some 2), none, .move (.c (.int .i64 0))⟩] (some [0]))
 (.seq (.seq (.ops [⟨(some 3), none, .move (.t 0)⟩,
   ⟨(some 4), none, .isNil .ptr false (.t 3)⟩] (some [0, 4]))
 (.cond (.t 4)
  (.seq (.ops [⟨(some 2), none, .move (.c (.int .i64 0))⟩] (some [2]))
  .ret)
  .skip))
 (.seq (.ops [⟨(some 5), none, .move (.t 0)⟩,
   ⟨(some 6), none, .nilCheck (.t 5)⟩,
   ⟨(some 7), none, .fieldAddr 2 (.t 6)⟩,
   ⟨(some 8), none, .load false 1 (.t 7)⟩,
   ⟨(some 9), none, .len (.t 8)⟩,
   ⟨(some 2), none, .move (.t 9)⟩] (some [2]))
 .ret))), [.tmp 2]⟩

theorem is14 : FnIs Try.prog 14 x14 := ⟨Try.f14, _, Try.func14, by kernel_rfl, rfl, by kernel_rfl, by decide, by kernel_rfl⟩

/-- (*cloisonne/wset.Set).Back -/
def x15 : XDecl := .code ⟨2, 
 (.seq (.ops [⟨(some 4), none, .move (.c (.int .i64 0))⟩] (some [0, 1]))
 (.seq (.block 0
  (.seq (.ops [⟨(some 9), none, .move (.t 0)⟩,
    ⟨(some 10), none, .isNil .ptr false (.t 9)⟩,
    ⟨(some 8), none, .move (.t 10)⟩] (some [0, 1, 8]))
  (.cond (.t 8)
   (.seq (.ops [⟨(some 4), none, .move (.c (.int .i64 2))⟩] (some [4]))
   .ret)
   (.seq (.ops [⟨(some 12), none, .move (.t 1)⟩,
     ⟨(some 13), none, .bin .lss 3 (.t 12) (.c (.int .i64 1))⟩,
     ⟨(some 14), none, .move (.t 13)⟩,
     ⟨(some 15), (some (14, false)), .move (.t 1)⟩,
     ⟨(some 16), (some (14, false)), .move (.t 0)⟩,
     ⟨(some 17), (some (14, false)), .nilCheck (.t 16)⟩,
     ⟨(some 18), (some (14, false)), .fieldAddr 2 (.t 17)⟩,
     ⟨(some 19), (some (14, false)), .load false 1 (.t 18)⟩,
     ⟨(some 20), (some (14, false)), .len (.t 19)⟩,
     ⟨(some 21), (some (14, false)), .bin .gtr 3 (.t 15) (.t 20)⟩,
     ⟨(some 22), none, .pick (.t 14) (.c (.bool true)) (.t 21)⟩,
     ⟨(some 11), none, .move (.t 22)⟩] (some [0, 1, 11]))
   (.cond (.t 11)
    (.seq (.ops [⟨(some 4), none, .move (.c (.int .i64 7))⟩] (some [4]))
    .ret)
    .skip)))))
 (.seq (.ops [⟨(some 23), none, .move (.t 0)⟩,
   ⟨(some 24), none, .move (.t 0)⟩,
   ⟨(some 25), none, .nilCheck (.t 24)⟩,
   ⟨(some 26), none, .fieldAddr 2 (.t 25)⟩,
   ⟨(some 27), none, .load false 1 (.t 26)⟩,
   ⟨(some 28), none, .move (.t 1)⟩,
   ⟨(some 29), none, .slice 1 (.t 27) none (some (.t 28)) none⟩,
   ⟨(some 30), none, .nilCheck (.t 23)⟩,
   ⟨(some 31), none, .fieldAddr 2 (.t 30)⟩,
   ⟨none, none, .store 1 (.t 31) (.t 29)⟩] (some [0, 1]))
 (.seq (.ops [⟨(some 32), none, .move (.t 0)⟩,
   ⟨(some 33), none, .nilCheck (.t 32)⟩,
   ⟨(some 34), none, .fieldAddr 2 (.t 33)⟩,
   ⟨(some 35), none, .load false 1 (.t 34)⟩,
   ⟨(some 36), none, .move (.t 1)⟩,
   ⟨(some 37), none, .bin .sub 3 (.t 36) (.c (.int .i64 1))⟩,
   ⟨(some 38), none, .indexAddr 1 (.t 35) (.t 37)⟩,
   ⟨(some 39), none, .load false 1 (.t 38)⟩,
   ⟨(some 5), none, .move (.t 39)⟩] (some [0, 5]))
 (.seq (.seq (.ops [⟨(some 40), none, .move (.t 0)⟩,
   ⟨(some 41), none, .nilCheck (.t 40)⟩,
   ⟨(some 42), none, .fieldAddr 1 (.t 41)⟩,
   ⟨(some 43), none, .load false 1 (.t 42)⟩,
   ⟨(some 44), none, .len (.t 43)⟩,
   ⟨(some 45), none, .bin .sub 3 (.t 44) (.c (.int .i64 1))⟩,
   ⟨(some 6), none, .move (.t 45)⟩] (some [0, 5, 6]))
 (.block 1
  (.loop
   (.seq (.seq (.ops [⟨(some 46), none, .move (.t 6)⟩,
     ⟨(some 47), none, .move (.t 5)⟩,
     ⟨(some 48), none, .bin .geq 3 (.t 46) (.t 47)⟩] (some [0, 5, 6, 48]))
   (.cond (.t 48)
    .skip
    (.exit 1)))
   (.seq (.block 2
    (.seq (.ops [⟨(some 51), none, .move (.t 0)⟩,
      ⟨(some 52), none, .nilCheck (.t 51)⟩,
      ⟨(some 53), none, .fieldAddr 1 (.t 52)⟩,
      ⟨(some 54), none, .load false 1 (.t 53)⟩,
      ⟨(some 55), none, .move (.t 6)⟩,
      ⟨(some 56), none, .indexAddr 7 (.t 54) (.t 55)⟩,
      ⟨(some 57), none, .load true 7 (.t 56)⟩,
      ⟨(some 7), none, .alloc [(.string .empty), (.string .empty), (.bool false), (.bool false), (.string .empty), (.int .u64 0), (.bool false)]⟩,
      ⟨none, none, .store 7 (.t 7) (.t 57)⟩] (some [0, 5, 6, 7]))
    (.seq (.ops [⟨(some 58), none, .fieldAddr 0 (.t 7)⟩,
      ⟨(some 59), none, .load false 1 (.t 58)⟩,
      ⟨(some 60), none, .fieldAddr 1 (.t 7)⟩,
      ⟨(some 61), none, .fieldAddr 0 (.t 60)⟩,
      ⟨none, none, .store 1 (.t 61) (.t 59)⟩] (some [0, 5, 6, 7]))
    (.ops [⟨(some 62), none, .move (.t 0)⟩,
      ⟨(some 63), none, .fieldAddr 1 (.t 7)⟩,
      ⟨(some 64), none, .load true 5 (.t 63)⟩,
      ⟨(some 65), none, .fieldAddr 6 (.t 7)⟩,
      ⟨(some 66), none, .load false 1 (.t 65)⟩,
      ⟨(some 67), none, .call (.c (.func (.func 40) #[] #[])) [(.t 62), (.t 64), (.t 66)]⟩] (some [0, 5, 6])))))
   (.ops [⟨(some 49), none, .move (.t 6)⟩,
     ⟨(some 50), none, .bin .sub 3 (.t 49) (.c (.int .i64 1))⟩,
     ⟨(some 6), none, .move (.t 50)⟩] (some [0, 5, 6])))))))
 (.seq (.ops [⟨(some 68), none, .move (.t 0)⟩,
   ⟨(some 69), none, .move (.t 0)⟩,
   ⟨(some 70), none, .nilCheck (.t 69)⟩,
   ⟨(some 71), none, .fieldAddr 1 (.t 70)⟩,
   ⟨(some 72), none, .load false 1 (.t 71)⟩,
   ⟨(some 73), none, .move (.t 5)⟩,
   ⟨(some 74), none, .slice 7 (.t 72) none (some (.t 73)) none⟩,
   ⟨(some 75), none, .nilCheck (.t 68)⟩,
   ⟨(some 76), none, .fieldAddr 1 (.t 75)⟩,
   ⟨none, none, .store 1 (.t 76) (.t 74)⟩] (some []))
 (.seq (.ops [⟨(some 4), none, .move (.c (.int .i64 0))⟩] (some [4]))
 .ret))))))), [.tmp 4]⟩

theorem is15 : FnIs Try.prog 15 x15 := ⟨Try.f15, _, Try.func15, by kernel_rfl, rfl, by kernel_rfl, by decide, by kernel_rfl⟩

/-- cloisonne/cloisonneref12.Same -/
def x16 : XDecl := .code ⟨2, 
 (.seq (.ops [⟨(some 4), none, .move (.c (.bool false))⟩] (some [0, 1]))
 (.seq (.seq (.ops [⟨(some 6), none, .move (.t 0)⟩,
   ⟨(some 7), none, .len (.t 6)⟩,
   ⟨(some 8), none, .move (.t 1)⟩,
   ⟨(some 9), none, .len (.t 8)⟩,
   ⟨(some 10), none, .bin .neq 3 (.t 7) (.t 9)⟩] (some [0, 1, 10]))
 (.cond (.t 10)
  (.seq (.ops [⟨(some 4), none, .move (.c (.bool false))⟩] (some [4]))
  .ret)
  .skip))
 (.seq (.seq (.ops [⟨(some 5), none, .move (.c (.int .i64 0))⟩] (some [0, 1, 5]))
 (.block 0
  (.loop
   (.seq (.seq (.ops [⟨(some 11), none, .move (.t 5)⟩,
     ⟨(some 12), none, .move (.t 0)⟩,
     ⟨(some 13), none, .len (.t 12)⟩,
     ⟨(some 14), none, .bin .lss 3 (.t 11) (.t 13)⟩] (some [0, 1, 5, 14]))
   (.cond (.t 14)
    .skip
    (.exit 0)))
   (.seq (.block 1
    (.seq (.opsr [⟨(some 17), none, .move (.t 0)⟩,
      ⟨(some 18), none, .move (.t 5)⟩,
      ⟨(some 19), none, .indexAddr 5 (.t 17) (.t 18)⟩,
      ⟨(some 20), none, .load true 5 (.t 19)⟩,
      ⟨(some 21), none, .move (.t 1)⟩,
      ⟨(some 22), none, .move (.t 5)⟩,
      ⟨(some 23), none, .indexAddr 5 (.t 21) (.t 22)⟩,
      ⟨(some 24), none, .load true 5 (.t 23)⟩,
      ⟨(some 25), none, .bin .neq 49 (.t 20) (.t 24)⟩] (some [0, 1, 5, 25]))
    (.cond (.t 25)
     (.seq (.ops [⟨(some 4), none, .move (.c (.bool false))⟩] (some [4]))
     .ret)
     .skip)))
   (.ops [⟨(some 15), none, .move (.t 5)⟩,
     ⟨(some 16), none, .bin .add 3 (.t 15) (.c (.int .i64 1))⟩,
     ⟨(some 5), none, .move (.t 16)⟩] (some [0, 1, 5])))))))
 (.seq (.ops [⟨(some 4), none, .move (.c (.bool true))⟩] (some [4]))
 .ret)))), [.tmp 4]⟩

theorem is16 : FnIs Try.prog 16 x16 := ⟨Try.f16, _, Try.func16, by kernel_rfl, rfl, by kernel_rfl, by decide, by kernel_rfl⟩

/-- (*cloisonne/wset.Set).Put -/
def x17 : XDecl := .code ⟨3, 
 (.seq (.ops [⟨(some 5), none, .box (.t 2)⟩,
   ⟨(some 6), none, .move (.c (.int .i64 0))⟩] (some [0, 1, 5]))
 (.seq (.ops [⟨(some 7), none, .move (.t 0)⟩,
   ⟨(some 8), none, .move (.t 1)⟩,
   ⟨(some 9), none, .load true 3 (.t 5)⟩,
   ⟨(some 10), none, .build [(.string .empty), (.bool false), (.bool false), (.string .empty), (.int .u64 0)] [(0, 1), (1, 1), (2, 3)] [(0, (.t 8)), (2, (.t 9))]⟩,
   ⟨(some 11), none, .call (.c (.func (.func 41) #[] #[])) [(.t 7), (.t 10)]⟩,
   ⟨(some 6), none, .move (.t 11)⟩] (some [6]))
 .ret)), [.tmp 6]⟩

theorem is17 : FnIs Try.prog 17 x17 := ⟨Try.f17, _, Try.func17, by kernel_rfl, rfl, by kernel_rfl, by decide, by kernel_rfl⟩

/-- (*cloisonne/wset.Set).Del -/
def x18 : XDecl := .code ⟨2, 
 (.seq (.ops [⟨(some 4), none, .move (.c (.int .i64 0))⟩] (some [0, 1]))
 (.seq (.ops [⟨(some 5), none, .move (.t 0)⟩,
   ⟨(some 6), none, .move (.t 1)⟩,
   ⟨(some 7), none, .build [(.string .empty), (.bool false), (.bool false), (.string .empty), (.int .u64 0)] [(0, 1), (1, 1), (2, 3)] [(0, (.t 6)), (1, (.c (.bool true)))]⟩,
   ⟨(some 8), none, .call (.c (.func (.func 41) #[] #[])) [(.t 5), (.t 7)]⟩,
   ⟨(some 4), none, .move (.t 8)⟩] (some [4]))
 .ret)), [.tmp 4]⟩

theorem is18 : FnIs Try.prog 18 x18 := ⟨Try.f18, _, Try.func18, by kernel_rfl, rfl, by kernel_rfl, by decide, by kernel_rfl⟩

/-- (*cloisonne/wset.Set).Len -/
def x19 : XDecl := .code ⟨1, 
 (.seq (.ops [⟨(some 2), none, .move (.c (.int .i64 0))⟩] (some [0]))
 (.seq (.seq (.ops [⟨(some 3), none, .move (.t 0)⟩,
   ⟨(some 4), none, .isNil .ptr false (.t 3)⟩] (some [0, 4]))
 (.cond (.t 4)
  (.seq (.ops [⟨(some 2), none, .move (.c (.int .i64 0))⟩] (some [2]))
  .ret)
  .skip))
 (.seq (.ops [⟨(some 5), none, .move (.t 0)⟩,
   ⟨(some 6), none, .nilCheck (.t 5)⟩,
   ⟨(some 7), none, .fieldAddr 0 (.t 6)⟩,
   ⟨(some 8), none, .load false 1 (.t 7)⟩,
   ⟨(some 9), none, .len (.t 8)⟩,
   ⟨(some 2), none, .move (.t 9)⟩] (some [2]))
 .ret))), [.tmp 2]⟩

theorem is19 : FnIs Try.prog 19 x19 := ⟨Try.f19, _, Try.func19, by kernel_rfl, rfl, by kernel_rfl, by decide, by kernel_rfl⟩

/-- (*cloisonne/wset.Set).Get -/
def x20 : XDecl := .code ⟨2, 
 (.seq (.ops [⟨(some 4), none, .alloc [(.string .empty), (.bool false), (.bool false), (.string .empty), (.int .u64 0)]⟩,
   ⟨(some 5), none, .move (.c (.bool false))⟩] (some [0, 1, 4]))
 (.seq (.seq (.ops [⟨(some 8), none, .move (.t 0)⟩,
   ⟨(some 9), none, .isNil .ptr false (.t 8)⟩] (some [0, 1, 4, 9]))
 (.cond (.t 9)
  (.seq (.ops [⟨(some 10), none, .build [(.string .empty), (.bool false), (.bool false), (.string .empty), (.int .u64 0)] [(0, 1), (1, 1), (2, 3)] []⟩,
    ⟨none, none, .store 5 (.t 4) (.t 10)⟩,
    ⟨(some 5), none, .move (.c (.bool false))⟩] (some [4, 5]))
  .ret)
  .skip))
 (.seq (.ops [⟨(some 12), none, .move (.t 0)⟩,
   ⟨(some 13), none, .move (.t 1)⟩,
   ⟨(some 14), none, .call (.c (.func (.func 42) #[] #[])) [(.t 12), (.t 13)]⟩,
   ⟨(some 11), none, .move (.t 14)⟩,
   ⟨(some 15), none, .extract (.t 11) 0⟩,
   ⟨(some 16), none, .extract (.t 11) 1⟩,
   ⟨(some 6), none, .move (.t 15)⟩,
   ⟨(some 7), none, .move (.t 16)⟩] (some [0, 4, 6, 7]))
 (.seq (.seq (.ops [⟨(some 17), none, .move (.t 7)⟩,
   ⟨(some 18), none, .un .not (.t 17)⟩] (some [0, 4, 6, 18]))
 (.cond (.t 18)
  (.seq (.ops [⟨(some 19), none, .build [(.string .empty), (.bool false), (.bool false), (.string .empty), (.int .u64 0)] [(0, 1), (1, 1), (2, 3)] []⟩,
    ⟨none, none, .store 5 (.t 4) (.t 19)⟩,
    ⟨(some 5), none, .move (.c (.bool false))⟩] (some [4, 5]))
  .ret)
  .skip))
 (.seq (.ops [⟨(some 20), none, .move (.t 0)⟩,
   ⟨(some 21), none, .nilCheck (.t 20)⟩,
   ⟨(some 22), none, .fieldAddr 0 (.t 21)⟩,
   ⟨(some 23), none, .load false 1 (.t 22)⟩,
   ⟨(some 24), none, .move (.t 6)⟩,
   ⟨(some 25), none, .indexAddr 5 (.t 23) (.t 24)⟩,
   ⟨(some 26), none, .load true 5 (.t 25)⟩,
   ⟨none, none, .store 5 (.t 4) (.t 26)⟩,
   ⟨(some 5), none, .move (.c (.bool true))⟩] (some [4, 5]))
 .ret))))), [.cell true 5 4, .tmp 5]⟩

theorem is20 : FnIs Try.prog 20 x20 := ⟨Try.f20, _, Try.func20, by kernel_rfl, rfl, by kernel_rfl, by decide, by kernel_rfl⟩

/-- (*cloisonne/cloisonneref12.Set).Get -/
def x21 : XDecl := .code ⟨2, 
 (.seq (.ops [⟨(some 4), none, .alloc [(.string .empty), (.bool false), (.bool false), (.string .empty), (.int .u64 0)]⟩,
   ⟨(some 5), none, .move (.c (.bool false))⟩] (some [0, 1, 4]))
 (.seq (.ops [⟨(some 9), none, .move (.t 0)⟩,
   ⟨(some 10), none, .move (.t 1)⟩,
   ⟨(some 11), none, .call (.c (.func (.func 23) #[] #[])) [(.t 9), (.t 10), (.c (.bool false))]⟩,
   ⟨(some 8), none, .move (.t 11)⟩,
   ⟨(some 12), none, .extract (.t 8) 0⟩,
   ⟨(some 13), none, .extract (.t 8) 1⟩,
   ⟨(some 6), none, .alloc [(.string .empty), (.bool false), (.bool false), (.string .empty), (.int .u64 0)]⟩,
   ⟨none, none, .store 5 (.t 6) (.t 12)⟩,
   ⟨(some 7), none, .move (.t 13)⟩] (some [1, 4, 6, 7]))
 (.seq (.seq (.ops [⟨(some 14), none, .move (.t 7)⟩,
   ⟨(some 15), none, .un .not (.t 14)⟩,
   ⟨(some 16), none, .move (.t 15)⟩,
   ⟨(some 17), (some (16, false)), .fieldAddr 0 (.t 6)⟩,
   ⟨(some 18), (some (16, false)), .load false 1 (.t 17)⟩,
   ⟨(some 19), (some (16, false)), .move (.t 1)⟩,
   ⟨(some 20), (some (16, false)), .bin .neq 9 (.t 18) (.t 19)⟩,
   ⟨(some 21), none, .pick (.t 16) (.c (.bool true)) (.t 20)⟩] (some [4, 6, 21]))
 (.cond (.t 21)
  (.seq (.ops [⟨(some 22), none, .build [(.string .empty), (.bool false), (.bool false), (.string .empty), (.int .u64 0)] [(0, 1), (1, 1), (2, 3)] []⟩,
    ⟨none, none, .store 5 (.t 4) (.t 22)⟩,
    ⟨(some 5), none, .move (.c (.bool false))⟩] (some [4, 5]))
  .ret)
  .skip))
 (.seq (.ops [⟨(some 23), none, .load true 5 (.t 6)⟩,
   ⟨none, none, .store 5 (.t 4) (.t 23)⟩,
   ⟨(some 5), none, .move (.c (.bool true))⟩] (some [4, 5]))
 .ret)))), [.cell true 5 4, .tmp 5]⟩

theorem is21 : FnIs Try.prog 21 x21 := ⟨Try.f21, _, Try.func21, by kernel_rfl, rfl, by kernel_rfl, by decide, by kernel_rfl⟩

/-- (*cloisonne/wset.Set).After -/
def x22 : XDecl := .code ⟨2, 
 (.seq (.ops [⟨(some 4), none, .alloc [(.string .empty), (.bool false), (.bool false), (.string .empty), (.int .u64 0)]⟩,
   ⟨(some 5), none, .move (.c (.bool false))⟩] (some [0, 1, 4]))
 (.seq (.seq (.ops [⟨(some 8), none, .move (.t 0)⟩,
   ⟨(some 9), none, .isNil .ptr false (.t 8)⟩] (some [0, 1, 4, 9]))
 (.cond (.t 9)
  (.seq (.ops [⟨(some 10), none, .build [(.string .empty), (.bool false), (.bool false), (.string .empty), (.int .u64 0)] [(0, 1), (1, 1), (2, 3)] []⟩,
    ⟨none, none, .store 5 (.t 4) (.t 10)⟩,
    ⟨(some 5), none, .move (.c (.bool false))⟩] (some [4, 5]))
  .ret)
  .skip))
 (.seq (.ops [⟨(some 12), none, .move (.t 0)⟩,
   ⟨(some 13), none, .move (.t 1)⟩,
   ⟨(some 14), none, .call (.c (.func (.func 42) #[] #[])) [(.t 12), (.t 13)]⟩,
   ⟨(some 11), none, .move (.t 14)⟩,
   ⟨(some 15), none, .extract (.t 11) 0⟩,
   ⟨(some 16), none, .extract (.t 11) 1⟩,
   ⟨(some 6), none, .move (.t 15)⟩,
   ⟨(some 7), none, .move (.t 16)⟩] (some [0, 4, 6, 7]))
 (.seq (.seq (.ops [⟨(some 17), none, .move (.t 7)⟩] (some [0, 4, 6, 17]))
 (.cond (.t 17)
  (.ops [⟨(some 18), none, .move (.t 6)⟩,
    ⟨(some 19), none, .bin .add 3 (.t 18) (.c (.int .i64 1))⟩,
    ⟨(some 6), none, .move (.t 19)⟩] (some [0, 4, 6]))
  .skip))
 (.seq (.ops [⟨(some 20), none, .move (.t 0)⟩,
   ⟨(some 21), none, .move (.t 6)⟩,
   ⟨(some 22), none, .call (.c (.func (.func 43) #[] #[])) [(.t 20), (.t 21)]⟩,
   ⟨(some 23), none, .extract (.t 22) 0⟩,
   ⟨(some 24), none, .extract (.t 22) 1⟩,
   ⟨none, none, .store 5 (.t 4) (.t 23)⟩,
   ⟨(some 5), none, .move (.t 24)⟩] (some [4, 5]))
 .ret))))), [.cell true 5 4, .tmp 5]⟩

theorem is22 : FnIs Try.prog 22 x22 := ⟨Try.f22, _, Try.func22, by kernel_rfl, rfl, by kernel_rfl, by decide, by kernel_rfl⟩

/-- (*cloisonne/cloisonneref12.Set).From -/
def x23 : XDecl := .code ⟨3, 
 (.seq (.ops [⟨(some 6), none, .alloc [(.string .empty), (.bool false), (.bool false), (.string .empty), (.int .u64 0)]⟩,
   ⟨(some 7), none, .move (.c (.bool false))⟩] (some [0, 1, 2, 6]))
 (.seq (.seq (.ops [⟨(some 8), none, .move (.c (.int .i64 0))⟩] (some [0, 1, 2, 6, 8]))
 (.block 0
  (.loop
   (.seq (.seq (.ops [⟨(some 9), none, .move (.t 8)⟩,
     ⟨(some 10), none, .move (.t 0)⟩,
     ⟨(some 11), none, .nilCheck (.t 10)⟩,
     ⟨(some 12), none, .fieldAddr 0 (.t 11)⟩,
     ⟨(some 13), none, .load false 1 (.t 12)⟩,
     ⟨(some 14), none, .len (.t 13)⟩,
     ⟨(some 15), none, .bin .lss 3 (.t 9) (.t 14)⟩] (some [0, 1, 2, 6, 8, 15]))
   (.cond (.t 15)
    .skip
    (.exit 0)))
   (.seq (.block 1
    (.seq (.ops [⟨(some 18), none, .move (.t 0)⟩,
      ⟨(some 19), none, .nilCheck (.t 18)⟩,
      ⟨(some 20), none, .fieldAddr 0 (.t 19)⟩,
      ⟨(some 21), none, .load false 1 (.t 20)⟩,
      ⟨(some 22), none, .move (.t 8)⟩,
      ⟨(some 23), none, .indexAddr 5 (.t 21) (.t 22)⟩,
      ⟨(some 24), none, .fieldAddr 0 (.t 23)⟩,
      ⟨(some 25), none, .load false 1 (.t 24)⟩,
      ⟨(some 26), none, .move (.t 1)⟩,
      ⟨(some 27), none, .bin .gtr 9 (.t 25) (.t 26)⟩,
      ⟨(some 28), none, .move (.t 27)⟩,
      ⟨(some 29), (some (28, false)), .move (.t 2)⟩,
      ⟨(some 30), (some (28, false)), .un .not (.t 29)⟩,
      ⟨(some 31), (some (28, false)), .move (.t 30)⟩,
      ⟨(some 32), (some (31, true)), .move (.t 0)⟩,
      ⟨(some 33), (some (31, true)), .nilCheck (.t 32)⟩,
      ⟨(some 34), (some (31, true)), .fieldAddr 0 (.t 33)⟩,
      ⟨(some 35), (some (31, true)), .load false 1 (.t 34)⟩,
      ⟨(some 36), (some (31, true)), .move (.t 8)⟩,
      ⟨(some 37), (some (31, true)), .indexAddr 5 (.t 35) (.t 36)⟩,
      ⟨(some 38), (some (31, true)), .fieldAddr 0 (.t 37)⟩,
      ⟨(some 39), (some (31, true)), .load false 1 (.t 38)⟩,
      ⟨(some 40), (some (31, true)), .move (.t 1)⟩,
      ⟨(some 41), (some (31, true)), .bin .eql 9 (.t 39) (.t 40)⟩,
      ⟨(some 42), (some (28, false)), .pick (.t 31) (.t 41) (.c (.bool false))⟩,
      ⟨(some 43), none, .pick (.t 28) (.c (.bool true)) (.t 42)⟩] (some [0, 1, 2, 6, 8, 43]))
    (.cond (.t 43)
     (.seq (.ops [⟨(some 44), none, .move (.t 0)⟩,
       ⟨(some 45), none, .nilCheck (.t 44)⟩,
       ⟨(some 46), none, .fieldAddr 0 (.t 45)⟩,
       ⟨(some 47), none, .load false 1 (.t 46)⟩,
       ⟨(some 48), none, .move (.t 8)⟩,
       ⟨(some 49), none, .indexAddr 5 (.t 47) (.t 48)⟩,
       ⟨(some 50), none, .load true 5 (.t 49)⟩,
       ⟨none, none, .store 5 (.t 6) (.t 50)⟩,
       ⟨(some 7), none, .move (.c (.bool true))⟩] (some [6, 7]))
     .ret)
     .skip)))
   (.ops [⟨(some 16), none, .move (.t 8)⟩,
     ⟨(some 17), none, .bin .add 3 (.t 16) (.c (.int .i64 1))⟩,
     ⟨(some 8), none, .move (.t 17)⟩] (some [0, 1, 2, 6, 8])))))))
 (.seq (.ops [⟨(some 51), none, .build [(.string .empty), (.bool false), (.bool false), (.string .empty), (.int .u64 0)] [(0, 1), (1, 1), (2, 3)] []⟩,
   ⟨none, none, .store 5 (.t 6) (.t 51)⟩,
   ⟨(some 7), none, .move (.c (.bool false))⟩] (some [6, 7]))
 .ret))), [.cell true 5 6, .tmp 7]⟩

theorem is23 : FnIs Try.prog 23 x23 := ⟨Try.f23, _, Try.func23, by kernel_rfl, rfl, by kernel_rfl, by decide, by kernel_rfl⟩

/-- (*cloisonne/wset.Set).Seek -/
def x24 : XDecl := .code ⟨2, 
 (.seq (.ops [⟨(some 4), none, .alloc [(.string .empty), (.bool false), (.bool false), (.string .empty), (.int .u64 0)]⟩,
   ⟨(some 5), none, .move (.c (.bool false))⟩] (some [0, 1, 4]))
 (.seq (.seq (.ops [⟨(some 8), none, .move (.t 0)⟩,
   ⟨(some 9), none, .isNil .ptr false (.t 8)⟩] (some [0, 1, 4, 9]))
 (.cond (.t 9)
  (.seq (.ops [⟨(some 10), none, .build [(.string .empty), (.bool false), (.bool false), (.string .empty), (.int .u64 0)] [(0, 1), (1, 1), (2, 3)] []⟩,
    ⟨none, none, .store 5 (.t 4) (.t 10)⟩,
    ⟨(some 5), none, .move (.c (.bool false))⟩] (some [4, 5]))
  .ret)
  .skip))
 (.seq (.ops [⟨(some 12), none, .move (.t 0)⟩,
   ⟨(some 13), none, .move (.t 1)⟩,
   ⟨(some 14), none, .call (.c (.func (.func 42) #[] #[])) [(.t 12), (.t 13)]⟩,
   ⟨(some 11), none, .move (.t 14)⟩,
   ⟨(some 15), none, .extract (.t 11) 0⟩,
   ⟨(some 16), none, .extract (.t 11) 1⟩,
   ⟨(some 6), none, .move (.t 15)⟩,
   ⟨(some 7), none, .move (.t 16)⟩] (some [0, 4, 6]))
 (.seq (.ops [⟨(some 17), none, .move (.t 0)⟩,
   ⟨(some 18), none, .move (.t 6)⟩,
   ⟨(some 19), none, .call (.c (.func (.func 43) #[] #[])) [(.t 17), (.t 18)]⟩,
   ⟨(some 20), none, .extract (.t 19) 0⟩,
   ⟨(some 21), none, .extract (.t 19) 1⟩,
   ⟨none, none, .store 5 (.t 4) (.t 20)⟩,
   ⟨(some 5), none, .move (.t 21)⟩] (some [4, 5]))
 .ret)))), [.cell true 5 4, .tmp 5]⟩

theorem is24 : FnIs Try.prog 24 x24 := ⟨Try.f24, _, Try.func24, by kernel_rfl, rfl, by kernel_rfl, by decide, by kernel_rfl⟩

/-- (*cloisonne/cloisonneref12.Set).Write -/
def x36 : XDecl := .code ⟨2, 
 (.seq (.ops [⟨(some 3), none, .box (.t 1)⟩,
   ⟨(some 4), none, .move (.c (.int .i64 0))⟩] (some [0, 3]))
 (.seq (.seq (.ops [⟨(some 8), none, .fieldAddr 0 (.t 3)⟩,
   ⟨(some 9), none, .load false 1 (.t 8)⟩,
   ⟨(some 10), none, .call (.c (.func (.func 60) #[] #[])) [(.t 9)]⟩,
   ⟨(some 11), none, .un .not (.t 10)⟩,
   ⟨(some 12), none, .move (.t 11)⟩,
   ⟨(some 13), (some (12, false)), .fieldAddr 2 (.t 3)⟩,
   ⟨(some 14), (some (12, false)), .load true 3 (.t 13)⟩,
   ⟨(some 15), (some (12, false)), .call (.c (.func (.func 61) #[] #[])) [(.t 14)]⟩,
   ⟨(some 16), (some (12, false)), .un .not (.t 15)⟩,
   ⟨(some 17), none, .pick (.t 12) (.c (.bool true)) (.t 16)⟩] (some [0, 3, 17]))
 (.cond (.t 17)
  (.seq (.ops [⟨(some 4), none, .move (.c (.int .i64 1))⟩] (some [4]))
  .ret)
  .skip))
 (.seq (.ops [⟨(some 18), none, .buildSlice [(.string .empty), (.bool false), (.bool false), (.string .empty), (.int .u64 0)] 5 0 []⟩,
   ⟨(some 5), none, .move (.t 18)⟩] (some [0, 3, 5]))
 (.seq (.ops [⟨(some 6), none, .move (.c (.bool false))⟩] (some [0, 3, 5, 6]))
 (.seq (.seq (.ops [⟨(some 7), none, .move (.c (.int .i64 0))⟩] (some [0, 3, 5, 6, 7]))
 (.block 0
  (.loop
   (.seq (.seq (.ops [⟨(some 19), none, .move (.t 7)⟩,
     ⟨(some 20), none, .move (.t 0)⟩,
     ⟨(some 21), none, .nilCheck (.t 20)⟩,
     ⟨(some 22), none, .fieldAddr 0 (.t 21)⟩,
     ⟨(some 23), none, .load false 1 (.t 22)⟩,
     ⟨(some 24), none, .len (.t 23)⟩,
     ⟨(some 25), none, .bin .lss 3 (.t 19) (.t 24)⟩] (some [0, 3, 5, 6, 7, 25]))
   (.cond (.t 25)
    .skip
    (.exit 0)))
   (.seq (.block 1
    (.seq (.seq (.opsr [⟨(some 28), none, .move (.t 6)⟩,
      ⟨(some 29), none, .un .not (.t 28)⟩,
      ⟨(some 30), none, .move (.t 29)⟩,
      ⟨(some 31), (some (30, true)), .fieldAddr 0 (.t 3)⟩,
      ⟨(some 32), (some (30, true)), .load false 1 (.t 31)⟩,
      ⟨(some 33), (some (30, true)), .move (.t 0)⟩,
      ⟨(some 34), (some (30, true)), .nilCheck (.t 33)⟩,
      ⟨(some 35), (some (30, true)), .fieldAddr 0 (.t 34)⟩,
      ⟨(some 36), (some (30, true)), .load false 1 (.t 35)⟩,
      ⟨(some 37), (some (30, true)), .move (.t 7)⟩,
      ⟨(some 38), (some (30, true)), .indexAddr 5 (.t 36) (.t 37)⟩,
      ⟨(some 39), (some (30, true)), .fieldAddr 0 (.t 38)⟩,
      ⟨(some 40), (some (30, true)), .load false 1 (.t 39)⟩,
      ⟨(some 41), (some (30, true)), .bin .leq 9 (.t 32) (.t 40)⟩,
      ⟨(some 42), none, .pick (.t 30) (.t 41) (.c (.bool false))⟩] (some [0, 3, 5, 6, 7, 42]))
    (.cond (.t 42)
     (.seq (.ops [⟨(some 43), none, .move (.t 5)⟩,
       ⟨(some 44), none, .load true 5 (.t 3)⟩,
       ⟨(some 45), none, .buildSlice [(.string .empty), (.bool false), (.bool false), (.string .empty), (.int .u64 0)] 5 1 [(0, (.t 44))]⟩,
       ⟨(some 46), none, .append 5 56 [(.string .empty), (.bool false), (.bool false), (.string .empty), (.int .u64 0)] (.t 43) (.t 45)⟩,
       ⟨(some 5), none, .move (.t 46)⟩] (some [0, 3, 5, 7]))
     (.ops [⟨(some 6), none, .move (.c (.bool true))⟩] (some [0, 3, 5, 6, 7])))
     .skip))
    (.seq (.opsr [⟨(some 47), none, .move (.t 0)⟩,
      ⟨(some 48), none, .nilCheck (.t 47)⟩,
      ⟨(some 49), none, .fieldAddr 0 (.t 48)⟩,
      ⟨(some 50), none, .load false 1 (.t 49)⟩,
      ⟨(some 51), none, .move (.t 7)⟩,
      ⟨(some 52), none, .indexAddr 5 (.t 50) (.t 51)⟩,
      ⟨(some 53), none, .fieldAddr 0 (.t 52)⟩,
      ⟨(some 54), none, .load false 1 (.t 53)⟩,
      ⟨(some 55), none, .fieldAddr 0 (.t 3)⟩,
      ⟨(some 56), none, .load false 1 (.t 55)⟩,
      ⟨(some 57), none, .bin .neq 9 (.t 54) (.t 56)⟩] (some [0, 3, 5, 6, 7, 57]))
    (.cond (.t 57)
     (.ops [⟨(some 58), none, .move (.t 5)⟩,
       ⟨(some 59), none, .move (.t 0)⟩,
       ⟨(some 60), none, .nilCheck (.t 59)⟩,
       ⟨(some 61), none, .fieldAddr 0 (.t 60)⟩,
       ⟨(some 62), none, .load false 1 (.t 61)⟩,
       ⟨(some 63), none, .move (.t 7)⟩,
       ⟨(some 64), none, .indexAddr 5 (.t 62) (.t 63)⟩,
       ⟨(some 65), none, .load true 5 (.t 64)⟩,
       ⟨(some 66), none, .buildSlice [(.string .empty), (.bool false), (.bool false), (.string .empty), (.int .u64 0)] 5 1 [(0, (.t 65))]⟩,
       ⟨(some 67), none, .append 5 56 [(.string .empty), (.bool false), (.bool false), (.string .empty), (.int .u64 0)] (.t 58) (.t 66)⟩,
       ⟨(some 5), none, .move (.t 67)⟩] (some [0, 3, 5, 6, 7]))
     .skip))))
   (.ops [⟨(some 26), none, .move (.t 7)⟩,
     ⟨(some 27), none, .bin .add 3 (.t 26) (.c (.int .i64 1))⟩,
     ⟨(some 7), none, .move (.t 27)⟩] (some [0, 3, 5, 6, 7])))))))
 (.seq (.seq (.ops [⟨(some 68), none, .move (.t 6)⟩,
   ⟨(some 69), none, .un .not (.t 68)⟩] (some [0, 3, 5, 69]))
 (.cond (.t 69)
  (.ops [⟨(some 70), none, .move (.t 5)⟩,
    ⟨(some 71), none, .load true 5 (.t 3)⟩,
    ⟨(some 72), none, .buildSlice [(.string .empty), (.bool false), (.bool false), (.string .empty), (.int .u64 0)] 5 1 [(0, (.t 71))]⟩,
    ⟨(some 73), none, .append 5 56 [(.string .empty), (.bool false), (.bool false), (.string .empty), (.int .u64 0)] (.t 70) (.t 72)⟩,
    ⟨(some 5), none, .move (.t 73)⟩] (some [0, 5]))
  .skip))
 (.seq (.seq (.ops [⟨(some 74), none, .move (.t 5)⟩,
   ⟨(some 75), none, .len (.t 74)⟩,
   ⟨(some 76), none, .bin .gtr 3 (.t 75) (.c (.int .i64 16))⟩] (some [0, 5, 76]))
 (.cond (.t 76)
  (.seq (.ops [⟨(some 4), none, .move (.c (.int .i64 18))⟩] (some [4]))
  .ret)
  .skip))
 (.seq (.ops [⟨(some 77), none, .move (.t 0)⟩,
   ⟨(some 78), none, .move (.t 5)⟩,
   ⟨(some 79), none, .nilCheck (.t 77)⟩,
   ⟨(some 80), none, .fieldAddr 0 (.t 79)⟩,
   ⟨none, none, .store 1 (.t 80) (.t 78)⟩] (some []))
 (.seq (.ops [⟨(some 4), none, .move (.c (.int .i64 0))⟩] (some [4]))
 .ret))))))))), [.tmp 4]⟩

theorem is36 : FnIs Try.prog 36 x36 := ⟨Try.f36, _, Try.func36, by kernel_rfl, rfl, by kernel_rfl, by decide, by kernel_rfl⟩

/-- (*cloisonne/cloisonneref12.Set).Mark -/
def x37 : XDecl := .code ⟨1, 
 (.seq (.ops [⟨(some 2), none, .move (.c (.int .i64 0))⟩,
   ⟨(some 3), none, .move (.c (.int .i64 0))⟩] (some [0]))
 (.seq (.seq (.ops [⟨(some 4), none, .move (.t 0)⟩,
   ⟨(some 5), none, .nilCheck (.t 4)⟩,
   ⟨(some 6), none, .fieldAddr 1 (.t 5)⟩,
   ⟨(some 7), none, .load false 1 (.t 6)⟩,
   ⟨(some 8), none, .len (.t 7)⟩,
   ⟨(some 9), none, .bin .eql 3 (.t 8) (.c (.int .i64 4))⟩] (some [0, 9]))
 (.cond (.t 9)
  (.seq (.ops [⟨(some 2), none, .move (.c (.int .i64 0))⟩,
    ⟨(some 3), none, .move (.c (.int .i64 5))⟩] (some [2, 3]))
  .ret)
  .skip))
 (.seq (.opsd [(0, 0, ⟨(some 10), none, .move (.t 0)⟩),
   (1, 0, ⟨(some 11), none, .move (.t 0)⟩),
   (2, 2, ⟨(some 12), none, .nilCheck (.t 11)⟩),
   (3, 6, ⟨(some 13), none, .fieldAddr 1 (.t 12)⟩),
   (4, 14, ⟨(some 14), none, .load false 1 (.t 13)⟩),
   (5, 0, ⟨(some 15), none, .buildSlice [(.string .empty), (.bool false), (.bool false), (.string .empty), (.int .u64 0)] 5 0 []⟩),
   (6, 0, ⟨(some 16), none, .move (.t 0)⟩),
   (7, 64, ⟨(some 17), none, .nilCheck (.t 16)⟩),
   (8, 192, ⟨(some 18), none, .fieldAddr 0 (.t 17)⟩),
   (9, 448, ⟨(some 19), none, .load false 1 (.t 18)⟩),
   (10, 992, ⟨(some 20), none, .append 5 56 [(.string .empty), (.bool false), (.bool false), (.string .empty), (.int .u64 0)] (.t 15) (.t 19)⟩),
   (11, 2016, ⟨(some 21), none, .buildSlice [(.slice none 0 0)] 1 1 [(0, (.t 20))]⟩),
   (12, 4094, ⟨(some 22), none, .append 1 24 [(.slice none 0 0)] (.t 14) (.t 21)⟩),
   (13, 8191, ⟨(some 23), none, .nilCheck (.t 10)⟩),
   (14, 16383, ⟨(some 24), none, .fieldAddr 1 (.t 23)⟩),
   (15, 32767, ⟨none, none, .store 1 (.t 24) (.t 22)⟩)] (some [0]))
 (.seq (.ops [⟨(some 25), none, .move (.t 0)⟩,
   ⟨(some 26), none, .nilCheck (.t 25)⟩,
   ⟨(some 27), none, .fieldAddr 1 (.t 26)⟩,
   ⟨(some 28), none, .load false 1 (.t 27)⟩,
   ⟨(some 29), none, .len (.t 28)⟩,
   ⟨(some 2), none, .move (.t 29)⟩,
   ⟨(some 3), none, .move (.c (.int .i64 0))⟩] (some [2, 3]))
 .ret)))), [.tmp 2, .tmp 3]⟩

theorem is37 : FnIs Try.prog 37 x37 := ⟨Try.f37, _, Try.func37, by kernel_rfl, rfl, by kernel_rfl, by decide, by kernel_rfl⟩

/-- (*cloisonne/cloisonneref12.Set).Back -/
def x38 : XDecl := .code ⟨2, 
 (.seq (.ops [⟨(some 4), none, .move (.c (.int .i64 0))⟩] (some [0, 1]))
 (.seq (.seq (.ops [⟨(some 5), none, .move (.t 1)⟩,
   ⟨(some 6), none, .bin .lss 3 (.t 5) (.c (.int .i64 1))⟩,
   ⟨(some 7), none, .move (.t 6)⟩,
   ⟨(some 8), (some (7, false)), .move (.t 1)⟩,
   ⟨(some 9), (some (7, false)), .move (.t 0)⟩,
   ⟨(some 10), (some (7, false)), .nilCheck (.t 9)⟩,
   ⟨(some 11), (some (7, false)), .fieldAddr 1 (.t 10)⟩,
   ⟨(some 12), (some (7, false)), .load false 1 (.t 11)⟩,
   ⟨(some 13), (some (7, false)), .len (.t 12)⟩,
   ⟨(some 14), (some (7, false)), .bin .gtr 3 (.t 8) (.t 13)⟩,
   ⟨(some 15), none, .pick (.t 7) (.c (.bool true)) (.t 14)⟩] (some [0, 1, 15]))
 (.cond (.t 15)
  (.seq (.ops [⟨(some 4), none, .move (.c (.int .i64 7))⟩] (some [4]))
  .ret)
  .skip))
 (.seq (.ops [⟨(some 16), none, .move (.t 0)⟩,
   ⟨(some 17), none, .buildSlice [(.slice none 0 0)] 1 0 []⟩,
   ⟨(some 18), none, .move (.t 0)⟩,
   ⟨(some 19), none, .nilCheck (.t 18)⟩,
   ⟨(some 20), none, .fieldAddr 1 (.t 19)⟩,
   ⟨(some 21), none, .load false 1 (.t 20)⟩,
   ⟨(some 22), none, .move (.t 1)⟩,
   ⟨(some 23), none, .slice 1 (.t 21) none (some (.t 22)) none⟩,
   ⟨(some 24), none, .append 1 24 [(.slice none 0 0)] (.t 17) (.t 23)⟩,
   ⟨(some 25), none, .nilCheck (.t 16)⟩,
   ⟨(some 26), none, .fieldAddr 1 (.t 25)⟩,
   ⟨none, none, .store 1 (.t 26) (.t 24)⟩] (some [0, 1]))
 (.seq (.ops [⟨(some 27), none, .move (.t 0)⟩,
   ⟨(some 28), none, .buildSlice [(.string .empty), (.bool false), (.bool false), (.string .empty), (.int .u64 0)] 5 0 []⟩,
   ⟨(some 29), none, .move (.t 0)⟩,
   ⟨(some 30), none, .nilCheck (.t 29)⟩,
   ⟨(some 31), none, .fieldAddr 1 (.t 30)⟩,
   ⟨(some 32), none, .load false 1 (.t 31)⟩,
   ⟨(some 33), none, .move (.t 1)⟩,
   ⟨(some 34), none, .bin .sub 3 (.t 33) (.c (.int .i64 1))⟩,
   ⟨(some 35), none, .indexAddr 1 (.t 32) (.t 34)⟩,
   ⟨(some 36), none, .load false 1 (.t 35)⟩,
   ⟨(some 37), none, .append 5 56 [(.string .empty), (.bool false), (.bool false), (.string .empty), (.int .u64 0)] (.t 28) (.t 36)⟩,
   ⟨(some 38), none, .nilCheck (.t 27)⟩,
   ⟨(some 39), none, .fieldAddr 0 (.t 38)⟩,
   ⟨none, none, .store 1 (.t 39) (.t 37)⟩] (some []))
 (.seq (.ops [⟨(some 4), none, .move (.c (.int .i64 0))⟩] (some [4]))
 .ret))))), [.tmp 4]⟩

theorem is38 : FnIs Try.prog 38 x38 := ⟨Try.f38, _, Try.func38, by kernel_rfl, rfl, by kernel_rfl, by decide, by kernel_rfl⟩

/-- slices.Clone[[]cloisonne/api.Write,cloisonne/api.Write] -/
def x39 : XDecl := .code ⟨1, 
 (.seq (.ops [⟨(some 2), none, .move (.c (.slice none 0 0))⟩] (some [0]))
 (.seq (.seq (.ops [⟨(some 3), none, .move (.t 0)⟩,
   ⟨(some 4), none, .isNil .slice false (.t 3)⟩] (some [0, 4]))
 (.cond (.t 4)
  (.seq (.ops [⟨(some 2), none, .move (.c (.slice none 0 0))⟩] (some [2]))
  .ret)
  .skip))
 (.seq (.ops [⟨(some 5), none, .buildSlice [(.string .empty), (.bool false), (.bool false), (.string .empty), (.int .u64 0)] 5 0 []⟩,
   ⟨(some 6), none, .move (.t 0)⟩,
   ⟨(some 7), none, .append 5 56 [(.string .empty), (.bool false), (.bool false), (.string .empty), (.int .u64 0)] (.t 5) (.t 6)⟩,
   ⟨(some 2), none, .move (.t 7)⟩] (some [2]))
 .ret))), [.tmp 2]⟩

theorem is39 : FnIs Try.prog 39 x39 := ⟨Try.f39, _, Try.func39, by kernel_rfl, rfl, by kernel_rfl, by decide, by kernel_rfl⟩

/-- (*cloisonne/wset.Set).lay -/
def x40 : XDecl := .code ⟨3, 
 (.seq (.ops [⟨(some 4), none, .box (.t 1)⟩] (some [0, 2, 4]))
 (.seq (.ops [⟨(some 9), none, .move (.t 0)⟩,
   ⟨(some 10), none, .fieldAddr 0 (.t 4)⟩,
   ⟨(some 11), none, .load false 1 (.t 10)⟩,
   ⟨(some 12), none, .call (.c (.func (.func 42) #[] #[])) [(.t 9), (.t 11)]⟩,
   ⟨(some 8), none, .move (.t 12)⟩,
   ⟨(some 13), none, .extract (.t 8) 0⟩,
   ⟨(some 14), none, .extract (.t 8) 1⟩,
   ⟨(some 6), none, .move (.t 13)⟩,
   ⟨(some 7), none, .move (.t 14)⟩] (some [0, 2, 4, 6, 7]))
 (.block 0
  (.seq (.ops [⟨(some 16), none, .move (.t 7)⟩,
    ⟨(some 17), none, .move (.t 16)⟩,
    ⟨(some 18), (some (17, true)), .move (.t 2)⟩,
    ⟨(some 19), none, .pick (.t 17) (.t 18) (.c (.bool false))⟩,
    ⟨(some 15), none, .move (.t 19)⟩] (some [0, 2, 4, 6, 7, 15]))
  (.cond (.t 15)
   (.opsd [(0, 0, ⟨(some 20), none, .move (.t 0)⟩),
     (1, 1, ⟨(some 21), none, .nilCheck (.t 20)⟩),
     (2, 3, ⟨(some 22), none, .fieldAddr 0 (.t 21)⟩),
     (3, 7, ⟨(some 23), none, .load false 1 (.t 22)⟩),
     (4, 0, ⟨(some 24), none, .move (.t 6)⟩),
     (5, 0, ⟨(some 25), none, .load true 5 (.t 4)⟩),
     (6, 63, ⟨(some 26), none, .indexAddr 5 (.t 23) (.t 24)⟩),
     (7, 127, ⟨none, none, .store 5 (.t 26) (.t 25)⟩)] (some []))
   (.seq (.ops [⟨(some 28), none, .move (.t 7)⟩,
     ⟨(some 27), none, .move (.t 28)⟩] (some [0, 2, 4, 6, 27]))
   (.cond (.t 27)
    (.ops [⟨(some 29), none, .move (.t 0)⟩,
      ⟨(some 30), none, .move (.t 0)⟩,
      ⟨(some 31), none, .nilCheck (.t 30)⟩,
      ⟨(some 32), none, .fieldAddr 0 (.t 31)⟩,
      ⟨(some 33), none, .load false 1 (.t 32)⟩,
      ⟨(some 34), none, .move (.t 6)⟩,
      ⟨(some 35), none, .move (.t 6)⟩,
      ⟨(some 36), none, .bin .add 3 (.t 35) (.c (.int .i64 1))⟩,
      ⟨(some 37), none, .call (.c (.func (.func 62) #[] #[])) [(.t 33), (.t 34), (.t 36)]⟩,
      ⟨(some 38), none, .nilCheck (.t 29)⟩,
      ⟨(some 39), none, .fieldAddr 0 (.t 38)⟩,
      ⟨none, none, .store 1 (.t 39) (.t 37)⟩] (some []))
    (.seq (.ops [⟨(some 41), none, .move (.t 2)⟩,
      ⟨(some 40), none, .move (.t 41)⟩] (some [0, 4, 6, 40]))
    (.cond (.t 40)
     (.opsd [(0, 0, ⟨(some 42), none, .move (.t 0)⟩),
       (1, 0, ⟨(some 43), none, .move (.t 0)⟩),
       (2, 2, ⟨(some 44), none, .nilCheck (.t 43)⟩),
       (3, 6, ⟨(some 45), none, .fieldAddr 0 (.t 44)⟩),
       (4, 14, ⟨(some 46), none, .load false 1 (.t 45)⟩),
       (5, 0, ⟨(some 47), none, .move (.t 6)⟩),
       (6, 0, ⟨(some 48), none, .load true 5 (.t 4)⟩),
       (7, 64, ⟨(some 49), none, .buildSlice [(.string .empty), (.bool false), (.bool false), (.string .empty), (.int .u64 0)] 5 1 [(0, (.t 48))]⟩),
       (8, 254, ⟨(some 50), none, .call (.c (.func (.func 63) #[] #[])) [(.t 46), (.t 47), (.t 49)]⟩),
       (9, 511, ⟨(some 51), none, .nilCheck (.t 42)⟩),
       (10, 1023, ⟨(some 52), none, .fieldAddr 0 (.t 51)⟩),
       (11, 2047, ⟨none, none, .store 1 (.t 52) (.t 50)⟩)] (some []))
     .skip))))))))), []⟩

theorem is40 : FnIs Try.prog 40 x40 := ⟨Try.f40, _, Try.func40, by kernel_rfl, rfl, by kernel_rfl, by decide, by kernel_rfl⟩

/-- (*cloisonne/wset.Set).write -/
def x41 : XDecl := .code ⟨2, 
 (.seq (.ops [⟨(some 3), none, .box (.t 1)⟩,
   ⟨(some 4), none, .move (.c (.int .i64 0))⟩] (some [0, 3]))
 (.seq (.seq (.ops [⟨(some 7), none, .move (.t 0)⟩,
   ⟨(some 8), none, .isNil .ptr false (.t 7)⟩] (some [0, 3, 8]))
 (.cond (.t 8)
  (.seq (.ops [⟨(some 4), none, .move (.c (.int .i64 2))⟩] (some [4]))
  .ret)
  .skip))
 (.seq (.seq (.ops [⟨(some 9), none, .fieldAddr 0 (.t 3)⟩,
   ⟨(some 10), none, .load false 1 (.t 9)⟩,
   ⟨(some 11), none, .bin .eql 9 (.t 10) (.c (.string .empty))⟩,
   ⟨(some 12), none, .move (.t 11)⟩,
   ⟨(some 13), (some (12, false)), .fieldAddr 0 (.t 3)⟩,
   ⟨(some 14), (some (12, false)), .load false 1 (.t 13)⟩,
   ⟨(some 15), (some (12, false)), .calcB .len [9] 3 [(.t 14)]⟩,
   ⟨(some 16), (some (12, false)), .bin .gtr 3 (.t 15) (.c (.int .i64 32))⟩,
   ⟨(some 17), none, .pick (.t 12) (.c (.bool true)) (.t 16)⟩,
   ⟨(some 18), none, .move (.t 17)⟩,
   ⟨(some 19), (some (18, false)), .fieldAddr 2 (.t 3)⟩,
   ⟨(some 20), (some (18, false)), .load true 3 (.t 19)⟩,
   ⟨(some 21), (some (18, false)), .call (.c (.func (.func 64) #[] #[])) [(.t 20)]⟩,
   ⟨(some 22), (some (18, false)), .un .not (.t 21)⟩,
   ⟨(some 23), none, .pick (.t 18) (.c (.bool true)) (.t 22)⟩] (some [0, 3, 23]))
 (.cond (.t 23)
  (.seq (.ops [⟨(some 4), none, .move (.c (.int .i64 1))⟩] (some [4]))
  .ret)
  .skip))
 (.seq (.ops [⟨(some 25), none, .move (.t 0)⟩,
   ⟨(some 26), none, .fieldAddr 0 (.t 3)⟩,
   ⟨(some 27), none, .load false 1 (.t 26)⟩,
   ⟨(some 28), none, .call (.c (.func (.func 20) #[] #[])) [(.t 25), (.t 27)]⟩,
   ⟨(some 24), none, .move (.t 28)⟩,
   ⟨(some 29), none, .extract (.t 24) 0⟩,
   ⟨(some 30), none, .extract (.t 24) 1⟩,
   ⟨(some 5), none, .alloc [(.string .empty), (.bool false), (.bool false), (.string .empty), (.int .u64 0)]⟩,
   ⟨none, none, .store 5 (.t 5) (.t 29)⟩,
   ⟨(some 6), none, .move (.t 30)⟩] (some [0, 3, 5, 6]))
 (.seq (.seq (.ops [⟨(some 31), none, .move (.t 6)⟩,
   ⟨(some 32), none, .un .not (.t 31)⟩,
   ⟨(some 33), none, .move (.t 32)⟩,
   ⟨(some 34), (some (33, true)), .move (.t 0)⟩,
   ⟨(some 35), (some (33, true)), .nilCheck (.t 34)⟩,
   ⟨(some 36), (some (33, true)), .fieldAddr 0 (.t 35)⟩,
   ⟨(some 37), (some (33, true)), .load false 1 (.t 36)⟩,
   ⟨(some 38), (some (33, true)), .len (.t 37)⟩,
   ⟨(some 39), (some (33, true)), .bin .geq 3 (.t 38) (.c (.int .i64 16))⟩,
   ⟨(some 40), none, .pick (.t 33) (.t 39) (.c (.bool false))⟩] (some [0, 3, 5, 6, 40]))
 (.cond (.t 40)
  (.seq (.ops [⟨(some 4), none, .move (.c (.int .i64 18))⟩] (some [4]))
  .ret)
  .skip))
 (.seq (.seq (.ops [⟨(some 41), none, .move (.t 0)⟩,
   ⟨(some 42), none, .nilCheck (.t 41)⟩,
   ⟨(some 43), none, .fieldAddr 2 (.t 42)⟩,
   ⟨(some 44), none, .load false 1 (.t 43)⟩,
   ⟨(some 45), none, .len (.t 44)⟩,
   ⟨(some 46), none, .bin .gtr 3 (.t 45) (.c (.int .i64 0))⟩] (some [0, 3, 5, 6, 46]))
 (.cond (.t 46)
  (.opsd [(0, 0, ⟨(some 47), none, .move (.t 0)⟩),
    (1, 0, ⟨(some 48), none, .move (.t 0)⟩),
    (2, 2, ⟨(some 49), none, .nilCheck (.t 48)⟩),
    (3, 6, ⟨(some 50), none, .fieldAddr 1 (.t 49)⟩),
    (4, 14, ⟨(some 51), none, .load false 1 (.t 50)⟩),
    (5, 0, ⟨(some 52), none, .fieldAddr 0 (.t 3)⟩),
    (6, 32, ⟨(some 53), none, .load false 1 (.t 52)⟩),
    (7, 0, ⟨(some 54), none, .load true 5 (.t 5)⟩),
    (8, 0, ⟨(some 55), none, .move (.t 6)⟩),
    (9, 480, ⟨(some 56), none, .build [(.string .empty), (.string .empty), (.bool false), (.bool false), (.string .empty), (.int .u64 0), (.bool false)] [(0, 1), (1, 5), (6, 1)] [(0, (.t 53)), (1, (.t 54)), (2, (.t 55))]⟩),
    (10, 992, ⟨(some 57), none, .buildSlice [(.string .empty), (.string .empty), (.bool false), (.bool false), (.string .empty), (.int .u64 0), (.bool false)] 7 1 [(0, (.t 56))]⟩),
    (11, 2046, ⟨(some 58), none, .append 7 80 [(.string .empty), (.string .empty), (.bool false), (.bool false), (.string .empty), (.int .u64 0), (.bool false)] (.t 51) (.t 57)⟩),
    (12, 4095, ⟨(some 59), none, .nilCheck (.t 47)⟩),
    (13, 8191, ⟨(some 60), none, .fieldAddr 1 (.t 59)⟩),
    (14, 16383, ⟨none, none, .store 1 (.t 60) (.t 58)⟩)] (some [0, 3]))
  .skip))
 (.seq (.ops [⟨(some 61), none, .move (.t 0)⟩,
   ⟨(some 62), none, .load true 5 (.t 3)⟩,
   ⟨(some 63), none, .call (.c (.func (.func 40) #[] #[])) [(.t 61), (.t 62), (.c (.bool true))]⟩] (some []))
 (.seq (.ops [⟨(some 4), none, .move (.c (.int .i64 0))⟩] (some [4]))
 .ret)))))))), [.tmp 4]⟩

theorem is41 : FnIs Try.prog 41 x41 := ⟨Try.f41, _, Try.func41, by kernel_rfl, rfl, by kernel_rfl, by decide, by kernel_rfl⟩

/-- (*cloisonne/wset.Set).at -/
def x42 : XDecl := .code ⟨2, 
 (.seq (.ops [⟨(some 4), none, .move (.c (.int .i64 0))⟩,
   ⟨(some 5), none, .move (.c (.bool false))⟩] (some [0, 1]))
 (.seq (.ops [⟨(some 6), none, .move (.t 0)⟩,
   ⟨(some 7), none, .nilCheck (.t 6)⟩,
   ⟨(some 8), none, .fieldAddr 0 (.t 7)⟩,
   ⟨(some 9), none, .load false 1 (.t 8)⟩,
   ⟨(some 10), none, .move (.t 1)⟩,
   ⟨(some 11), none, .call (.c (.func (.func 65) #[] #[])) [(.t 9), (.t 10), (.c (.func (.func 66) #[] #[]))]⟩,
   ⟨(some 12), none, .extract (.t 11) 0⟩,
   ⟨(some 13), none, .extract (.t 11) 1⟩,
   ⟨(some 4), none, .move (.t 12)⟩,
   ⟨(some 5), none, .move (.t 13)⟩] (some [4, 5]))
 .ret)), [.tmp 4, .tmp 5]⟩

theorem is42 : FnIs Try.prog 42 x42 := ⟨Try.f42, _, Try.func42, by kernel_rfl, rfl, by kernel_rfl, by decide, by kernel_rfl⟩

/-- (*cloisonne/wset.Set).from -/
def x43 : XDecl := .code ⟨2, 
 (.seq (.ops [⟨(some 4), none, .alloc [(.string .empty), (.bool false), (.bool false), (.string .empty), (.int .u64 0)]⟩,
   ⟨(some 5), none, .move (.c (.bool false))⟩] (some [0, 1, 4]))
 (.seq (.seq (.ops [⟨(some 6), none, .move (.t 1)⟩,
   ⟨(some 7), none, .move (.t 0)⟩,
   ⟨(some 8), none, .nilCheck (.t 7)⟩,
   ⟨(some 9), none, .fieldAddr 0 (.t 8)⟩,
   ⟨(some 10), none, .load false 1 (.t 9)⟩,
   ⟨(some 11), none, .len (.t 10)⟩,
   ⟨(some 12), none, .bin .geq 3 (.t 6) (.t 11)⟩] (some [0, 1, 4, 12]))
 (.cond (.t 12)
  (.seq (.ops [⟨(some 13), none, .build [(.string .empty), (.bool false), (.bool false), (.string .empty), (.int .u64 0)] [(0, 1), (1, 1), (2, 3)] []⟩,
    ⟨none, none, .store 5 (.t 4) (.t 13)⟩,
    ⟨(some 5), none, .move (.c (.bool false))⟩] (some [4, 5]))
  .ret)
  .skip))
 (.seq (.ops [⟨(some 14), none, .move (.t 0)⟩,
   ⟨(some 15), none, .nilCheck (.t 14)⟩,
   ⟨(some 16), none, .fieldAddr 0 (.t 15)⟩,
   ⟨(some 17), none, .load false 1 (.t 16)⟩,
   ⟨(some 18), none, .move (.t 1)⟩,
   ⟨(some 19), none, .indexAddr 5 (.t 17) (.t 18)⟩,
   ⟨(some 20), none, .load true 5 (.t 19)⟩,
   ⟨none, none, .store 5 (.t 4) (.t 20)⟩,
   ⟨(some 5), none, .move (.c (.bool true))⟩] (some [4, 5]))
 .ret))), [.cell true 5 4, .tmp 5]⟩

theorem is43 : FnIs Try.prog 43 x43 := ⟨Try.f43, _, Try.func43, by kernel_rfl, rfl, by kernel_rfl, by decide, by kernel_rfl⟩

/-- cloisonne/cloisonneref11.Key -/
def x60 : XDecl := .code ⟨1, 
 (.seq (.ops [⟨(some 2), none, .move (.c (.bool false))⟩] (some [0]))
 (.seq (.ops [⟨(some 3), none, .move (.t 0)⟩,
   ⟨(some 4), none, .calcB .len [9] 3 [(.t 3)]⟩,
   ⟨(some 5), none, .bin .geq 3 (.t 4) (.c (.int .i64 1))⟩,
   ⟨(some 6), none, .move (.t 5)⟩,
   ⟨(some 7), (some (6, true)), .move (.t 0)⟩,
   ⟨(some 8), (some (6, true)), .calcB .len [9] 3 [(.t 7)]⟩,
   ⟨(some 9), (some (6, true)), .bin .leq 3 (.t 8) (.c (.int .i64 32))⟩,
   ⟨(some 10), none, .pick (.t 6) (.t 9) (.c (.bool false))⟩,
   ⟨(some 2), none, .move (.t 10)⟩] (some [2]))
 .ret)), [.tmp 2]⟩

theorem is60 : FnIs Try.prog 60 x60 := ⟨Try.f60, _, Try.func60, by kernel_rfl, rfl, by kernel_rfl, by decide, by kernel_rfl⟩

/-- cloisonne/cloisonneref04.Right -/
def x61 : XDecl := .code ⟨1, 
 (.seq (.ops [⟨(some 1), none, .box (.t 0)⟩,
   ⟨(some 2), none, .move (.c (.bool false))⟩] (some [1]))
 (.seq (.seq (.ops [⟨(some 3), none, .fieldAddr 0 (.t 1)⟩,
   ⟨(some 4), none, .load false 1 (.t 3)⟩,
   ⟨(some 5), none, .un .not (.t 4)⟩] (some [1, 5]))
 (.cond (.t 5)
  (.seq (.ops [⟨(some 6), none, .fieldAddr 2 (.t 1)⟩,
    ⟨(some 7), none, .load false 1 (.t 6)⟩,
    ⟨(some 8), none, .bin .eql 32 (.t 7) (.c (.int .u64 0))⟩,
    ⟨(some 9), none, .move (.t 8)⟩,
    ⟨(some 10), (some (9, true)), .fieldAddr 1 (.t 1)⟩,
    ⟨(some 11), (some (9, true)), .load false 1 (.t 10)⟩,
    ⟨(some 12), (some (9, true)), .calcB .len [9] 3 [(.t 11)]⟩,
    ⟨(some 13), (some (9, true)), .bin .leq 3 (.t 12) (.c (.int .i64 64))⟩,
    ⟨(some 14), none, .pick (.t 9) (.t 13) (.c (.bool false))⟩,
    ⟨(some 2), none, .move (.t 14)⟩] (some [2]))
  .ret)
  .skip))
 (.seq (.opsd [(0, 0, ⟨(some 15), none, .fieldAddr 1 (.t 1)⟩),
   (1, 1, ⟨(some 16), none, .load false 1 (.t 15)⟩),
   (2, 3, ⟨(some 17), none, .calcB .len [9] 3 [(.t 16)]⟩),
   (3, 7, ⟨(some 18), none, .bin .eql 3 (.t 17) (.c (.int .i64 0))⟩),
   (4, 15, ⟨(some 19), none, .move (.t 18)⟩),
   (5, 31, ⟨(some 20), (some (19, true)), .fieldAddr 2 (.t 1)⟩),
   (6, 63, ⟨(some 21), (some (19, true)), .load false 1 (.t 20)⟩),
   (9, 31, ⟨(some 24), (some (19, true)), .fieldAddr 2 (.t 1)⟩),
   (10, 543, ⟨(some 25), (some (19, true)), .load false 1 (.t 24)⟩),
   (7, 127, ⟨(some 22), (some (19, true)), .call (.c (.func (.func 80) #[] #[])) [(.t 21)]⟩),
   (8, 255, ⟨(some 23), (some (19, true)), .call (.c (.func (.func 79) #[] #[])) [(.t 22)]⟩),
   (11, 2047, ⟨(some 26), (some (19, true)), .bin .eql 32 (.t 23) (.t 25)⟩),
   (12, 4095, ⟨(some 27), none, .pick (.t 19) (.t 26) (.c (.bool false))⟩),
   (13, 8191, ⟨(some 2), none, .move (.t 27)⟩)] (some [2]))
 .ret))), [.tmp 2]⟩

theorem is61 : FnIs Try.prog 61 x61 := ⟨Try.f61, _, Try.func61, by kernel_rfl, rfl, by kernel_rfl, by decide, by kernel_rfl⟩

/-- slices.Delete[[]cloisonne/api.Write,cloisonne/api.Write] -/
def x62 : XDecl := .code ⟨3, 
 (.seq (.ops [⟨(some 6), none, .move (.c (.slice none 0 0))⟩] (some [0, 1, 2]))
 (.seq (.ops [⟨(some 8), none, .move (.t 0)⟩,
   ⟨(some 9), none, .move (.t 1)⟩,
   ⟨(some 10), none, .move (.t 2)⟩,
   ⟨(some 11), none, .move (.t 0)⟩,
   ⟨(some 12), none, .len (.t 11)⟩,
   ⟨(some 13), none, .slice 5 (.t 8) (some (.t 9)) (some (.t 10)) (some (.t 12))⟩] (some [0, 1, 2]))
 (.seq (.seq (.ops [⟨(some 14), none, .move (.t 1)⟩,
   ⟨(some 15), none, .move (.t 2)⟩,
   ⟨(some 16), none, .bin .eql 3 (.t 14) (.t 15)⟩] (some [0, 1, 2, 16]))
 (.cond (.t 16)
  (.seq (.ops [⟨(some 17), none, .move (.t 0)⟩,
    ⟨(some 6), none, .move (.t 17)⟩] (some [6]))
  .ret)
  .skip))
 (.seq (.ops [⟨(some 18), none, .move (.t 0)⟩,
   ⟨(some 19), none, .len (.t 18)⟩,
   ⟨(some 7), none, .move (.t 19)⟩] (some [0, 1, 2, 7]))
 (.seq (.opsd [(0, 0, ⟨(some 20), none, .move (.t 0)⟩),
   (1, 0, ⟨(some 21), none, .move (.t 1)⟩),
   (2, 3, ⟨(some 22), none, .slice 5 (.t 20) none (some (.t 21)) none⟩),
   (3, 0, ⟨(some 23), none, .move (.t 0)⟩),
   (4, 0, ⟨(some 24), none, .move (.t 2)⟩),
   (5, 24, ⟨(some 25), none, .slice 5 (.t 23) (some (.t 24)) none none⟩),
   (6, 63, ⟨(some 26), none, .append 5 56 [(.string .empty), (.bool false), (.bool false), (.string .empty), (.int .u64 0)] (.t 22) (.t 25)⟩),
   (7, 127, ⟨(some 0), none, .move (.t 26)⟩)] (some [0, 7]))
 (.seq (.ops [⟨(some 27), none, .move (.t 0)⟩,
   ⟨(some 28), none, .move (.t 0)⟩,
   ⟨(some 29), none, .len (.t 28)⟩,
   ⟨(some 30), none, .move (.t 7)⟩,
   ⟨(some 31), none, .slice 5 (.t 27) (some (.t 29)) (some (.t 30)) none⟩,
   ⟨none, none, .clear [(.string .empty), (.bool false), (.bool false), (.string .empty), (.int .u64 0)] (.t 31)⟩] (some [0]))
 (.seq (.ops [⟨(some 32), none, .move (.t 0)⟩,
   ⟨(some 6), none, .move (.t 32)⟩] (some [6]))
 .ret))))))), [.tmp 6]⟩

theorem is62 : FnIs Try.prog 62 x62 := ⟨Try.f62, _, Try.func62, by kernel_rfl, rfl, by kernel_rfl, by decide, by kernel_rfl⟩

/-- slices.Insert[[]cloisonne/api.Write,cloisonne/api.Write] -/
def x63 : XDecl := .code ⟨3, 
 (.seq (.ops [⟨(some 6), none, .move (.c (.slice none 0 0))⟩] (some [0, 1, 2]))
 (.seq (.ops [⟨(some 10), none, .move (.t 0)⟩,
   ⟨(some 11), none, .move (.t 1)⟩,
   ⟨(some 12), none, .slice 5 (.t 10) (some (.t 11)) none none⟩] (some [0, 1, 2]))
 (.seq (.ops [⟨(some 13), none, .move (.t 2)⟩,
   ⟨(some 14), none, .len (.t 13)⟩,
   ⟨(some 7), none, .move (.t 14)⟩] (some [0, 1, 2, 7]))
 (.seq (.seq (.ops [⟨(some 15), none, .move (.t 7)⟩,
   ⟨(some 16), none, .bin .eql 3 (.t 15) (.c (.int .i64 0))⟩] (some [0, 1, 2, 7, 16]))
 (.cond (.t 16)
  (.seq (.ops [⟨(some 17), none, .move (.t 0)⟩,
    ⟨(some 6), none, .move (.t 17)⟩] (some [6]))
  .ret)
  .skip))
 (.seq (.ops [⟨(some 18), none, .move (.t 0)⟩,
   ⟨(some 19), none, .len (.t 18)⟩,
   ⟨(some 8), none, .move (.t 19)⟩] (some [0, 1, 2, 7, 8]))
 (.seq (.seq (.ops [⟨(some 20), none, .move (.t 1)⟩,
   ⟨(some 21), none, .move (.t 8)⟩,
   ⟨(some 22), none, .bin .eql 3 (.t 20) (.t 21)⟩] (some [0, 1, 2, 7, 8, 22]))
 (.cond (.t 22)
  (.seq (.ops [⟨(some 23), none, .move (.t 0)⟩,
    ⟨(some 24), none, .move (.t 2)⟩,
    ⟨(some 25), none, .append 5 56 [(.string .empty), (.bool false), (.bool false), (.string .empty), (.int .u64 0)] (.t 23) (.t 24)⟩,
    ⟨(some 6), none, .move (.t 25)⟩] (some [6]))
  .ret)
  .skip))
 (.seq (.seq (.ops [⟨(some 26), none, .move (.t 8)⟩,
   ⟨(some 27), none, .move (.t 7)⟩,
   ⟨(some 28), none, .bin .add 3 (.t 26) (.t 27)⟩,
   ⟨(some 29), none, .move (.t 0)⟩,
   ⟨(some 30), none, .cap (.t 29)⟩,
   ⟨(some 31), none, .bin .gtr 3 (.t 28) (.t 30)⟩] (some [0, 1, 2, 7, 8, 31]))
 (.cond (.t 31)
  (.seq (.ops [⟨(some 32), none, .move (.t 0)⟩,
    ⟨(some 33), none, .move (.t 1)⟩,
    ⟨(some 34), none, .slice 5 (.t 32) none (some (.t 33)) none⟩,
    ⟨(some 35), none, .move (.t 8)⟩,
    ⟨(some 36), none, .move (.t 7)⟩,
    ⟨(some 37), none, .bin .add 3 (.t 35) (.t 36)⟩,
    ⟨(some 38), none, .move (.t 1)⟩,
    ⟨(some 39), none, .bin .sub 3 (.t 37) (.t 38)⟩,
    ⟨(some 40), none, .appendZeros 5 56 [(.string .empty), (.bool false), (.bool false), (.string .empty), (.int .u64 0)] (.t 34) (.t 39)⟩,
    ⟨(some 9), none, .move (.t 40)⟩] (some [0, 1, 2, 7, 9]))
  (.seq (.ops [⟨(some 41), none, .move (.t 9)⟩,
    ⟨(some 42), none, .move (.t 1)⟩,
    ⟨(some 43), none, .slice 5 (.t 41) (some (.t 42)) none none⟩,
    ⟨(some 44), none, .move (.t 2)⟩,
    ⟨(some 45), none, .copy 5 (.t 43) (.t 44)⟩] (some [0, 1, 7, 9]))
  (.seq (.opsd [(0, 0, ⟨(some 46), none, .move (.t 9)⟩),
    (1, 0, ⟨(some 47), none, .move (.t 1)⟩),
    (2, 0, ⟨(some 48), none, .move (.t 7)⟩),
    (3, 6, ⟨(some 49), none, .bin .add 3 (.t 47) (.t 48)⟩),
    (4, 15, ⟨(some 50), none, .slice 5 (.t 46) (some (.t 49)) none none⟩),
    (5, 0, ⟨(some 51), none, .move (.t 0)⟩),
    (6, 0, ⟨(some 52), none, .move (.t 1)⟩),
    (7, 96, ⟨(some 53), none, .slice 5 (.t 51) (some (.t 52)) none none⟩),
    (8, 255, ⟨(some 54), none, .copy 5 (.t 50) (.t 53)⟩)] (some [9]))
  (.seq (.ops [⟨(some 55), none, .move (.t 9)⟩,
    ⟨(some 6), none, .move (.t 55)⟩] (some [6]))
  .ret))))
  .skip))
 (.seq (.ops [⟨(some 56), none, .move (.t 0)⟩,
   ⟨(some 57), none, .move (.t 8)⟩,
   ⟨(some 58), none, .move (.t 7)⟩,
   ⟨(some 59), none, .bin .add 3 (.t 57) (.t 58)⟩,
   ⟨(some 60), none, .slice 5 (.t 56) none (some (.t 59)) none⟩,
   ⟨(some 0), none, .move (.t 60)⟩] (some [0, 1, 2, 7, 8]))
 (.seq (.seq (.ops [⟨(some 61), none, .move (.t 2)⟩,
   ⟨(some 62), none, .move (.t 0)⟩,
   ⟨(some 63), none, .move (.t 1)⟩,
   ⟨(some 64), none, .move (.t 7)⟩,
   ⟨(some 65), none, .bin .add 3 (.t 63) (.t 64)⟩,
   ⟨(some 66), none, .slice 5 (.t 62) (some (.t 65)) none none⟩,
   ⟨(some 67), none, .call (.c (.func (.func 81) #[] #[])) [(.t 61), (.t 66)]⟩,
   ⟨(some 68), none, .un .not (.t 67)⟩] (some [0, 1, 2, 7, 8, 68]))
 (.cond (.t 68)
  (.seq (.opsd [(0, 0, ⟨(some 69), none, .move (.t 0)⟩),
    (1, 0, ⟨(some 70), none, .move (.t 1)⟩),
    (2, 0, ⟨(some 71), none, .move (.t 7)⟩),
    (3, 6, ⟨(some 72), none, .bin .add 3 (.t 70) (.t 71)⟩),
    (4, 15, ⟨(some 73), none, .slice 5 (.t 69) (some (.t 72)) none none⟩),
    (5, 0, ⟨(some 74), none, .move (.t 0)⟩),
    (6, 0, ⟨(some 75), none, .move (.t 1)⟩),
    (7, 96, ⟨(some 76), none, .slice 5 (.t 74) (some (.t 75)) none none⟩),
    (8, 255, ⟨(some 77), none, .copy 5 (.t 73) (.t 76)⟩)] (some [0, 1, 2]))
  (.seq (.ops [⟨(some 78), none, .move (.t 0)⟩,
    ⟨(some 79), none, .move (.t 1)⟩,
    ⟨(some 80), none, .slice 5 (.t 78) (some (.t 79)) none none⟩,
    ⟨(some 81), none, .move (.t 2)⟩,
    ⟨(some 82), none, .copy 5 (.t 80) (.t 81)⟩] (some [0]))
  (.seq (.ops [⟨(some 83), none, .move (.t 0)⟩,
    ⟨(some 6), none, .move (.t 83)⟩] (some [6]))
  .ret)))
  .skip))
 (.seq (.ops [⟨(some 84), none, .move (.t 0)⟩,
   ⟨(some 85), none, .move (.t 8)⟩,
   ⟨(some 86), none, .slice 5 (.t 84) (some (.t 85)) none none⟩,
   ⟨(some 87), none, .move (.t 2)⟩,
   ⟨(some 88), none, .copy 5 (.t 86) (.t 87)⟩] (some [0, 1, 7]))
 (.seq (.ops [⟨(some 89), none, .move (.t 0)⟩,
   ⟨(some 90), none, .move (.t 1)⟩,
   ⟨(some 91), none, .slice 5 (.t 89) (some (.t 90)) none none⟩,
   ⟨(some 92), none, .move (.t 7)⟩,
   ⟨(some 93), none, .call (.c (.func (.func 82) #[] #[])) [(.t 91), (.t 92)]⟩] (some [0]))
 (.seq (.ops [⟨(some 94), none, .move (.t 0)⟩,
   ⟨(some 6), none, .move (.t 94)⟩] (some [6]))
 .ret)))))))))))), [.tmp 6]⟩

theorem is63 : FnIs Try.prog 63 x63 := ⟨Try.f63, _, Try.func63, by kernel_rfl, rfl, by kernel_rfl, by decide, by kernel_rfl⟩

/-- cloisonne/value.Right -/
def x64 : XDecl := .code ⟨1, 
 (.seq (.ops [⟨(some 1), none, .box (.t 0)⟩,
   ⟨(some 2), none, .move (.c (.bool false))⟩] (some [1]))
 (.seq (.seq (.ops [⟨(some 3), none, .fieldAddr 0 (.t 1)⟩,
   ⟨(some 4), none, .load false 1 (.t 3)⟩] (some [1, 4]))
 (.cond (.t 4)
  (.seq (.opsd [(0, 0, ⟨(some 5), none, .fieldAddr 1 (.t 1)⟩),
    (1, 1, ⟨(some 6), none, .load false 1 (.t 5)⟩),
    (2, 3, ⟨(some 7), none, .bin .eql 9 (.t 6) (.c (.string .empty))⟩),
    (3, 7, ⟨(some 8), none, .move (.t 7)⟩),
    (4, 15, ⟨(some 9), (some (8, true)), .fieldAddr 2 (.t 1)⟩),
    (5, 31, ⟨(some 10), (some (8, true)), .load false 1 (.t 9)⟩),
    (8, 15, ⟨(some 13), (some (8, true)), .fieldAddr 2 (.t 1)⟩),
    (9, 271, ⟨(some 14), (some (8, true)), .load false 1 (.t 13)⟩),
    (6, 63, ⟨(some 11), (some (8, true)), .call (.c (.func (.func 84) #[] #[])) [(.t 10)]⟩),
    (7, 127, ⟨(some 12), (some (8, true)), .call (.c (.func (.func 83) #[] #[])) [(.t 11)]⟩),
    (10, 1023, ⟨(some 15), (some (8, true)), .bin .eql 32 (.t 12) (.t 14)⟩),
    (11, 2047, ⟨(some 16), none, .pick (.t 8) (.t 15) (.c (.bool false))⟩),
    (12, 4095, ⟨(some 2), none, .move (.t 16)⟩)] (some [2]))
  .ret)
  .skip))
 (.seq (.ops [⟨(some 17), none, .fieldAddr 2 (.t 1)⟩,
   ⟨(some 18), none, .load false 1 (.t 17)⟩,
   ⟨(some 19), none, .bin .eql 32 (.t 18) (.c (.int .u64 0))⟩,
   ⟨(some 20), none, .move (.t 19)⟩,
   ⟨(some 21), (some (20, true)), .fieldAddr 1 (.t 1)⟩,
   ⟨(some 22), (some (20, true)), .load false 1 (.t 21)⟩,
   ⟨(some 23), (some (20, true)), .calcB .len [9] 3 [(.t 22)]⟩,
   ⟨(some 24), (some (20, true)), .bin .leq 3 (.t 23) (.c (.int .i64 64))⟩,
   ⟨(some 25), none, .pick (.t 20) (.t 24) (.c (.bool false))⟩,
   ⟨(some 2), none, .move (.t 25)⟩] (some [2]))
 .ret))), [.tmp 2]⟩

theorem is64 : FnIs Try.prog 64 x64 := ⟨Try.f64, _, Try.func64, by kernel_rfl, rfl, by kernel_rfl, by decide, by kernel_rfl⟩

/-- slices.BinarySearchFunc[[]cloisonne/api.Write,cloisonne/api.Write,string] -/
def x65 : XDecl := .code ⟨3, 
 (.seq (.ops [⟨(some 6), none, .move (.c (.int .i64 0))⟩,
   ⟨(some 7), none, .move (.c (.bool false))⟩] (some [0, 1, 2]))
 (.seq (.ops [⟨(some 12), none, .move (.t 0)⟩,
   ⟨(some 13), none, .len (.t 12)⟩,
   ⟨(some 8), none, .move (.t 13)⟩] (some [0, 1, 2, 8]))
 (.seq (.ops [⟨(some 14), none, .move (.t 8)⟩,
   ⟨(some 9), none, .move (.c (.int .i64 0))⟩,
   ⟨(some 10), none, .move (.t 14)⟩] (some [0, 1, 2, 8, 9, 10]))
 (.seq (.block 0
  (.loop
   (.seq (.seq (.ops [⟨(some 15), none, .move (.t 9)⟩,
     ⟨(some 16), none, .move (.t 10)⟩,
     ⟨(some 17), none, .bin .lss 3 (.t 15) (.t 16)⟩] (some [0, 1, 2, 8, 9, 10, 17]))
   (.cond (.t 17)
    .skip
    (.exit 0)))
   (.block 1
    (.seq (.ops [⟨(some 18), none, .move (.t 9)⟩,
      ⟨(some 19), none, .move (.t 10)⟩,
      ⟨(some 20), none, .bin .add 3 (.t 18) (.t 19)⟩,
      ⟨(some 21), none, .conv 3 124 (.t 20)⟩,
      ⟨(some 22), none, .bin .shr 124 (.t 21) (.c (.int .u64 1))⟩,
      ⟨(some 23), none, .conv 124 3 (.t 22)⟩,
      ⟨(some 11), none, .move (.t 23)⟩] (some [0, 1, 2, 8, 9, 10, 11]))
    (.seq (.ops [⟨(some 24), none, .move (.t 2)⟩,
      ⟨(some 25), none, .move (.t 0)⟩,
      ⟨(some 26), none, .move (.t 11)⟩,
      ⟨(some 27), none, .indexAddr 5 (.t 25) (.t 26)⟩,
      ⟨(some 28), none, .load true 5 (.t 27)⟩,
      ⟨(some 29), none, .move (.t 1)⟩,
      ⟨(some 30), none, .call (.t 24) [(.t 28), (.t 29)]⟩,
      ⟨(some 31), none, .bin .lss 3 (.t 30) (.c (.int .i64 0))⟩] (some [0, 1, 2, 8, 9, 10, 11, 31]))
    (.cond (.t 31)
     (.ops [⟨(some 32), none, .move (.t 11)⟩,
       ⟨(some 33), none, .bin .add 3 (.t 32) (.c (.int .i64 1))⟩,
       ⟨(some 9), none, .move (.t 33)⟩] (some [0, 1, 2, 8, 9, 10]))
     (.ops [⟨(some 34), none, .move (.t 11)⟩,
       ⟨(some 10), none, .move (.t 34)⟩] (some [0, 1, 2, 8, 9, 10])))))))))
 (.seq (.ops [⟨(some 35), none, .move (.t 9)⟩,
   ⟨(some 36), none, .move (.t 9)⟩,
   ⟨(some 37), none, .move (.t 8)⟩,
   ⟨(some 38), none, .bin .lss 3 (.t 36) (.t 37)⟩,
   ⟨(some 39), none, .move (.t 38)⟩,
   ⟨(some 40), (some (39, true)), .move (.t 2)⟩,
   ⟨(some 41), (some (39, true)), .move (.t 0)⟩,
   ⟨(some 42), (some (39, true)), .move (.t 9)⟩,
   ⟨(some 43), (some (39, true)), .indexAddr 5 (.t 41) (.t 42)⟩,
   ⟨(some 44), (some (39, true)), .load true 5 (.t 43)⟩,
   ⟨(some 45), (some (39, true)), .move (.t 1)⟩,
   ⟨(some 46), (some (39, true)), .call (.t 40) [(.t 44), (.t 45)]⟩,
   ⟨(some 47), (some (39, true)), .bin .eql 3 (.t 46) (.c (.int .i64 0))⟩,
   ⟨(some 48), none, .pick (.t 39) (.t 47) (.c (.bool false))⟩,
   ⟨(some 6), none, .move (.t 35)⟩,
   ⟨(some 7), none, .move (.t 48)⟩] (some [6, 7]))
 .ret))))), [.tmp 6, .tmp 7]⟩

theorem is65 : FnIs Try.prog 65 x65 := ⟨Try.f65, _, Try.func65, by kernel_rfl, rfl, by kernel_rfl, by decide, by kernel_rfl⟩

/-- (*cloisonne/wset.Set).at$1 -/
def x66 : XDecl := .code ⟨2, 
 (.seq (.ops [⟨(some 2), none, .box (.t 0)⟩,
   ⟨(some 4), none, .move (.c (.int .i64 0))⟩] (some [1, 2]))
 (.seq (.ops [⟨(some 5), none, .fieldAddr 0 (.t 2)⟩,
   ⟨(some 6), none, .load false 1 (.t 5)⟩,
   ⟨(some 7), none, .move (.t 1)⟩,
   ⟨(some 8), none, .call (.c (.func (.func 67) #[] #[])) [(.t 6), (.t 7)]⟩,
   ⟨(some 4), none, .move (.t 8)⟩] (some [4]))
 .ret)), [.tmp 4]⟩

theorem is66 : FnIs Try.prog 66 x66 := ⟨Try.f66, _, Try.func66, by kernel_rfl, rfl, by kernel_rfl, by decide, by kernel_rfl⟩

/-- strings.Compare -/
def x67 : XDecl := .code ⟨2, 
 (.seq (.ops [⟨(some 4), none, .move (.c (.int .i64 0))⟩] (some [0, 1]))
 (.seq (.ops [⟨(some 5), none, .move (.t 0)⟩,
   ⟨(some 6), none, .move (.t 1)⟩,
   ⟨(some 7), none, .call (.c (.func (.func 85) #[] #[])) [(.t 5), (.t 6)]⟩,
   ⟨(some 4), none, .move (.t 7)⟩] (some [4]))
 .ret)), [.tmp 4]⟩

theorem is67 : FnIs Try.prog 67 x67 := ⟨Try.f67, _, Try.func67, by kernel_rfl, rfl, by kernel_rfl, by decide, by kernel_rfl⟩

/-- cloisonne/cloisonneref01.Bits -/
def x79 : XDecl := .code ⟨1, 
 (.seq (.ops [⟨(some 2), none, .move (.c (.int .u64 0))⟩] (some [0]))
 (.seq (.seq (.ops [⟨(some 3), none, .move (.t 0)⟩,
   ⟨(some 4), none, .call (.c (.func (.func 95) #[] #[])) [(.t 3)]⟩] (some [0, 4]))
 (.cond (.t 4)
  (.seq (.ops [⟨(some 2), none, .move (.c (.int .u64 9221120237041090561))⟩] (some [2]))
  .ret)
  .skip))
 (.seq (.ops [⟨(some 5), none, .move (.t 0)⟩,
   ⟨(some 6), none, .call (.c (.func (.func 96) #[] #[])) [(.t 5)]⟩,
   ⟨(some 2), none, .move (.t 6)⟩] (some [2]))
 .ret))), [.tmp 2]⟩

theorem is79 : FnIs Try.prog 79 x79 := ⟨Try.f79, _, Try.func79, by kernel_rfl, rfl, by kernel_rfl, by decide, by kernel_rfl⟩

-- 80 math.Float64frombits: no body
def x80 : XDecl := .ext 80

theorem is80 : FnIs Try.prog 80 x80 := rfl

/-- cloisonne/num.Bits -/
def x83 : XDecl := .code ⟨1, 
 (.seq (.ops [⟨(some 2), none, .move (.c (.int .u64 0))⟩] (some [0]))
 (.seq (.seq (.ops [⟨(some 3), none, .move (.t 0)⟩,
   ⟨(some 4), none, .call (.c (.func (.func 98) #[] #[])) [(.t 3)]⟩] (some [0, 4]))
 (.cond (.t 4)
  (.seq (.ops [⟨(some 2), none, .move (.c (.int .u64 9221120237041090561))⟩] (some [2]))
  .ret)
  .skip))
 (.seq (.ops [⟨(some 5), none, .move (.t 0)⟩,
   ⟨(some 6), none, .call (.c (.func (.func 96) #[] #[])) [(.t 5)]⟩,
   ⟨(some 2), none, .move (.t 6)⟩] (some [2]))
 .ret))), [.tmp 2]⟩

theorem is83 : FnIs Try.prog 83 x83 := ⟨Try.f83, _, Try.func83, by kernel_rfl, rfl, by kernel_rfl, by decide, by kernel_rfl⟩

/-- cloisonne/num.From -/
def x84 : XDecl := .code ⟨1, 
 (.seq (.ops [⟨(some 2), none, .move (.c (.float .f64 0))⟩] (some [0]))
 (.seq (.ops [⟨(some 3), none, .move (.t 0)⟩,
   ⟨(some 4), none, .call (.c (.func (.func 80) #[] #[])) [(.t 3)]⟩,
   ⟨(some 5), none, .call (.c (.func (.func 83) #[] #[])) [(.t 4)]⟩,
   ⟨(some 6), none, .call (.c (.func (.func 80) #[] #[])) [(.t 5)]⟩,
   ⟨(some 2), none, .move (.t 6)⟩] (some [2]))
 .ret)), [.tmp 2]⟩

theorem is84 : FnIs Try.prog 84 x84 := ⟨Try.f84, _, Try.func84, by kernel_rfl, rfl, by kernel_rfl, by decide, by kernel_rfl⟩

/-- internal/bytealg.CompareString -/
def x85 : XDecl := .code ⟨2, 
 (.seq (.ops [⟨(some 4), none, .move (.c (.int .i64 0))⟩] (some [0, 1]))
 (.seq (.ops [⟨(some 5), none, .move (.t 0)⟩,
   ⟨(some 6), none, .move (.t 1)⟩,
   ⟨(some 7), none, .call (.c (.func (.func 99) #[] #[])) [(.t 5), (.t 6)]⟩,
   ⟨(some 4), none, .move (.t 7)⟩] (some [4]))
 .ret)), [.tmp 4]⟩

theorem is85 : FnIs Try.prog 85 x85 := ⟨Try.f85, _, Try.func85, by kernel_rfl, rfl, by kernel_rfl, by decide, by kernel_rfl⟩

/-- cloisonne/cloisonneref01.NaN -/
def x95 : XDecl := .code ⟨1, 
 (.seq (.ops [⟨(some 2), none, .move (.c (.bool false))⟩] (some [0]))
 (.seq (.ops [⟨(some 7), none, .move (.t 0)⟩,
   ⟨(some 8), none, .call (.c (.func (.func 105) #[] #[])) [(.t 7)]⟩,
   ⟨(some 6), none, .move (.t 8)⟩,
   ⟨(some 9), none, .extract (.t 6) 0⟩,
   ⟨(some 10), none, .extract (.t 6) 1⟩,
   ⟨(some 11), none, .extract (.t 6) 2⟩,
   ⟨(some 3), none, .move (.t 9)⟩,
   ⟨(some 4), none, .move (.t 10)⟩,
   ⟨(some 5), none, .move (.t 11)⟩] (some [4, 5]))
 (.seq (.ops [⟨(some 12), none, .move (.t 4)⟩,
   ⟨(some 13), none, .bin .eql 32 (.t 12) (.c (.int .u64 2047))⟩,
   ⟨(some 14), none, .move (.t 13)⟩,
   ⟨(some 15), (some (14, true)), .move (.t 5)⟩,
   ⟨(some 16), (some (14, true)), .bin .gtr 32 (.t 15) (.c (.int .u64 0))⟩,
   ⟨(some 17), none, .pick (.t 14) (.t 16) (.c (.bool false))⟩,
   ⟨(some 2), none, .move (.t 17)⟩] (some [2]))
 .ret))), [.tmp 2]⟩

theorem is95 : FnIs Try.prog 95 x95 := ⟨Try.f95, _, Try.func95, by kernel_rfl, rfl, by kernel_rfl, by decide, by kernel_rfl⟩

-- 96 math.Float64bits: no body
def x96 : XDecl := .ext 96

theorem is96 : FnIs Try.prog 96 x96 := rfl

/-- math.IsNaN -/
def x98 : XDecl := .code ⟨1, 
 (.seq (.ops [⟨(some 2), none, .move (.c (.bool false))⟩] (some [0]))
 (.seq (.ops [⟨(some 3), none, .move (.t 0)⟩,
   ⟨(some 4), none, .move (.t 0)⟩,
   ⟨(some 5), none, .bin .neq 121 (.t 3) (.t 4)⟩,
   ⟨(some 2), none, .move (.t 5)⟩] (some [2]))
 .ret)), [.tmp 2]⟩

theorem is98 : FnIs Try.prog 98 x98 := ⟨Try.f98, _, Try.func98, by kernel_rfl, rfl, by kernel_rfl, by decide, by kernel_rfl⟩

-- 99 internal/bytealg.abigen_runtime_cmpstring: no body
def x99 : XDecl := .ext 99

theorem is99 : FnIs Try.prog 99 x99 := rfl

/-- cloisonne/cloisonneref01.Parts -/
def x105 : XDecl := .code ⟨1, 
 (.seq (.ops [⟨(some 2), none, .move (.c (.bool false))⟩,
   ⟨(some 3), none, .move (.c (.int .u64 0))⟩,
   ⟨(some 4), none, .move (.c (.int .u64 0))⟩] (some [0]))
 (.seq (.ops [⟨(some 6), none, .move (.t 0)⟩,
   ⟨(some 7), none, .call (.c (.func (.func 96) #[] #[])) [(.t 6)]⟩,
   ⟨(some 5), none, .move (.t 7)⟩] (some [5]))
 (.seq (.ops [⟨(some 8), none, .move (.t 5)⟩,
   ⟨(some 9), none, .bin .geq 32 (.t 8) (.c (.int .u64 9223372036854775808))⟩,
   ⟨(some 10), none, .move (.t 5)⟩,
   ⟨(some 11), none, .bin .quo 32 (.t 10) (.c (.int .u64 4503599627370496))⟩,
   ⟨(some 12), none, .bin .rem 32 (.t 11) (.c (.int .u64 2048))⟩,
   ⟨(some 13), none, .move (.t 5)⟩,
   ⟨(some 14), none, .bin .rem 32 (.t 13) (.c (.int .u64 4503599627370496))⟩,
   ⟨(some 2), none, .move (.t 9)⟩,
   ⟨(some 3), none, .move (.t 12)⟩,
   ⟨(some 4), none, .move (.t 14)⟩] (some [2, 3, 4]))
 .ret))), [.tmp 2, .tmp 3, .tmp 4]⟩

theorem is105 : FnIs Try.prog 105 x105 := ⟨Try.f105, _, Try.func105, by kernel_rfl, rfl, by kernel_rfl, by decide, by kernel_rfl⟩

def tabA : FuncId → Option XDecl
  | 3 => some x3
  | 4 => some x4
  | 5 => some x5
  | 8 => some x8
  | 9 => some x9
  | 10 => some x10
  | 11 => some x11
  | 12 => some x12
  | 13 => some x13
  | 14 => some x14
  | 15 => some x15
  | 16 => some x16
  | 17 => some x17
  | 18 => some x18
  | 19 => some x19
  | 20 => some x20
  | 21 => some x21
  | 22 => some x22
  | 23 => some x23
  | 24 => some x24
  | 36 => some x36
  | 37 => some x37
  | 38 => some x38
  | 39 => some x39
  | 40 => some x40
  | 41 => some x41
  | 42 => some x42
  | 43 => some x43
  | 60 => some x60
  | 61 => some x61
  | 62 => some x62
  | 63 => some x63
  | 64 => some x64
  | 65 => some x65
  | 66 => some x66
  | 67 => some x67
  | 79 => some x79
  | 80 => some x80
  | 83 => some x83
  | 84 => some x84
  | 85 => some x85
  | 95 => some x95
  | 96 => some x96
  | 98 => some x98
  | 99 => some x99
  | 105 => some x105
  | _ => none
theorem tabA_is : ∀ f d, tabA f = some d → FnIs Try.prog f d := by
  intro f d h
  unfold tabA at h
  split at h
  · cases h; exact is3
  · cases h; exact is4
  · cases h; exact is5
  · cases h; exact is8
  · cases h; exact is9
  · cases h; exact is10
  · cases h; exact is11
  · cases h; exact is12
  · cases h; exact is13
  · cases h; exact is14
  · cases h; exact is15
  · cases h; exact is16
  · cases h; exact is17
  · cases h; exact is18
  · cases h; exact is19
  · cases h; exact is20
  · cases h; exact is21
  · cases h; exact is22
  · cases h; exact is23
  · cases h; exact is24
  · cases h; exact is36
  · cases h; exact is37
  · cases h; exact is38
  · cases h; exact is39
  · cases h; exact is40
  · cases h; exact is41
  · cases h; exact is42
  · cases h; exact is43
  · cases h; exact is60
  · cases h; exact is61
  · cases h; exact is62
  · cases h; exact is63
  · cases h; exact is64
  · cases h; exact is65
  · cases h; exact is66
  · cases h; exact is67
  · cases h; exact is79
  · cases h; exact is80
  · cases h; exact is83
  · cases h; exact is84
  · cases h; exact is85
  · cases h; exact is95
  · cases h; exact is96
  · cases h; exact is98
  · cases h; exact is99
  · cases h; exact is105
  · cases h

end Go.Proofs.Ytecceimgpeookaa.X
