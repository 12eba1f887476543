/-
  Own work, printed by a program of ours (mkprog.py): the functions of this seat as code of the abstract run, and that each is the model's.
-/
import Derived.Test.YtepadpjpmmaodaaGreatDoorXLaw
import Derived.Test.YtepadpjpmmaodaaGreatDoorChecked
set_option maxRecDepth 100000
namespace Go.Proofs.YtepadpjpmmaodaaGreatDoor.X
open Go

/-- cloisonne/cloisonnelaw19.JobNil -/
def x4 : XDecl := .code ⟨1, 
 (.seq (.ops [⟨(some 1), none, .box (.t 0)⟩,
   ⟨(some 2), none, .move (.c (.bool false))⟩] (some [1]))
 (.seq (.seq (.ops [⟨(some 15), none, .call (.c (.func (.func 22) #[] #[])) []⟩,
   ⟨(some 16), none, .un .not (.t 15)⟩] (some [1, 16]))
 (.cond (.t 16)
  (.seq (.ops [⟨(some 2), none, .move (.c (.bool false))⟩] (some [2]))
  .ret)
  .skip))
 (.seq (.seq (.ops [⟨(some 17), none, .load true 11 (.t 1)⟩,
   ⟨(some 18), none, .call (.c (.func (.func 23) #[] #[])) [(.t 17)]⟩] (some [1, 18]))
 (.cond (.t 18)
  (.seq (.ops [⟨(some 2), none, .move (.c (.bool true))⟩] (some [2]))
  .ret)
  .skip))
 (.seq (.ops [⟨(some 3), none, .move (.c (.pointer none))⟩] (some [1, 3]))
 (.seq (.ops [⟨(some 20), none, .move (.t 3)⟩,
   ⟨(some 21), none, .call (.c (.func (.func 24) #[] #[])) [(.t 20)]⟩,
   ⟨(some 19), none, .move (.t 21)⟩,
   ⟨(some 22), none, .extract (.t 19) 0⟩,
   ⟨(some 23), none, .extract (.t 19) 1⟩,
   ⟨(some 4), none, .move (.t 22)⟩,
   ⟨(some 5), none, .move (.t 23)⟩] (some [1, 3, 4, 5]))
 (.seq (.ops [⟨(some 25), none, .move (.t 3)⟩,
   ⟨(some 26), none, .call (.c (.func (.func 25) #[] #[])) [(.t 25)]⟩,
   ⟨(some 24), none, .move (.t 26)⟩,
   ⟨(some 27), none, .extract (.t 24) 0⟩,
   ⟨(some 28), none, .extract (.t 24) 1⟩,
   ⟨(some 29), none, .extract (.t 24) 2⟩,
   ⟨(some 6), none, .move (.t 27)⟩,
   ⟨(some 7), none, .move (.t 28)⟩,
   ⟨(some 8), none, .move (.t 29)⟩] (some [1, 3, 4, 5, 6, 7, 8]))
 (.seq (.ops [⟨(some 31), none, .fieldAddr 1 (.t 1)⟩,
   ⟨(some 32), none, .load false 1 (.t 31)⟩,
   ⟨(some 33), none, .fieldAddr 2 (.t 1)⟩,
   ⟨(some 34), none, .load false 1 (.t 33)⟩,
   ⟨(some 35), none, .fieldAddr 4 (.t 1)⟩,
   ⟨(some 36), none, .load false 1 (.t 35)⟩,
   ⟨(some 37), none, .call (.c (.func (.func 26) #[] #[])) [(.c (.pointer none)), (.t 32), (.t 34), (.t 36), (.c (.int .u64 0))]⟩,
   ⟨(some 30), none, .move (.t 37)⟩,
   ⟨(some 38), none, .extract (.t 30) 0⟩,
   ⟨(some 39), none, .extract (.t 30) 1⟩,
   ⟨(some 9), none, .move (.t 38)⟩,
   ⟨(some 10), none, .move (.t 39)⟩] (some [1, 3, 4, 5, 6, 7, 8, 9, 10]))
 (.seq (.ops [⟨(some 41), none, .fieldAddr 1 (.t 1)⟩,
   ⟨(some 42), none, .load false 1 (.t 41)⟩,
   ⟨(some 43), none, .fieldAddr 5 (.t 1)⟩,
   ⟨(some 44), none, .load true 5 (.t 43)⟩,
   ⟨(some 45), none, .call (.c (.func (.func 27) #[] #[])) [(.c (.pointer none)), (.t 42), (.t 44)]⟩,
   ⟨(some 40), none, .move (.t 45)⟩,
   ⟨(some 46), none, .extract (.t 40) 0⟩,
   ⟨(some 47), none, .extract (.t 40) 1⟩,
   ⟨(some 11), none, .move (.t 46)⟩,
   ⟨(some 12), none, .move (.t 47)⟩] (some [1, 3, 4, 5, 6, 7, 8, 9, 10, 11, 12]))
 (.seq (.ops [⟨(some 49), none, .fieldAddr 1 (.t 1)⟩,
   ⟨(some 50), none, .load false 1 (.t 49)⟩,
   ⟨(some 51), none, .fieldAddr 2 (.t 1)⟩,
   ⟨(some 52), none, .load false 1 (.t 51)⟩,
   ⟨(some 53), none, .call (.c (.func (.func 28) #[] #[])) [(.c (.pointer none)), (.t 50), (.t 52)]⟩,
   ⟨(some 48), none, .move (.t 53)⟩,
   ⟨(some 54), none, .extract (.t 48) 0⟩,
   ⟨(some 55), none, .extract (.t 48) 1⟩,
   ⟨(some 13), none, .move (.t 54)⟩,
   ⟨(some 14), none, .move (.t 55)⟩] (some [3, 4, 5, 6, 7, 8, 9, 10, 11, 12, 13, 14]))
 (.seq (.ops [⟨(some 56), none, .move (.t 4)⟩,
   ⟨(some 57), none, .bin .eql 3 (.t 56) (.c (.int .i64 0))⟩,
   ⟨(some 58), none, .move (.t 57)⟩,
   ⟨(some 59), (some (58, true)), .move (.t 5)⟩,
   ⟨(some 60), (some (58, true)), .bin .eql 28 (.t 59) (.c (.int .i64 2))⟩,
   ⟨(some 61), none, .pick (.t 58) (.t 60) (.c (.bool false))⟩,
   ⟨(some 62), none, .move (.t 61)⟩,
   ⟨(some 63), (some (62, true)), .move (.t 6)⟩,
   ⟨(some 64), (some (62, true)), .bin .eql 40 (.t 63) (.c (.int .u64 0))⟩,
   ⟨(some 65), none, .pick (.t 62) (.t 64) (.c (.bool false))⟩,
   ⟨(some 66), none, .move (.t 65)⟩,
   ⟨(some 67), (some (66, true)), .move (.t 7)⟩,
   ⟨(some 68), (some (66, true)), .bin .eql 28 (.t 67) (.c (.int .i64 2))⟩,
   ⟨(some 69), none, .pick (.t 66) (.t 68) (.c (.bool false))⟩,
   ⟨(some 70), none, .move (.t 69)⟩,
   ⟨(some 71), (some (70, true)), .move (.t 8)⟩,
   ⟨(some 72), (some (70, true)), .un .not (.t 71)⟩,
   ⟨(some 73), none, .pick (.t 70) (.t 72) (.c (.bool false))⟩,
   ⟨(some 74), none, .move (.t 73)⟩,
   ⟨(some 75), (some (74, true)), .move (.t 3)⟩,
   ⟨(some 76), (some (74, true)), .call (.c (.func (.func 29) #[] #[])) [(.t 75)]⟩,
   ⟨(some 77), (some (74, true)), .un .not (.t 76)⟩,
   ⟨(some 78), none, .pick (.t 74) (.t 77) (.c (.bool false))⟩,
   ⟨(some 79), none, .move (.t 78)⟩,
   ⟨(some 80), (some (79, true)), .move (.t 3)⟩,
   ⟨(some 81), (some (79, true)), .call (.c (.func (.func 30) #[] #[])) [(.t 80)]⟩,
   ⟨(some 82), (some (79, true)), .bin .eql 3 (.t 81) (.c (.int .i64 0))⟩,
   ⟨(some 83), none, .pick (.t 79) (.t 82) (.c (.bool false))⟩,
   ⟨(some 84), none, .move (.t 83)⟩,
   ⟨(some 85), (some (84, true)), .move (.t 9)⟩,
   ⟨(some 86), (some (84, true)), .isNil .ptr false (.t 85)⟩,
   ⟨(some 87), none, .pick (.t 84) (.t 86) (.c (.bool false))⟩,
   ⟨(some 88), none, .move (.t 87)⟩,
   ⟨(some 89), (some (88, true)), .move (.t 10)⟩,
   ⟨(some 90), (some (88, true)), .bin .eql 28 (.t 89) (.c (.int .i64 2))⟩,
   ⟨(some 91), none, .pick (.t 88) (.t 90) (.c (.bool false))⟩,
   ⟨(some 92), none, .move (.t 91)⟩,
   ⟨(some 93), (some (92, true)), .move (.t 11)⟩,
   ⟨(some 94), (some (92, true)), .isNil .ptr false (.t 93)⟩,
   ⟨(some 95), none, .pick (.t 92) (.t 94) (.c (.bool false))⟩,
   ⟨(some 96), none, .move (.t 95)⟩,
   ⟨(some 97), (some (96, true)), .move (.t 12)⟩,
   ⟨(some 98), (some (96, true)), .bin .eql 28 (.t 97) (.c (.int .i64 2))⟩,
   ⟨(some 99), none, .pick (.t 96) (.t 98) (.c (.bool false))⟩,
   ⟨(some 100), none, .move (.t 99)⟩,
   ⟨(some 101), (some (100, true)), .move (.t 13)⟩,
   ⟨(some 102), (some (100, true)), .isNil .ptr false (.t 101)⟩,
   ⟨(some 103), none, .pick (.t 100) (.t 102) (.c (.bool false))⟩,
   ⟨(some 104), none, .move (.t 103)⟩,
   ⟨(some 105), (some (104, true)), .move (.t 14)⟩,
   ⟨(some 106), (some (104, true)), .bin .eql 28 (.t 105) (.c (.int .i64 2))⟩,
   ⟨(some 107), none, .pick (.t 104) (.t 106) (.c (.bool false))⟩,
   ⟨(some 2), none, .move (.t 107)⟩] (some [2]))
 .ret)))))))))), [.tmp 2]⟩

theorem is4 : FnIs Tryz.prog 4 x4 := ⟨Tryz.f4, _, Tryz.func4, by kernel_rfl, rfl, by kernel_rfl, by decide, by kernel_rfl⟩

/-- cloisonne/vault.Open -/
def x7 : XDecl := .code ⟨2, 
 (.seq (.ops [⟨(some 2), none, .box (.t 0)⟩,
   ⟨(some 4), none, .move (.c (.pointer none))⟩,
   ⟨(some 5), none, .move (.c (.int .i64 0))⟩] (some [1, 2]))
 (.seq (.block 0
  (.seq (.ops [⟨(some 12), none, .move (.t 1)⟩,
    ⟨(some 13), none, .isNil .ptr false (.t 12)⟩,
    ⟨(some 11), none, .move (.t 13)⟩] (some [1, 2, 11]))
  (.cond (.t 11)
   (.seq (.ops [⟨(some 4), none, .move (.c (.pointer none))⟩,
     ⟨(some 5), none, .move (.c (.int .i64 2))⟩] (some [4, 5]))
   .ret)
   (.seq (.opsd [(0, 0, ⟨(some 15), none, .load true 4 (.t 2)⟩),
     (1, 1, ⟨(some 16), none, .call (.c (.func (.func 35) #[] #[])) [(.t 15)]⟩),
     (2, 3, ⟨(some 17), none, .un .not (.t 16)⟩),
     (3, 7, ⟨(some 18), none, .move (.t 17)⟩),
     (4, 15, ⟨(some 19), (some (18, false)), .move (.t 1)⟩),
     (6, 15, ⟨(some 21), (some (18, false)), .fieldAddr 3 (.t 2)⟩),
     (7, 79, ⟨(some 22), (some (18, false)), .load false 1 (.t 21)⟩),
     (8, 207, ⟨(some 23), (some (18, false)), .len (.t 22)⟩),
     (9, 463, ⟨(some 24), (some (18, false)), .bin .mul 3 (.c (.int .i64 2)) (.t 23)⟩),
     (10, 975, ⟨(some 25), (some (18, false)), .bin .add 3 (.c (.int .i64 2)) (.t 24)⟩),
     (5, 31, ⟨(some 20), (some (18, false)), .call (.c (.func (.func 36) #[] #[])) [(.t 19)]⟩),
     (11, 2047, ⟨(some 26), (some (18, false)), .bin .lss 3 (.t 20) (.t 25)⟩),
     (12, 4095, ⟨(some 27), none, .pick (.t 18) (.c (.bool true)) (.t 26)⟩),
     (13, 8191, ⟨(some 28), none, .move (.t 27)⟩),
     (14, 16383, ⟨(some 29), (some (28, false)), .move (.t 1)⟩),
     (16, 16383, ⟨(some 31), (some (28, false)), .fieldAddr 2 (.t 2)⟩),
     (17, 81919, ⟨(some 32), (some (28, false)), .load false 1 (.t 31)⟩),
     (15, 32767, ⟨(some 30), (some (28, false)), .call (.c (.func (.func 37) #[] #[])) [(.t 29)]⟩),
     (18, 262143, ⟨(some 33), (some (28, false)), .bin .neq 3 (.t 30) (.t 32)⟩),
     (19, 524287, ⟨(some 34), none, .pick (.t 28) (.c (.bool true)) (.t 33)⟩),
     (20, 1048575, ⟨(some 14), none, .move (.t 34)⟩)] (some [1, 2, 14]))
   (.cond (.t 14)
    (.seq (.ops [⟨(some 4), none, .move (.c (.pointer none))⟩,
      ⟨(some 5), none, .move (.c (.int .i64 1))⟩] (some [4, 5]))
    .ret)
    (.seq (.ops [⟨(some 36), none, .move (.t 1)⟩,
      ⟨(some 37), none, .call (.c (.func (.func 38) #[] #[])) [(.t 36)]⟩,
      ⟨(some 38), none, .un .not (.t 37)⟩,
      ⟨(some 35), none, .move (.t 38)⟩] (some [1, 2, 35]))
    (.cond (.t 35)
     (.seq (.ops [⟨(some 4), none, .move (.c (.pointer none))⟩,
       ⟨(some 5), none, .move (.c (.int .i64 6))⟩] (some [4, 5]))
     .ret)
     .skip)))))))
 (.seq (.ops [⟨(some 39), none, .load true 4 (.t 2)⟩,
   ⟨(some 40), none, .call (.c (.func (.func 39) #[] #[])) [(.t 39)]⟩,
   ⟨(some 41), none, .move (.t 1)⟩,
   ⟨(some 42), none, .makeMap⟩,
   ⟨(some 43), none, .build [(.int .i64 0), (.int .i64 0), (.int .i64 0), (.slice none 0 0), (.pointer none), (.pointer none), (.slice none 0 0), (.slice none 0 0), (.map none), (.int .u64 0)] [(0, 4), (4, 1), (5, 1), (6, 1), (7, 1), (8, 1), (9, 1)] [(0, (.t 40)), (1, (.t 41)), (5, (.t 42))]⟩,
   ⟨(some 44), none, .box (.t 43)⟩,
   ⟨(some 6), none, .move (.t 44)⟩] (some [6]))
 (.seq (.seq (.ops [⟨(some 45), none, .move (.t 6)⟩,
   ⟨(some 46), none, .call (.c (.func (.func 40) #[] #[])) [(.t 45)]⟩,
   ⟨(some 7), none, .move (.t 46)⟩] (some [6, 7]))
 (.seq (.ops [⟨(some 47), none, .move (.t 7)⟩,
   ⟨(some 48), none, .bin .neq 28 (.t 47) (.c (.int .i64 0))⟩] (some [6, 7, 48]))
 (.cond (.t 48)
  (.seq (.ops [⟨(some 49), none, .move (.t 7)⟩,
    ⟨(some 4), none, .move (.c (.pointer none))⟩,
    ⟨(some 5), none, .move (.t 49)⟩] (some [4, 5]))
  .ret)
  .skip)))
 (.seq (.seq (.ops [⟨(some 50), none, .move (.t 6)⟩,
   ⟨(some 51), none, .nilCheck (.t 50)⟩,
   ⟨(some 52), none, .fieldAddr 0 (.t 51)⟩,
   ⟨(some 53), none, .fieldAddr 3 (.t 52)⟩,
   ⟨(some 54), none, .load false 1 (.t 53)⟩,
   ⟨(some 55), none, .len (.t 54)⟩,
   ⟨(some 56), none, .move (.c (.int .i64 0))⟩] (some [6, 54, 55, 56]))
 (.block 1
  (.loop
   (.seq (.ops [⟨(some 57), none, .bin .lss 3 (.t 56) (.t 55)⟩] (some [6, 54, 55, 56, 57]))
   (.seq (.cond (.t 57)
    .skip
    (.exit 1))
   (.seq (.block 2
    (.seq (.ops [⟨(some 58), none, .indexAddr 4 (.t 54) (.t 56)⟩,
      ⟨(some 59), none, .load true 4 (.t 58)⟩,
      ⟨(some 9), none, .alloc [(.slice none 0 0), (.int .i64 0), (.int .i64 0), (.int .i64 0)]⟩,
      ⟨none, none, .store 4 (.t 9) (.t 59)⟩] (some [6, 9, 54, 55, 56]))
    (.seq (.ops [⟨(some 60), none, .move (.t 6)⟩,
      ⟨(some 61), none, .load true 4 (.t 9)⟩,
      ⟨(some 62), none, .call (.c (.func (.func 41) #[] #[])) [(.t 60), (.t 61)]⟩,
      ⟨(some 10), none, .move (.t 62)⟩] (some [6, 10, 54, 55, 56]))
    (.seq (.ops [⟨(some 63), none, .move (.t 10)⟩,
      ⟨(some 64), none, .bin .neq 28 (.t 63) (.c (.int .i64 0))⟩] (some [6, 10, 54, 55, 56, 64]))
    (.cond (.t 64)
     (.seq (.ops [⟨(some 65), none, .move (.t 10)⟩,
       ⟨(some 4), none, .move (.c (.pointer none))⟩,
       ⟨(some 5), none, .move (.t 65)⟩] (some [4, 5]))
     .ret)
     .skip)))))
   (.ops [⟨(some 66), none, .bin .add 3 (.t 56) (.c (.int .i64 1))⟩,
     ⟨(some 56), none, .move (.t 66)⟩] (some [6, 54, 55, 56]))))))))
 (.seq (.ops [⟨(some 67), none, .move (.t 6)⟩,
   ⟨(some 4), none, .move (.t 67)⟩,
   ⟨(some 5), none, .move (.c (.int .i64 0))⟩] (some [4, 5]))
 .ret)))))), [.tmp 4, .tmp 5]⟩

theorem is7 : FnIs Tryz.prog 7 x7 := ⟨Tryz.f7, _, Tryz.func7, by kernel_rfl, rfl, by kernel_rfl, by decide, by kernel_rfl⟩

/-- (*cloisonne/vault.Vault).Free -/
def x8 : XDecl := .code ⟨2, 
 (.seq (.ops [⟨(some 4), none, .move (.t 0)⟩,
   ⟨(some 5), none, .isNil .ptr true (.t 4)⟩] (some [0, 1, 5]))
 (.cond (.t 5)
  (.ops [⟨(some 6), none, .move (.t 0)⟩,
    ⟨(some 7), none, .nilCheck (.t 6)⟩,
    ⟨(some 8), none, .fieldAddr 8 (.t 7)⟩,
    ⟨(some 9), none, .load false 1 (.t 8)⟩,
    ⟨(some 10), none, .move (.t 1)⟩,
    ⟨none, none, .mapDel true (.t 9) (.t 10)⟩] (some []))
  .skip)), []⟩

theorem is8 : FnIs Tryz.prog 8 x8 := ⟨Tryz.f8, _, Tryz.func8, by kernel_rfl, rfl, by kernel_rfl, by decide, by kernel_rfl⟩

/-- (*cloisonne/vault.Vault).Room -/
def x11 : XDecl := .code ⟨2, 
 (.seq (.ops [⟨(some 4), none, .move (.c (.pointer none))⟩] (some [0, 1]))
 (.seq (.seq (.ops [⟨(some 5), none, .move (.t 0)⟩,
   ⟨(some 6), none, .isNil .ptr false (.t 5)⟩,
   ⟨(some 7), none, .move (.t 6)⟩,
   ⟨(some 8), (some (7, false)), .move (.t 1)⟩,
   ⟨(some 9), (some (7, false)), .move (.t 0)⟩,
   ⟨(some 10), (some (7, false)), .nilCheck (.t 9)⟩,
   ⟨(some 11), (some (7, false)), .fieldAddr 6 (.t 10)⟩,
   ⟨(some 12), (some (7, false)), .load false 1 (.t 11)⟩,
   ⟨(some 13), (some (7, false)), .len (.t 12)⟩,
   ⟨(some 14), (some (7, false)), .bin .sub 3 (.t 13) (.c (.int .i64 1))⟩,
   ⟨(some 15), (some (7, false)), .call (.c (.func (.func 42) #[] #[])) [(.t 8), (.c (.int .i64 0)), (.t 14)]⟩,
   ⟨(some 16), (some (7, false)), .un .not (.t 15)⟩,
   ⟨(some 17), none, .pick (.t 7) (.c (.bool true)) (.t 16)⟩] (some [0, 1, 17]))
 (.cond (.t 17)
  (.seq (.ops [⟨(some 4), none, .move (.c (.pointer none))⟩] (some [4]))
  .ret)
  .skip))
 (.seq (.ops [⟨(some 18), none, .move (.t 0)⟩,
   ⟨(some 19), none, .nilCheck (.t 18)⟩,
   ⟨(some 20), none, .fieldAddr 6 (.t 19)⟩,
   ⟨(some 21), none, .load false 1 (.t 20)⟩,
   ⟨(some 22), none, .move (.t 1)⟩,
   ⟨(some 23), none, .indexAddr 1 (.t 21) (.t 22)⟩,
   ⟨(some 24), none, .load false 1 (.t 23)⟩,
   ⟨(some 4), none, .move (.t 24)⟩] (some [4]))
 .ret))), [.tmp 4]⟩

theorem is11 : FnIs Tryz.prog 11 x11 := ⟨Tryz.f11, _, Tryz.func11, by kernel_rfl, rfl, by kernel_rfl, by decide, by kernel_rfl⟩

/-- (*cloisonne/vault.Vault).Log -/
def x12 : XDecl := .code ⟨2, 
 (.seq (.ops [⟨(some 4), none, .move (.c (.pointer none))⟩] (some [0, 1]))
 (.seq (.seq (.ops [⟨(some 5), none, .move (.t 0)⟩,
   ⟨(some 6), none, .move (.t 1)⟩,
   ⟨(some 7), none, .call (.c (.func (.func 43) #[] #[])) [(.t 5), (.t 6)]⟩,
   ⟨(some 8), none, .un .not (.t 7)⟩] (some [0, 1, 8]))
 (.cond (.t 8)
  (.seq (.ops [⟨(some 4), none, .move (.c (.pointer none))⟩] (some [4]))
  .ret)
  .skip))
 (.seq (.ops [⟨(some 9), none, .move (.t 0)⟩,
   ⟨(some 10), none, .nilCheck (.t 9)⟩,
   ⟨(some 11), none, .fieldAddr 7 (.t 10)⟩,
   ⟨(some 12), none, .load false 1 (.t 11)⟩,
   ⟨(some 13), none, .move (.t 1)⟩,
   ⟨(some 14), none, .bin .add 3 (.t 13) (.c (.int .i64 1))⟩,
   ⟨(some 15), none, .indexAddr 1 (.t 12) (.t 14)⟩,
   ⟨(some 16), none, .load false 1 (.t 15)⟩,
   ⟨(some 4), none, .move (.t 16)⟩] (some [4]))
 .ret))), [.tmp 4]⟩

theorem is12 : FnIs Tryz.prog 12 x12 := ⟨Tryz.f12, _, Tryz.func12, by kernel_rfl, rfl, by kernel_rfl, by decide, by kernel_rfl⟩

/-- (*cloisonne/vault.Vault).Next -/
def x14 : XDecl := .code ⟨1, 
 (.seq (.ops [⟨(some 2), none, .move (.c (.int .u64 0))⟩] (some [0]))
 (.seq (.seq (.ops [⟨(some 3), none, .move (.t 0)⟩,
   ⟨(some 4), none, .isNil .ptr false (.t 3)⟩] (some [0, 4]))
 (.cond (.t 4)
  (.seq (.ops [⟨(some 2), none, .move (.c (.int .u64 0))⟩] (some [2]))
  .ret)
  .skip))
 (.seq (.ops [⟨(some 5), none, .move (.t 0)⟩,
   ⟨(some 6), none, .nilCheck (.t 5)⟩,
   ⟨(some 7), none, .fieldAddr 9 (.t 6)⟩,
   ⟨(some 8), none, .load false 1 (.t 7)⟩,
   ⟨(some 9), none, .bin .add 40 (.t 8) (.c (.int .u64 1))⟩,
   ⟨(some 10), none, .nilCheck (.t 5)⟩,
   ⟨(some 11), none, .fieldAddr 9 (.t 10)⟩,
   ⟨none, none, .store 1 (.t 11) (.t 9)⟩] (some [0]))
 (.seq (.ops [⟨(some 12), none, .move (.t 0)⟩,
   ⟨(some 13), none, .nilCheck (.t 12)⟩,
   ⟨(some 14), none, .fieldAddr 9 (.t 13)⟩,
   ⟨(some 15), none, .load false 1 (.t 14)⟩,
   ⟨(some 2), none, .move (.t 15)⟩] (some [2]))
 .ret)))), [.tmp 2]⟩

theorem is14 : FnIs Tryz.prog 14 x14 := ⟨Tryz.f14, _, Tryz.func14, by kernel_rfl, rfl, by kernel_rfl, by decide, by kernel_rfl⟩

/-- (*cloisonne/vault.Vault).Hold -/
def x15 : XDecl := .code ⟨3, 
 (.seq (.ops [⟨(some 6), none, .move (.c (.bool false))⟩] (some [0, 1, 2]))
 (.seq (.seq (.ops [⟨(some 9), none, .move (.t 0)⟩,
   ⟨(some 10), none, .move (.t 1)⟩,
   ⟨(some 11), none, .call (.c (.func (.func 43) #[] #[])) [(.t 9), (.t 10)]⟩,
   ⟨(some 12), none, .un .not (.t 11)⟩] (some [0, 1, 2, 12]))
 (.cond (.t 12)
  (.seq (.ops [⟨(some 6), none, .move (.c (.bool false))⟩] (some [6]))
  .ret)
  .skip))
 (.seq (.seq (.ops [⟨(some 14), none, .move (.t 0)⟩,
   ⟨(some 15), none, .nilCheck (.t 14)⟩,
   ⟨(some 16), none, .fieldAddr 8 (.t 15)⟩,
   ⟨(some 17), none, .load false 1 (.t 16)⟩,
   ⟨(some 18), none, .move (.t 1)⟩,
   ⟨(some 19), none, .lookup true (.int .i64 0) true (.t 17) (.t 18)⟩,
   ⟨(some 13), none, .move (.t 19)⟩,
   ⟨(some 20), none, .extract (.t 13) 0⟩,
   ⟨(some 21), none, .extract (.t 13) 1⟩,
   ⟨(some 7), none, .move (.t 20)⟩,
   ⟨(some 8), none, .move (.t 21)⟩] (some [0, 1, 2, 8]))
 (.seq (.ops [⟨(some 22), none, .move (.t 8)⟩] (some [0, 1, 2, 22]))
 (.cond (.t 22)
  (.seq (.ops [⟨(some 6), none, .move (.c (.bool false))⟩] (some [6]))
  .ret)
  .skip)))
 (.seq (.ops [⟨(some 23), none, .move (.t 0)⟩,
   ⟨(some 24), none, .nilCheck (.t 23)⟩,
   ⟨(some 25), none, .fieldAddr 8 (.t 24)⟩,
   ⟨(some 26), none, .load false 1 (.t 25)⟩,
   ⟨(some 27), none, .move (.t 1)⟩,
   ⟨(some 28), none, .move (.t 2)⟩,
   ⟨none, none, .mapUpdate true (.t 26) (.t 27) (.t 28)⟩] (some []))
 (.seq (.ops [⟨(some 6), none, .move (.c (.bool true))⟩] (some [6]))
 .ret))))), [.tmp 6]⟩

theorem is15 : FnIs Tryz.prog 15 x15 := ⟨Tryz.f15, _, Tryz.func15, by kernel_rfl, rfl, by kernel_rfl, by decide, by kernel_rfl⟩

/-- cloisonne/extent.New -/
def x20 : XDecl := .code ⟨2, 
 (.seq (.ops [⟨(some 4), none, .move (.c (.pointer none))⟩,
   ⟨(some 5), none, .move (.c (.int .i64 0))⟩] (some [0, 1]))
 (.seq (.seq (.ops [⟨(some 7), none, .move (.t 0)⟩,
   ⟨(some 8), none, .bin .lss 3 (.t 7) (.c (.int .i64 1))⟩,
   ⟨(some 9), none, .move (.t 8)⟩,
   ⟨(some 10), (some (9, false)), .move (.t 0)⟩,
   ⟨(some 11), (some (9, false)), .bin .gtr 3 (.t 10) (.c (.int .i64 32))⟩,
   ⟨(some 12), none, .pick (.t 9) (.c (.bool true)) (.t 11)⟩,
   ⟨(some 13), none, .move (.t 12)⟩,
   ⟨(some 14), (some (13, false)), .move (.t 1)⟩,
   ⟨(some 15), (some (13, false)), .bin .lss 3 (.t 14) (.c (.int .i64 1))⟩,
   ⟨(some 16), none, .pick (.t 13) (.c (.bool true)) (.t 15)⟩,
   ⟨(some 17), none, .move (.t 16)⟩,
   ⟨(some 18), (some (17, false)), .move (.t 1)⟩,
   ⟨(some 19), (some (17, false)), .bin .gtr 3 (.t 18) (.c (.int .i64 128))⟩,
   ⟨(some 20), none, .pick (.t 17) (.c (.bool true)) (.t 19)⟩] (some [0, 1, 20]))
 (.cond (.t 20)
  (.seq (.ops [⟨(some 4), none, .move (.c (.pointer none))⟩,
    ⟨(some 5), none, .move (.c (.int .i64 1))⟩] (some [4, 5]))
  .ret)
  .skip))
 (.seq (.ops [⟨(some 21), none, .move (.t 1)⟩,
   ⟨(some 22), none, .build [(.bool false), (.int .i64 0), (.slice none 0 0), (.slice none 0 0)] [(0, 1), (1, 1), (2, 1), (3, 1)] [(1, (.t 21))]⟩,
   ⟨(some 23), none, .box (.t 22)⟩,
   ⟨(some 6), none, .move (.t 23)⟩] (some [0, 1, 6]))
 (.seq (.seq (.ops [⟨(some 24), none, .move (.t 0)⟩,
   ⟨(some 25), none, .move (.c (.int .i64 0))⟩] (some [1, 6, 24, 25]))
 (.block 0
  (.loop
   (.seq (.ops [⟨(some 26), none, .bin .lss 3 (.t 25) (.t 24)⟩] (some [1, 6, 24, 25, 26]))
   (.seq (.cond (.t 26)
    .skip
    (.exit 0))
   (.seq (.block 1
    (.seq (.opsd [(0, 0, ⟨(some 27), none, .move (.t 6)⟩),
      (1, 0, ⟨(some 28), none, .move (.t 6)⟩),
      (2, 2, ⟨(some 29), none, .nilCheck (.t 28)⟩),
      (3, 6, ⟨(some 30), none, .fieldAddr 2 (.t 29)⟩),
      (4, 14, ⟨(some 31), none, .load false 1 (.t 30)⟩),
      (5, 0, ⟨(some 32), none, .move (.t 1)⟩),
      (6, 32, ⟨(some 33), none, .makeSlice [(.string .empty)] 16 (.t 32) (.t 32)⟩),
      (7, 96, ⟨(some 34), none, .buildSlice [(.slice none 0 0)] 1 1 [(0, (.t 33))]⟩),
      (8, 254, ⟨(some 35), none, .append 1 24 [(.slice none 0 0)] (.t 31) (.t 34)⟩),
      (9, 511, ⟨(some 36), none, .nilCheck (.t 27)⟩),
      (10, 1023, ⟨(some 37), none, .fieldAddr 2 (.t 36)⟩),
      (11, 2047, ⟨none, none, .store 1 (.t 37) (.t 35)⟩)] (some [1, 6, 24, 25]))
    (.ops [⟨(some 38), none, .move (.t 6)⟩,
      ⟨(some 39), none, .move (.t 6)⟩,
      ⟨(some 40), none, .nilCheck (.t 39)⟩,
      ⟨(some 41), none, .fieldAddr 3 (.t 40)⟩,
      ⟨(some 42), none, .load false 1 (.t 41)⟩,
      ⟨(some 43), none, .makeMap⟩,
      ⟨(some 44), none, .buildSlice [(.map none)] 1 1 [(0, (.t 43))]⟩,
      ⟨(some 45), none, .append 1 8 [(.map none)] (.t 42) (.t 44)⟩,
      ⟨(some 46), none, .nilCheck (.t 38)⟩,
      ⟨(some 47), none, .fieldAddr 3 (.t 46)⟩,
      ⟨none, none, .store 1 (.t 47) (.t 45)⟩] (some [1, 6, 24, 25]))))
   (.ops [⟨(some 48), none, .bin .add 3 (.t 25) (.c (.int .i64 1))⟩,
     ⟨(some 25), none, .move (.t 48)⟩] (some [1, 6, 24, 25]))))))))
 (.seq (.ops [⟨(some 49), none, .move (.t 6)⟩,
   ⟨(some 4), none, .move (.t 49)⟩,
   ⟨(some 5), none, .move (.c (.int .i64 0))⟩] (some [4, 5]))
 .ret))))), [.tmp 4, .tmp 5]⟩

theorem is20 : FnIs Tryz.prog 20 x20 := ⟨Tryz.f20, _, Tryz.func20, by kernel_rfl, rfl, by kernel_rfl, by decide, by kernel_rfl⟩

/-- cloisonne/cloisonnelaw19.awake -/
def x22 : XDecl := .code ⟨0, 
 (.seq (.ops [⟨(some 0), none, .move (.c (.bool false))⟩] (some []))
 (.seq (.ops [⟨(some 15), none, .call (.c (.func (.func 20) #[] #[])) [(.c (.int .i64 6)), (.c (.int .i64 8))]⟩,
   ⟨(some 14), none, .move (.t 15)⟩,
   ⟨(some 16), none, .extract (.t 14) 0⟩,
   ⟨(some 17), none, .extract (.t 14) 1⟩,
   ⟨(some 1), none, .move (.t 16)⟩,
   ⟨(some 2), none, .move (.t 17)⟩] (some [1, 2]))
 (.seq (.ops [⟨(some 19), none, .call (.c (.func (.func 31) #[] #[])) []⟩,
   ⟨(some 20), none, .move (.t 1)⟩,
   ⟨(some 21), none, .call (.c (.func (.func 7) #[] #[])) [(.t 19), (.t 20)]⟩,
   ⟨(some 18), none, .move (.t 21)⟩,
   ⟨(some 22), none, .extract (.t 18) 0⟩,
   ⟨(some 23), none, .extract (.t 18) 1⟩,
   ⟨(some 3), none, .move (.t 22)⟩,
   ⟨(some 4), none, .move (.t 23)⟩] (some [2, 3, 4]))
 (.seq (.ops [⟨(some 25), none, .move (.t 3)⟩,
   ⟨(some 26), none, .build [(.string .empty), (.bool false), (.bool false), (.string .empty), (.int .u64 0)] [(0, 1), (1, 1), (2, 3)] [(0, (.c (.string ⟨#[107]⟩)))]⟩,
   ⟨(some 27), none, .buildSlice [(.string .empty), (.bool false), (.bool false), (.string .empty), (.int .u64 0)] 5 1 [(0, (.t 26))]⟩,
   ⟨(some 28), none, .call (.c (.func (.func 26) #[] #[])) [(.t 25), (.c (.int .i64 1)), (.c (.int .i64 0)), (.t 27), (.c (.int .u64 0))]⟩,
   ⟨(some 24), none, .move (.t 28)⟩,
   ⟨(some 29), none, .extract (.t 24) 0⟩,
   ⟨(some 30), none, .extract (.t 24) 1⟩,
   ⟨(some 5), none, .move (.t 29)⟩,
   ⟨(some 6), none, .move (.t 30)⟩] (some [2, 4, 5, 6]))
 (.seq (.seq (.ops [⟨(some 31), none, .move (.t 2)⟩,
   ⟨(some 32), none, .bin .neq 28 (.t 31) (.c (.int .i64 0))⟩,
   ⟨(some 33), none, .move (.t 32)⟩,
   ⟨(some 34), (some (33, false)), .move (.t 4)⟩,
   ⟨(some 35), (some (33, false)), .bin .neq 28 (.t 34) (.c (.int .i64 0))⟩,
   ⟨(some 36), none, .pick (.t 33) (.c (.bool true)) (.t 35)⟩,
   ⟨(some 37), none, .move (.t 36)⟩,
   ⟨(some 38), (some (37, false)), .move (.t 6)⟩,
   ⟨(some 39), (some (37, false)), .bin .neq 28 (.t 38) (.c (.int .i64 0))⟩,
   ⟨(some 40), none, .pick (.t 37) (.c (.bool true)) (.t 39)⟩] (some [5, 40]))
 (.cond (.t 40)
  (.seq (.ops [⟨(some 0), none, .move (.c (.bool false))⟩] (some [0]))
  .ret)
  .skip))
 (.seq (.ops [⟨(some 7), none, .move (.c (.int .i64 0))⟩] (some [5, 7]))
 (.seq (.seq (.ops [⟨(some 8), none, .move (.c (.int .i64 0))⟩] (some [5, 7, 8]))
 (.block 0
  (.loop
   (.seq (.seq (.ops [⟨(some 41), none, .move (.t 8)⟩,
     ⟨(some 42), none, .bin .lss 3 (.t 41) (.c (.int .i64 9))⟩] (some [5, 7, 8, 42]))
   (.cond (.t 42)
    .skip
    (.exit 0)))
   (.seq (.block 1
    (.seq (.ops [⟨(some 46), none, .move (.t 5)⟩,
      ⟨(some 47), none, .call (.c (.func (.func 24) #[] #[])) [(.t 46)]⟩,
      ⟨(some 45), none, .move (.t 47)⟩,
      ⟨(some 48), none, .extract (.t 45) 0⟩,
      ⟨(some 49), none, .extract (.t 45) 1⟩,
      ⟨(some 9), none, .move (.t 48)⟩,
      ⟨(some 10), none, .move (.t 49)⟩] (some [5, 7, 8, 9]))
    (.seq (.ops [⟨(some 50), none, .move (.t 7)⟩,
      ⟨(some 51), none, .bin .add 3 (.t 50) (.c (.int .i64 1))⟩,
      ⟨(some 7), none, .move (.t 51)⟩] (some [5, 7, 8, 9]))
    (.seq (.ops [⟨(some 52), none, .move (.t 9)⟩,
      ⟨(some 53), none, .bin .eql 3 (.t 52) (.c (.int .i64 2))⟩] (some [5, 7, 8, 53]))
    (.cond (.t 53)
     (.exit 0)
     .skip)))))
   (.ops [⟨(some 43), none, .move (.t 8)⟩,
     ⟨(some 44), none, .bin .add 3 (.t 43) (.c (.int .i64 1))⟩,
     ⟨(some 8), none, .move (.t 44)⟩] (some [5, 7, 8])))))))
 (.seq (.ops [⟨(some 55), none, .move (.t 5)⟩,
   ⟨(some 56), none, .call (.c (.func (.func 25) #[] #[])) [(.t 55)]⟩,
   ⟨(some 54), none, .move (.t 56)⟩,
   ⟨(some 57), none, .extract (.t 54) 0⟩,
   ⟨(some 58), none, .extract (.t 54) 1⟩,
   ⟨(some 59), none, .extract (.t 54) 2⟩,
   ⟨(some 11), none, .move (.t 57)⟩,
   ⟨(some 12), none, .move (.t 58)⟩,
   ⟨(some 13), none, .move (.t 59)⟩] (some [7, 11, 12, 13]))
 (.seq (.ops [⟨(some 60), none, .move (.t 7)⟩,
   ⟨(some 61), none, .bin .eql 3 (.t 60) (.c (.int .i64 5))⟩,
   ⟨(some 62), none, .move (.t 61)⟩,
   ⟨(some 63), (some (62, true)), .move (.t 11)⟩,
   ⟨(some 64), (some (62, true)), .bin .eql 40 (.t 63) (.c (.int .u64 1))⟩,
   ⟨(some 65), none, .pick (.t 62) (.t 64) (.c (.bool false))⟩,
   ⟨(some 66), none, .move (.t 65)⟩,
   ⟨(some 67), (some (66, true)), .move (.t 12)⟩,
   ⟨(some 68), (some (66, true)), .bin .eql 28 (.t 67) (.c (.int .i64 0))⟩,
   ⟨(some 69), none, .pick (.t 66) (.t 68) (.c (.bool false))⟩,
   ⟨(some 70), none, .move (.t 69)⟩,
   ⟨(some 71), (some (70, true)), .move (.t 13)⟩,
   ⟨(some 72), none, .pick (.t 70) (.t 71) (.c (.bool false))⟩,
   ⟨(some 0), none, .move (.t 72)⟩] (some [0]))
 .ret))))))))), [.tmp 0]⟩

theorem is22 : FnIs Tryz.prog 22 x22 := ⟨Tryz.f22, _, Tryz.func22, by kernel_rfl, rfl, by kernel_rfl, by decide, by kernel_rfl⟩

/-- cloisonne/cloisonnelaw19.far -/
def x23 : XDecl := .code ⟨1, 
 (.seq (.ops [⟨(some 1), none, .box (.t 0)⟩,
   ⟨(some 2), none, .move (.c (.bool false))⟩] (some [1]))
 (.seq (.seq (.ops [⟨(some 4), none, .fieldAddr 4 (.t 1)⟩,
   ⟨(some 5), none, .load false 1 (.t 4)⟩,
   ⟨(some 6), none, .len (.t 5)⟩,
   ⟨(some 7), none, .bin .gtr 3 (.t 6) (.c (.int .i64 30))⟩,
   ⟨(some 8), none, .move (.t 7)⟩,
   ⟨(some 9), (some (8, false)), .fieldAddr 10 (.t 1)⟩,
   ⟨(some 10), (some (8, false)), .load false 1 (.t 9)⟩,
   ⟨(some 11), (some (8, false)), .len (.t 10)⟩,
   ⟨(some 12), (some (8, false)), .bin .gtr 3 (.t 11) (.c (.int .i64 100))⟩,
   ⟨(some 13), none, .pick (.t 8) (.c (.bool true)) (.t 12)⟩] (some [1, 13]))
 (.cond (.t 13)
  (.seq (.ops [⟨(some 2), none, .move (.c (.bool true))⟩] (some [2]))
  .ret)
  .skip))
 (.seq (.seq (.ops [⟨(some 3), none, .move (.c (.int .i64 0))⟩] (some [1, 3]))
 (.block 0
  (.loop
   (.seq (.seq (.ops [⟨(some 14), none, .move (.t 3)⟩,
     ⟨(some 15), none, .fieldAddr 4 (.t 1)⟩,
     ⟨(some 16), none, .load false 1 (.t 15)⟩,
     ⟨(some 17), none, .len (.t 16)⟩,
     ⟨(some 18), none, .bin .lss 3 (.t 14) (.t 17)⟩] (some [1, 3, 18]))
   (.cond (.t 18)
    .skip
    (.exit 0)))
   (.seq (.block 1
    (.seq (.ops [⟨(some 21), none, .fieldAddr 4 (.t 1)⟩,
      ⟨(some 22), none, .load false 1 (.t 21)⟩,
      ⟨(some 23), none, .move (.t 3)⟩,
      ⟨(some 24), none, .indexAddr 5 (.t 22) (.t 23)⟩,
      ⟨(some 25), none, .fieldAddr 0 (.t 24)⟩,
      ⟨(some 26), none, .load false 1 (.t 25)⟩,
      ⟨(some 27), none, .calcB .len [9] 3 [(.t 26)]⟩,
      ⟨(some 28), none, .bin .gtr 3 (.t 27) (.c (.int .i64 200))⟩,
      ⟨(some 29), none, .move (.t 28)⟩,
      ⟨(some 30), (some (29, false)), .fieldAddr 4 (.t 1)⟩,
      ⟨(some 31), (some (29, false)), .load false 1 (.t 30)⟩,
      ⟨(some 32), (some (29, false)), .move (.t 3)⟩,
      ⟨(some 33), (some (29, false)), .indexAddr 5 (.t 31) (.t 32)⟩,
      ⟨(some 34), (some (29, false)), .fieldAddr 2 (.t 33)⟩,
      ⟨(some 35), (some (29, false)), .fieldAddr 1 (.t 34)⟩,
      ⟨(some 36), (some (29, false)), .load false 1 (.t 35)⟩,
      ⟨(some 37), (some (29, false)), .calcB .len [9] 3 [(.t 36)]⟩,
      ⟨(some 38), (some (29, false)), .bin .gtr 3 (.t 37) (.c (.int .i64 200))⟩,
      ⟨(some 39), none, .pick (.t 29) (.c (.bool true)) (.t 38)⟩] (some [1, 3, 39]))
    (.cond (.t 39)
     (.seq (.ops [⟨(some 2), none, .move (.c (.bool true))⟩] (some [2]))
     .ret)
     .skip)))
   (.ops [⟨(some 19), none, .move (.t 3)⟩,
     ⟨(some 20), none, .bin .add 3 (.t 19) (.c (.int .i64 1))⟩,
     ⟨(some 3), none, .move (.t 20)⟩] (some [1, 3])))))))
 (.seq (.ops [⟨(some 2), none, .move (.c (.bool false))⟩] (some [2]))
 .ret)))), [.tmp 2]⟩

theorem is23 : FnIs Tryz.prog 23 x23 := ⟨Tryz.f23, _, Tryz.func23, by kernel_rfl, rfl, by kernel_rfl, by decide, by kernel_rfl⟩

/-- (*cloisonne/job.Job).Move -/
def x24 : XDecl := .code ⟨1, 
 (.seq (.ops [⟨(some 2), none, .move (.c (.int .i64 0))⟩,
   ⟨(some 3), none, .move (.c (.int .i64 0))⟩] (some [0]))
 (.seq (.seq (.ops [⟨(some 4), none, .move (.t 0)⟩,
   ⟨(some 5), none, .isNil .ptr false (.t 4)⟩] (some [0, 5]))
 (.cond (.t 5)
  (.seq (.ops [⟨(some 2), none, .move (.c (.int .i64 0))⟩,
    ⟨(some 3), none, .move (.c (.int .i64 2))⟩] (some [2, 3]))
  .ret)
  .skip))
 (.seq (.seq (.ops [⟨(some 6), none, .move (.t 0)⟩,
   ⟨(some 7), none, .nilCheck (.t 6)⟩,
   ⟨(some 8), none, .fieldAddr 4 (.t 7)⟩,
   ⟨(some 9), none, .load false 1 (.t 8)⟩] (some [0, 9]))
 (.block 0
  (.seq (.ops [⟨(some 11), none, .bin .eql 3 (.t 9) (.c (.int .i64 0))⟩,
    ⟨(some 10), none, .move (.t 11)⟩] (some [0, 9, 10]))
  (.cond (.t 10)
   (.seq (.ops [⟨(some 12), none, .move (.t 0)⟩,
     ⟨(some 13), none, .call (.c (.func (.func 48) #[] #[])) [(.t 12)]⟩,
     ⟨(some 14), none, .extract (.t 13) 0⟩,
     ⟨(some 15), none, .extract (.t 13) 1⟩,
     ⟨(some 2), none, .move (.t 14)⟩,
     ⟨(some 3), none, .move (.t 15)⟩] (some [2, 3]))
   .ret)
   (.seq (.ops [⟨(some 17), none, .bin .eql 3 (.t 9) (.c (.int .i64 1))⟩,
     ⟨(some 16), none, .move (.t 17)⟩] (some [0, 9, 16]))
   (.cond (.t 16)
    (.seq (.ops [⟨(some 18), none, .move (.t 0)⟩,
      ⟨(some 19), none, .call (.c (.func (.func 49) #[] #[])) [(.t 18)]⟩,
      ⟨(some 20), none, .extract (.t 19) 0⟩,
      ⟨(some 21), none, .extract (.t 19) 1⟩,
      ⟨(some 2), none, .move (.t 20)⟩,
      ⟨(some 3), none, .move (.t 21)⟩] (some [2, 3]))
    .ret)
    (.seq (.ops [⟨(some 23), none, .bin .eql 3 (.t 9) (.c (.int .i64 2))⟩,
      ⟨(some 22), none, .move (.t 23)⟩] (some [0, 22]))
    (.cond (.t 22)
     (.seq (.ops [⟨(some 24), none, .move (.t 0)⟩,
       ⟨(some 25), none, .call (.c (.func (.func 50) #[] #[])) [(.t 24)]⟩,
       ⟨(some 26), none, .extract (.t 25) 0⟩,
       ⟨(some 27), none, .extract (.t 25) 1⟩,
       ⟨(some 2), none, .move (.t 26)⟩,
       ⟨(some 3), none, .move (.t 27)⟩] (some [2, 3]))
     .ret)
     .skip))))))))
 (.seq (.ops [⟨(some 2), none, .move (.c (.int .i64 2))⟩,
   ⟨(some 3), none, .move (.c (.int .i64 0))⟩] (some [2, 3]))
 .ret)))), [.tmp 2, .tmp 3]⟩

theorem is24 : FnIs Tryz.prog 24 x24 := ⟨Tryz.f24, _, Tryz.func24, by kernel_rfl, rfl, by kernel_rfl, by decide, by kernel_rfl⟩

/-- (*cloisonne/job.Job).Done -/
def x25 : XDecl := .code ⟨1, 
 (.seq (.ops [⟨(some 2), none, .move (.c (.int .u64 0))⟩,
   ⟨(some 3), none, .move (.c (.int .i64 0))⟩,
   ⟨(some 4), none, .move (.c (.bool false))⟩] (some [0]))
 (.seq (.seq (.ops [⟨(some 5), none, .move (.t 0)⟩,
   ⟨(some 6), none, .isNil .ptr false (.t 5)⟩] (some [0, 6]))
 (.cond (.t 6)
  (.seq (.ops [⟨(some 2), none, .move (.c (.int .u64 0))⟩,
    ⟨(some 3), none, .move (.c (.int .i64 2))⟩,
    ⟨(some 4), none, .move (.c (.bool false))⟩] (some [2, 3, 4]))
  .ret)
  .skip))
 (.seq (.opsr [⟨(some 7), none, .move (.t 0)⟩,
   ⟨(some 8), none, .nilCheck (.t 7)⟩,
   ⟨(some 9), none, .fieldAddr 6 (.t 8)⟩,
   ⟨(some 10), none, .load false 1 (.t 9)⟩,
   ⟨(some 11), none, .move (.t 0)⟩,
   ⟨(some 12), none, .nilCheck (.t 11)⟩,
   ⟨(some 13), none, .fieldAddr 7 (.t 12)⟩,
   ⟨(some 14), none, .load false 1 (.t 13)⟩,
   ⟨(some 15), none, .move (.t 0)⟩,
   ⟨(some 16), none, .nilCheck (.t 15)⟩,
   ⟨(some 17), none, .fieldAddr 4 (.t 16)⟩,
   ⟨(some 18), none, .load false 1 (.t 17)⟩,
   ⟨(some 19), none, .bin .eql 3 (.t 18) (.c (.int .i64 3))⟩,
   ⟨(some 2), none, .move (.t 10)⟩,
   ⟨(some 3), none, .move (.t 14)⟩,
   ⟨(some 4), none, .move (.t 19)⟩] (some [2, 3, 4]))
 .ret))), [.tmp 2, .tmp 3, .tmp 4]⟩

theorem is25 : FnIs Tryz.prog 25 x25 := ⟨Tryz.f25, _, Tryz.func25, by kernel_rfl, rfl, by kernel_rfl, by decide, by kernel_rfl⟩

/-- cloisonne/job.Commit -/
def x26 : XDecl := .code ⟨5, 
 (.seq (.ops [⟨(some 10), none, .move (.c (.pointer none))⟩,
   ⟨(some 11), none, .move (.c (.int .i64 0))⟩] (some [0, 1, 2, 3, 4]))
 (.seq (.block 0
  (.seq (.ops [⟨(some 13), none, .move (.t 0)⟩,
    ⟨(some 14), none, .isNil .ptr false (.t 13)⟩,
    ⟨(some 12), none, .move (.t 14)⟩] (some [0, 1, 2, 3, 4, 12]))
  (.cond (.t 12)
   (.seq (.ops [⟨(some 10), none, .move (.c (.pointer none))⟩,
     ⟨(some 11), none, .move (.c (.int .i64 2))⟩] (some [10, 11]))
   .ret)
   (.seq (.ops [⟨(some 16), none, .move (.t 0)⟩,
     ⟨(some 17), none, .move (.t 2)⟩,
     ⟨(some 18), none, .call (.c (.func (.func 11) #[] #[])) [(.t 16), (.t 17)]⟩,
     ⟨(some 19), none, .isNil .ptr false (.t 18)⟩,
     ⟨(some 20), none, .move (.t 19)⟩,
     ⟨(some 21), (some (20, false)), .move (.t 3)⟩,
     ⟨(some 22), (some (20, false)), .call (.c (.func (.func 51) #[] #[])) [(.t 21)]⟩,
     ⟨(some 23), (some (20, false)), .un .not (.t 22)⟩,
     ⟨(some 24), none, .pick (.t 20) (.c (.bool true)) (.t 23)⟩,
     ⟨(some 15), none, .move (.t 24)⟩] (some [0, 1, 2, 3, 4, 15]))
   (.cond (.t 15)
    (.seq (.ops [⟨(some 10), none, .move (.c (.pointer none))⟩,
      ⟨(some 11), none, .move (.c (.int .i64 1))⟩] (some [10, 11]))
    .ret)
    .skip)))))
 (.seq (.ops [⟨(some 25), none, .move (.t 0)⟩,
   ⟨(some 26), none, .move (.t 1)⟩,
   ⟨(some 27), none, .move (.t 2)⟩,
   ⟨(some 28), none, .move (.t 2)⟩,
   ⟨(some 29), none, .move (.t 3)⟩,
   ⟨(some 30), none, .call (.c (.func (.func 52) #[] #[])) [(.t 29)]⟩,
   ⟨(some 31), none, .move (.t 4)⟩,
   ⟨(some 32), none, .build [(.int .i64 0), (.slice none 0 0), (.int .u64 0)] [(0, 1), (1, 1), (2, 1)] [(0, (.t 28)), (1, (.t 30)), (2, (.t 31))]⟩,
   ⟨(some 33), none, .makeIface 106 (.t 32)⟩,
   ⟨(some 34), none, .build [(.pointer none), (.int .i64 0), (.int .i64 0), .nilIface, (.int .i64 0), (.pointer none), (.int .u64 0), (.int .i64 0)] [(0, 1), (1, 1), (2, 1), (3, 1), (4, 1), (5, 1), (6, 1), (7, 1)] [(0, (.t 25)), (1, (.t 26)), (2, (.t 27)), (3, (.t 33))]⟩,
   ⟨(some 35), none, .box (.t 34)⟩,
   ⟨(some 10), none, .move (.t 35)⟩,
   ⟨(some 11), none, .move (.c (.int .i64 0))⟩] (some [10, 11]))
 .ret))), [.tmp 10, .tmp 11]⟩

theorem is26 : FnIs Tryz.prog 26 x26 := ⟨Tryz.f26, _, Tryz.func26, by kernel_rfl, rfl, by kernel_rfl, by decide, by kernel_rfl⟩

/-- cloisonne/job.Deed -/
def x27 : XDecl := .code ⟨3, 
 (.seq (.ops [⟨(some 5), none, .box (.t 2)⟩,
   ⟨(some 6), none, .move (.c (.pointer none))⟩,
   ⟨(some 7), none, .move (.c (.int .i64 0))⟩] (some [0, 1, 5]))
 (.seq (.seq (.ops [⟨(some 8), none, .move (.t 0)⟩,
   ⟨(some 9), none, .isNil .ptr false (.t 8)⟩] (some [0, 1, 5, 9]))
 (.cond (.t 9)
  (.seq (.ops [⟨(some 6), none, .move (.c (.pointer none))⟩,
    ⟨(some 7), none, .move (.c (.int .i64 2))⟩] (some [6, 7]))
  .ret)
  .skip))
 (.seq (.ops [⟨(some 10), none, .move (.t 0)⟩,
   ⟨(some 11), none, .move (.t 1)⟩,
   ⟨(some 12), none, .load true 5 (.t 5)⟩,
   ⟨(some 13), none, .makeIface 107 (.t 12)⟩,
   ⟨(some 14), none, .build [(.pointer none), (.int .i64 0), (.int .i64 0), .nilIface, (.int .i64 0), (.pointer none), (.int .u64 0), (.int .i64 0)] [(0, 1), (1, 1), (2, 1), (3, 1), (4, 1), (5, 1), (6, 1), (7, 1)] [(0, (.t 10)), (1, (.t 11)), (2, (.c (.int .i64 (-1)))), (3, (.t 13))]⟩,
   ⟨(some 15), none, .box (.t 14)⟩,
   ⟨(some 6), none, .move (.t 15)⟩,
   ⟨(some 7), none, .move (.c (.int .i64 0))⟩] (some [6, 7]))
 .ret))), [.tmp 6, .tmp 7]⟩

theorem is27 : FnIs Tryz.prog 27 x27 := ⟨Tryz.f27, _, Tryz.func27, by kernel_rfl, rfl, by kernel_rfl, by decide, by kernel_rfl⟩

/-- cloisonne/job.Tidy -/
def x28 : XDecl := .code ⟨3, 
 (.seq (.ops [⟨(some 6), none, .move (.c (.pointer none))⟩,
   ⟨(some 7), none, .move (.c (.int .i64 0))⟩] (some [0, 1, 2]))
 (.seq (.block 0
  (.seq (.ops [⟨(some 9), none, .move (.t 0)⟩,
    ⟨(some 10), none, .isNil .ptr false (.t 9)⟩,
    ⟨(some 8), none, .move (.t 10)⟩] (some [0, 1, 2, 8]))
  (.cond (.t 8)
   (.seq (.ops [⟨(some 6), none, .move (.c (.pointer none))⟩,
     ⟨(some 7), none, .move (.c (.int .i64 2))⟩] (some [6, 7]))
   .ret)
   (.seq (.ops [⟨(some 12), none, .move (.t 0)⟩,
     ⟨(some 13), none, .move (.t 2)⟩,
     ⟨(some 14), none, .call (.c (.func (.func 12) #[] #[])) [(.t 12), (.t 13)]⟩,
     ⟨(some 15), none, .isNil .ptr false (.t 14)⟩,
     ⟨(some 11), none, .move (.t 15)⟩] (some [0, 1, 2, 11]))
   (.cond (.t 11)
    (.seq (.ops [⟨(some 6), none, .move (.c (.pointer none))⟩,
      ⟨(some 7), none, .move (.c (.int .i64 1))⟩] (some [6, 7]))
    .ret)
    .skip)))))
 (.seq (.ops [⟨(some 16), none, .move (.t 0)⟩,
   ⟨(some 17), none, .move (.t 1)⟩,
   ⟨(some 18), none, .move (.t 2)⟩,
   ⟨(some 19), none, .move (.t 2)⟩,
   ⟨(some 20), none, .makeIface 108 (.t 19)⟩,
   ⟨(some 21), none, .build [(.pointer none), (.int .i64 0), (.int .i64 0), .nilIface, (.int .i64 0), (.pointer none), (.int .u64 0), (.int .i64 0)] [(0, 1), (1, 1), (2, 1), (3, 1), (4, 1), (5, 1), (6, 1), (7, 1)] [(0, (.t 16)), (1, (.t 17)), (2, (.t 18)), (3, (.t 20))]⟩,
   ⟨(some 22), none, .box (.t 21)⟩,
   ⟨(some 6), none, .move (.t 22)⟩,
   ⟨(some 7), none, .move (.c (.int .i64 0))⟩] (some [6, 7]))
 .ret))), [.tmp 6, .tmp 7]⟩

theorem is28 : FnIs Tryz.prog 28 x28 := ⟨Tryz.f28, _, Tryz.func28, by kernel_rfl, rfl, by kernel_rfl, by decide, by kernel_rfl⟩

/-- (*cloisonne/job.Job).Holds -/
def x29 : XDecl := .code ⟨1, 
 (.seq (.ops [⟨(some 2), none, .move (.c (.bool false))⟩] (some [0]))
 (.seq (.ops [⟨(some 3), none, .move (.t 0)⟩,
   ⟨(some 4), none, .isNil .ptr true (.t 3)⟩,
   ⟨(some 5), none, .move (.t 4)⟩,
   ⟨(some 6), (some (5, true)), .move (.t 0)⟩,
   ⟨(some 7), (some (5, true)), .nilCheck (.t 6)⟩,
   ⟨(some 8), (some (5, true)), .fieldAddr 4 (.t 7)⟩,
   ⟨(some 9), (some (5, true)), .load false 1 (.t 8)⟩,
   ⟨(some 10), (some (5, true)), .bin .eql 3 (.t 9) (.c (.int .i64 1))⟩,
   ⟨(some 11), (some (5, true)), .move (.t 10)⟩,
   ⟨(some 12), (some (11, false)), .move (.t 0)⟩,
   ⟨(some 13), (some (11, false)), .nilCheck (.t 12)⟩,
   ⟨(some 14), (some (11, false)), .fieldAddr 4 (.t 13)⟩,
   ⟨(some 15), (some (11, false)), .load false 1 (.t 14)⟩,
   ⟨(some 16), (some (11, false)), .bin .eql 3 (.t 15) (.c (.int .i64 2))⟩,
   ⟨(some 17), (some (5, true)), .pick (.t 11) (.c (.bool true)) (.t 16)⟩,
   ⟨(some 18), none, .pick (.t 5) (.t 17) (.c (.bool false))⟩,
   ⟨(some 2), none, .move (.t 18)⟩] (some [2]))
 .ret)), [.tmp 2]⟩

theorem is29 : FnIs Tryz.prog 29 x29 := ⟨Tryz.f29, _, Tryz.func29, by kernel_rfl, rfl, by kernel_rfl, by decide, by kernel_rfl⟩

/-- (*cloisonne/job.Job).Place -/
def x30 : XDecl := .code ⟨1, 
 (.seq (.ops [⟨(some 2), none, .move (.c (.int .i64 0))⟩] (some [0]))
 (.seq (.seq (.ops [⟨(some 3), none, .move (.t 0)⟩,
   ⟨(some 4), none, .isNil .ptr false (.t 3)⟩] (some [0, 4]))
 (.cond (.t 4)
  (.seq (.ops [⟨(some 2), none, .move (.c (.int .i64 0))⟩] (some [2]))
  .ret)
  .skip))
 (.seq (.ops [⟨(some 5), none, .move (.t 0)⟩,
   ⟨(some 6), none, .nilCheck (.t 5)⟩,
   ⟨(some 7), none, .fieldAddr 2 (.t 6)⟩,
   ⟨(some 8), none, .load false 1 (.t 7)⟩,
   ⟨(some 2), none, .move (.t 8)⟩] (some [2]))
 .ret))), [.tmp 2]⟩

theorem is30 : FnIs Tryz.prog 30 x30 := ⟨Tryz.f30, _, Tryz.func30, by kernel_rfl, rfl, by kernel_rfl, by decide, by kernel_rfl⟩

/-- cloisonne/cloisonnelaw18.Plain -/
def x31 : XDecl := .code ⟨0, 
 (.seq (.ops [⟨(some 0), none, .alloc [(.int .i64 0), (.int .i64 0), (.int .i64 0), (.slice none 0 0)]⟩] (some [0]))
 (.seq (.ops [⟨(some 3), none, .build [(.slice none 0 0), (.int .i64 0), (.int .i64 0), (.int .i64 0)] [(0, 1), (1, 1), (2, 1), (3, 1)] [(1, (.c (.int .i64 4))), (2, (.c (.int .i64 200))), (3, (.c (.int .i64 99)))]⟩,
   ⟨(some 1), none, .alloc [(.slice none 0 0), (.int .i64 0), (.int .i64 0), (.int .i64 0)]⟩,
   ⟨none, none, .store 4 (.t 1) (.t 3)⟩] (some [0, 1]))
 (.seq (.ops [⟨(some 4), none, .load true 4 (.t 1)⟩,
   ⟨(some 2), none, .alloc [(.slice none 0 0), (.int .i64 0), (.int .i64 0), (.int .i64 0)]⟩,
   ⟨none, none, .store 4 (.t 2) (.t 4)⟩] (some [0, 1, 2]))
 (.seq (.ops [⟨(some 5), none, .buildSlice [(.int .u64 0)] 1 1 [(0, (.c (.int .u64 1)))]⟩,
   ⟨(some 6), none, .fieldAddr 0 (.t 2)⟩,
   ⟨none, none, .store 1 (.t 6) (.t 5)⟩] (some [0, 1, 2]))
 (.seq (.ops [⟨(some 7), none, .load true 4 (.t 1)⟩,
   ⟨(some 8), none, .load true 4 (.t 2)⟩,
   ⟨(some 9), none, .buildSlice [(.slice none 0 0), (.int .i64 0), (.int .i64 0), (.int .i64 0)] 4 2 [(0, (.t 7)), (1, (.t 8))]⟩,
   ⟨(some 10), none, .build [(.int .i64 0), (.int .i64 0), (.int .i64 0), (.slice none 0 0)] [(0, 1), (1, 1), (2, 1), (3, 1)] [(0, (.c (.int .i64 2))), (1, (.c (.int .i64 3))), (2, (.c (.int .i64 8))), (3, (.t 9))]⟩,
   ⟨none, none, .store 4 (.t 0) (.t 10)⟩] (some [0]))
 .ret))))), [.cell true 4 0]⟩

theorem is31 : FnIs Tryz.prog 31 x31 := ⟨Tryz.f31, _, Tryz.func31, by kernel_rfl, rfl, by kernel_rfl, by decide, by kernel_rfl⟩

/-- (*cloisonne/seglog.Log).Gen -/
def x32 : XDecl := .code ⟨1, 
 (.seq (.ops [⟨(some 2), none, .move (.c (.int .i64 0))⟩] (some [0]))
 (.seq (.seq (.ops [⟨(some 3), none, .move (.t 0)⟩,
   ⟨(some 4), none, .isNil .ptr false (.t 3)⟩] (some [0, 4]))
 (.cond (.t 4)
  (.seq (.ops [⟨(some 2), none, .move (.c (.int .i64 0))⟩] (some [2]))
  .ret)
  .skip))
 (.seq (.ops [⟨(some 5), none, .move (.t 0)⟩,
   ⟨(some 6), none, .nilCheck (.t 5)⟩,
   ⟨(some 7), none, .fieldAddr 3 (.t 6)⟩,
   ⟨(some 8), none, .load false 1 (.t 7)⟩,
   ⟨(some 2), none, .move (.t 8)⟩] (some [2]))
 .ret))), [.tmp 2]⟩

theorem is32 : FnIs Tryz.prog 32 x32 := ⟨Tryz.f32, _, Tryz.func32, by kernel_rfl, rfl, by kernel_rfl, by decide, by kernel_rfl⟩

/-- (*cloisonne/room.Room).Seq -/
def x34 : XDecl := .code ⟨1, 
 (.seq (.ops [⟨(some 2), none, .move (.c (.int .i64 0))⟩] (some [0]))
 (.seq (.seq (.ops [⟨(some 3), none, .move (.t 0)⟩,
   ⟨(some 4), none, .isNil .ptr false (.t 3)⟩] (some [0, 4]))
 (.cond (.t 4)
  (.seq (.ops [⟨(some 2), none, .move (.c (.int .i64 0))⟩] (some [2]))
  .ret)
  .skip))
 (.seq (.ops [⟨(some 5), none, .move (.t 0)⟩,
   ⟨(some 6), none, .nilCheck (.t 5)⟩,
   ⟨(some 7), none, .fieldAddr 4 (.t 6)⟩,
   ⟨(some 8), none, .load false 1 (.t 7)⟩,
   ⟨(some 9), none, .call (.c (.func (.func 53) #[] #[])) [(.t 8)]⟩,
   ⟨(some 2), none, .move (.t 9)⟩] (some [2]))
 .ret))), [.tmp 2]⟩

theorem is34 : FnIs Tryz.prog 34 x34 := ⟨Tryz.f34, _, Tryz.func34, by kernel_rfl, rfl, by kernel_rfl, by decide, by kernel_rfl⟩

/-- cloisonne/vault.Right -/
def x35 : XDecl := .code ⟨1, 
 (.seq (.ops [⟨(some 1), none, .box (.t 0)⟩,
   ⟨(some 2), none, .move (.c (.bool false))⟩] (some [1]))
 (.seq (.seq (.ops [⟨(some 6), none, .fieldAddr 0 (.t 1)⟩,
   ⟨(some 7), none, .load false 1 (.t 6)⟩,
   ⟨(some 8), none, .call (.c (.func (.func 42) #[] #[])) [(.t 7), (.c (.int .i64 1)), (.c (.int .i64 8))]⟩,
   ⟨(some 9), none, .un .not (.t 8)⟩,
   ⟨(some 10), none, .move (.t 9)⟩,
   ⟨(some 11), (some (10, false)), .fieldAddr 1 (.t 1)⟩,
   ⟨(some 12), (some (10, false)), .load false 1 (.t 11)⟩,
   ⟨(some 13), (some (10, false)), .call (.c (.func (.func 42) #[] #[])) [(.t 12), (.c (.int .i64 1)), (.c (.int .i64 16))]⟩,
   ⟨(some 14), (some (10, false)), .un .not (.t 13)⟩,
   ⟨(some 15), none, .pick (.t 10) (.c (.bool true)) (.t 14)⟩,
   ⟨(some 16), none, .move (.t 15)⟩,
   ⟨(some 17), (some (16, false)), .fieldAddr 2 (.t 1)⟩,
   ⟨(some 18), (some (16, false)), .load false 1 (.t 17)⟩,
   ⟨(some 19), (some (16, false)), .call (.c (.func (.func 42) #[] #[])) [(.t 18), (.c (.int .i64 1)), (.c (.int .i64 128))]⟩,
   ⟨(some 20), (some (16, false)), .un .not (.t 19)⟩,
   ⟨(some 21), none, .pick (.t 16) (.c (.bool true)) (.t 20)⟩,
   ⟨(some 22), none, .move (.t 21)⟩,
   ⟨(some 23), (some (22, false)), .fieldAddr 3 (.t 1)⟩,
   ⟨(some 24), (some (22, false)), .load false 1 (.t 23)⟩,
   ⟨(some 25), (some (22, false)), .len (.t 24)⟩,
   ⟨(some 26), (some (22, false)), .bin .gtr 3 (.t 25) (.c (.int .i64 8))⟩,
   ⟨(some 27), none, .pick (.t 22) (.c (.bool true)) (.t 26)⟩] (some [1, 27]))
 (.cond (.t 27)
  (.seq (.ops [⟨(some 2), none, .move (.c (.bool false))⟩] (some [2]))
  .ret)
  .skip))
 (.seq (.seq (.ops [⟨(some 28), none, .fieldAddr 3 (.t 1)⟩,
   ⟨(some 29), none, .load false 1 (.t 28)⟩,
   ⟨(some 30), none, .len (.t 29)⟩,
   ⟨(some 31), none, .move (.c (.int .i64 0))⟩] (some [1, 29, 30, 31]))
 (.block 0
  (.loop
   (.seq (.ops [⟨(some 32), none, .bin .lss 3 (.t 31) (.t 30)⟩] (some [1, 29, 30, 31, 32]))
   (.seq (.cond (.t 32)
    .skip
    (.exit 0))
   (.seq (.block 1
    (.seq (.ops [⟨(some 33), none, .move (.t 31)⟩,
      ⟨(some 34), none, .indexAddr 4 (.t 29) (.t 31)⟩,
      ⟨(some 35), none, .load true 4 (.t 34)⟩,
      ⟨(some 4), none, .alloc [(.slice none 0 0), (.int .i64 0), (.int .i64 0), (.int .i64 0)]⟩,
      ⟨(some 3), none, .move (.t 33)⟩,
      ⟨none, none, .store 4 (.t 4) (.t 35)⟩] (some [1, 3, 4, 29, 30, 31]))
    (.seq (.ops [⟨(some 36), none, .makeFunc (.func 54) [] [(.t 4)]⟩,
      ⟨(some 5), none, .move (.t 36)⟩] (some [1, 3, 4, 5, 29, 30, 31]))
    (.seq (.ops [⟨(some 37), none, .load true 4 (.t 4)⟩,
      ⟨(some 38), none, .call (.c (.func (.func 56) #[] #[])) [(.t 37)]⟩,
      ⟨(some 39), none, .un .not (.t 38)⟩,
      ⟨(some 40), none, .move (.t 39)⟩,
      ⟨(some 41), (some (40, false)), .fieldAddr 3 (.t 1)⟩,
      ⟨(some 42), (some (40, false)), .load false 1 (.t 41)⟩,
      ⟨(some 43), (some (40, false)), .move (.t 3)⟩,
      ⟨(some 44), (some (40, false)), .slice 4 (.t 42) none (some (.t 43)) none⟩,
      ⟨(some 45), (some (40, false)), .move (.t 5)⟩,
      ⟨(some 46), (some (40, false)), .call (.c (.func (.func 57) #[] #[])) [(.t 44), (.t 45)]⟩,
      ⟨(some 47), none, .pick (.t 40) (.c (.bool true)) (.t 46)⟩] (some [1, 29, 30, 31, 47]))
    (.cond (.t 47)
     (.seq (.ops [⟨(some 2), none, .move (.c (.bool false))⟩] (some [2]))
     .ret)
     .skip)))))
   (.ops [⟨(some 48), none, .bin .add 3 (.t 31) (.c (.int .i64 1))⟩,
     ⟨(some 31), none, .move (.t 48)⟩] (some [1, 29, 30, 31]))))))))
 (.seq (.ops [⟨(some 2), none, .move (.c (.bool true))⟩] (some [2]))
 .ret)))), [.tmp 2]⟩

theorem is35 : FnIs Tryz.prog 35 x35 := ⟨Tryz.f35, _, Tryz.func35, by kernel_rfl, rfl, by kernel_rfl, by decide, by kernel_rfl⟩

/-- (*cloisonne/extent.World).Extents -/
def x36 : XDecl := .code ⟨1, 
 (.seq (.ops [⟨(some 2), none, .move (.c (.int .i64 0))⟩] (some [0]))
 (.seq (.seq (.ops [⟨(some 3), none, .move (.t 0)⟩,
   ⟨(some 4), none, .isNil .ptr false (.t 3)⟩] (some [0, 4]))
 (.cond (.t 4)
  (.seq (.ops [⟨(some 2), none, .move (.c (.int .i64 0))⟩] (some [2]))
  .ret)
  .skip))
 (.seq (.ops [⟨(some 5), none, .move (.t 0)⟩,
   ⟨(some 6), none, .nilCheck (.t 5)⟩,
   ⟨(some 7), none, .fieldAddr 2 (.t 6)⟩,
   ⟨(some 8), none, .load false 1 (.t 7)⟩,
   ⟨(some 9), none, .len (.t 8)⟩,
   ⟨(some 2), none, .move (.t 9)⟩] (some [2]))
 .ret))), [.tmp 2]⟩

theorem is36 : FnIs Tryz.prog 36 x36 := ⟨Tryz.f36, _, Tryz.func36, by kernel_rfl, rfl, by kernel_rfl, by decide, by kernel_rfl⟩

/-- (*cloisonne/extent.World).Sectors -/
def x37 : XDecl := .code ⟨1, 
 (.seq (.ops [⟨(some 2), none, .move (.c (.int .i64 0))⟩] (some [0]))
 (.seq (.seq (.ops [⟨(some 3), none, .move (.t 0)⟩,
   ⟨(some 4), none, .isNil .ptr false (.t 3)⟩] (some [0, 4]))
 (.cond (.t 4)
  (.seq (.ops [⟨(some 2), none, .move (.c (.int .i64 0))⟩] (some [2]))
  .ret)
  .skip))
 (.seq (.ops [⟨(some 5), none, .move (.t 0)⟩,
   ⟨(some 6), none, .nilCheck (.t 5)⟩,
   ⟨(some 7), none, .fieldAddr 1 (.t 6)⟩,
   ⟨(some 8), none, .load false 1 (.t 7)⟩,
   ⟨(some 2), none, .move (.t 8)⟩] (some [2]))
 .ret))), [.tmp 2]⟩

theorem is37 : FnIs Tryz.prog 37 x37 := ⟨Tryz.f37, _, Tryz.func37, by kernel_rfl, rfl, by kernel_rfl, by decide, by kernel_rfl⟩

/-- (*cloisonne/extent.World).On -/
def x38 : XDecl := .code ⟨1, 
 (.seq (.ops [⟨(some 2), none, .move (.c (.bool false))⟩] (some [0]))
 (.seq (.ops [⟨(some 3), none, .move (.t 0)⟩,
   ⟨(some 4), none, .isNil .ptr true (.t 3)⟩,
   ⟨(some 5), none, .move (.t 4)⟩,
   ⟨(some 6), (some (5, true)), .move (.t 0)⟩,
   ⟨(some 7), (some (5, true)), .nilCheck (.t 6)⟩,
   ⟨(some 8), (some (5, true)), .fieldAddr 0 (.t 7)⟩,
   ⟨(some 9), (some (5, true)), .load false 1 (.t 8)⟩,
   ⟨(some 10), (some (5, true)), .un .not (.t 9)⟩,
   ⟨(some 11), none, .pick (.t 5) (.t 10) (.c (.bool false))⟩,
   ⟨(some 2), none, .move (.t 11)⟩] (some [2]))
 .ret)), [.tmp 2]⟩

theorem is38 : FnIs Tryz.prog 38 x38 := ⟨Tryz.f38, _, Tryz.func38, by kernel_rfl, rfl, by kernel_rfl, by decide, by kernel_rfl⟩

/-- cloisonne/vault.copied -/
def x39 : XDecl := .code ⟨1, 
 (.seq (.ops [⟨(some 1), none, .box (.t 0)⟩,
   ⟨(some 2), none, .alloc [(.int .i64 0), (.int .i64 0), (.int .i64 0), (.slice none 0 0)]⟩] (some [1, 2]))
 (.seq (.ops [⟨(some 4), none, .fieldAddr 3 (.t 1)⟩,
   ⟨(some 5), none, .load false 1 (.t 4)⟩,
   ⟨(some 6), none, .call (.c (.func (.func 58) #[] #[])) [(.t 5)]⟩,
   ⟨(some 7), none, .fieldAddr 3 (.t 1)⟩,
   ⟨none, none, .store 1 (.t 7) (.t 6)⟩] (some [1, 2]))
 (.seq (.seq (.ops [⟨(some 8), none, .fieldAddr 3 (.t 1)⟩,
   ⟨(some 9), none, .load false 1 (.t 8)⟩,
   ⟨(some 10), none, .len (.t 9)⟩,
   ⟨(some 11), none, .move (.c (.int .i64 0))⟩] (some [1, 2, 10, 11]))
 (.block 0
  (.loop
   (.seq (.ops [⟨(some 12), none, .bin .lss 3 (.t 11) (.t 10)⟩] (some [1, 2, 10, 11, 12]))
   (.seq (.cond (.t 12)
    .skip
    (.exit 0))
   (.seq (.block 1
    (.seq (.ops [⟨(some 13), none, .move (.t 11)⟩,
      ⟨(some 3), none, .move (.t 13)⟩] (some [1, 2, 3, 10, 11]))
    (.opsd [(0, 0, ⟨(some 14), none, .fieldAddr 3 (.t 1)⟩),
      (1, 1, ⟨(some 15), none, .load false 1 (.t 14)⟩),
      (2, 0, ⟨(some 16), none, .move (.t 3)⟩),
      (3, 0, ⟨(some 17), none, .fieldAddr 3 (.t 1)⟩),
      (4, 8, ⟨(some 18), none, .load false 1 (.t 17)⟩),
      (5, 0, ⟨(some 19), none, .move (.t 3)⟩),
      (6, 56, ⟨(some 20), none, .indexAddr 4 (.t 18) (.t 19)⟩),
      (7, 120, ⟨(some 21), none, .fieldAddr 0 (.t 20)⟩),
      (8, 248, ⟨(some 22), none, .load false 1 (.t 21)⟩),
      (9, 504, ⟨(some 23), none, .call (.c (.func (.func 59) #[] #[])) [(.t 22)]⟩),
      (10, 1023, ⟨(some 24), none, .indexAddr 4 (.t 15) (.t 16)⟩),
      (11, 2047, ⟨(some 25), none, .fieldAddr 0 (.t 24)⟩),
      (12, 4095, ⟨none, none, .store 1 (.t 25) (.t 23)⟩)] (some [1, 2, 10, 11]))))
   (.ops [⟨(some 26), none, .bin .add 3 (.t 11) (.c (.int .i64 1))⟩,
     ⟨(some 11), none, .move (.t 26)⟩] (some [1, 2, 10, 11]))))))))
 (.seq (.ops [⟨(some 27), none, .load true 4 (.t 1)⟩,
   ⟨none, none, .store 4 (.t 2) (.t 27)⟩] (some [2]))
 .ret)))), [.cell true 4 2]⟩

theorem is39 : FnIs Tryz.prog 39 x39 := ⟨Tryz.f39, _, Tryz.func39, by kernel_rfl, rfl, by kernel_rfl, by decide, by kernel_rfl⟩

/-- (*cloisonne/vault.Vault).openTable -/
def x40 : XDecl := .code ⟨1, 
 (.seq (.ops [⟨(some 2), none, .move (.c (.int .i64 0))⟩] (some [0]))
 (.seq (.ops [⟨(some 12), none, .move (.t 0)⟩,
   ⟨(some 13), none, .nilCheck (.t 12)⟩,
   ⟨(some 14), none, .fieldAddr 4 (.t 13)⟩,
   ⟨(some 15), none, .load false 1 (.t 14)⟩,
   ⟨(some 16), none, .call (.c (.func (.func 60) #[] #[])) [(.t 15), (.c (.int .i64 0))]⟩,
   ⟨(some 11), none, .move (.t 16)⟩,
   ⟨(some 17), none, .extract (.t 11) 0⟩,
   ⟨(some 18), none, .extract (.t 11) 1⟩,
   ⟨(some 19), none, .extract (.t 11) 2⟩,
   ⟨(some 3), none, .move (.t 17)⟩,
   ⟨(some 4), none, .move (.t 18)⟩,
   ⟨(some 5), none, .move (.t 19)⟩] (some [0, 3, 4, 5]))
 (.seq (.seq (.ops [⟨(some 20), none, .move (.t 5)⟩,
   ⟨(some 21), none, .bin .neq 28 (.t 20) (.c (.int .i64 0))⟩] (some [0, 3, 4, 5, 21]))
 (.cond (.t 21)
  (.seq (.ops [⟨(some 22), none, .move (.t 5)⟩,
    ⟨(some 2), none, .move (.t 22)⟩] (some [2]))
  .ret)
  .skip))
 (.seq (.ops [⟨(some 23), none, .move (.t 0)⟩,
   ⟨(some 24), none, .move (.t 0)⟩,
   ⟨(some 25), none, .nilCheck (.t 24)⟩,
   ⟨(some 26), none, .fieldAddr 7 (.t 25)⟩,
   ⟨(some 27), none, .load false 1 (.t 26)⟩,
   ⟨(some 28), none, .move (.t 3)⟩,
   ⟨(some 29), none, .buildSlice [(.pointer none)] 1 1 [(0, (.t 28))]⟩,
   ⟨(some 30), none, .append 1 8 [(.pointer none)] (.t 27) (.t 29)⟩,
   ⟨(some 31), none, .nilCheck (.t 23)⟩,
   ⟨(some 32), none, .fieldAddr 7 (.t 31)⟩,
   ⟨none, none, .store 1 (.t 32) (.t 30)⟩] (some [0, 3, 4]))
 (.seq (.seq (.ops [⟨(some 33), none, .move (.t 3)⟩,
   ⟨(some 34), none, .call (.c (.func (.func 32) #[] #[])) [(.t 33)]⟩,
   ⟨(some 35), none, .bin .eql 3 (.t 34) (.c (.int .i64 0))⟩] (some [0, 3, 4, 35]))
 (.cond (.t 35)
  (.seq (.ops [⟨(some 37), none, .move (.t 0)⟩,
    ⟨(some 38), none, .nilCheck (.t 37)⟩,
    ⟨(some 39), none, .fieldAddr 0 (.t 38)⟩,
    ⟨(some 40), none, .fieldAddr 0 (.t 39)⟩,
    ⟨(some 41), none, .load false 1 (.t 40)⟩,
    ⟨(some 42), none, .call (.c (.func (.func 61) #[] #[])) [(.t 41)]⟩,
    ⟨(some 36), none, .move (.t 42)⟩,
    ⟨(some 43), none, .extract (.t 36) 0⟩,
    ⟨(some 44), none, .extract (.t 36) 1⟩,
    ⟨(some 6), none, .move (.t 43)⟩,
    ⟨(some 7), none, .move (.t 44)⟩] (some [0, 3, 6, 7]))
  (.seq (.seq (.ops [⟨(some 45), none, .move (.t 7)⟩,
    ⟨(some 46), none, .bin .neq 28 (.t 45) (.c (.int .i64 0))⟩] (some [0, 3, 6, 7, 46]))
  (.cond (.t 46)
   (.seq (.ops [⟨(some 47), none, .move (.t 7)⟩,
     ⟨(some 2), none, .move (.t 47)⟩] (some [2]))
   .ret)
   .skip))
  (.seq (.ops [⟨(some 49), none, .move (.t 6)⟩,
    ⟨(some 50), none, .call (.c (.func (.func 62) #[] #[])) [(.t 49)]⟩,
    ⟨(some 48), none, .move (.t 50)⟩,
    ⟨(some 51), none, .extract (.t 48) 0⟩,
    ⟨(some 52), none, .extract (.t 48) 1⟩,
    ⟨(some 8), none, .move (.t 51)⟩,
    ⟨(some 7), none, .move (.t 52)⟩] (some [0, 3, 6, 7, 8]))
  (.seq (.seq (.ops [⟨(some 53), none, .move (.t 7)⟩,
    ⟨(some 54), none, .bin .neq 28 (.t 53) (.c (.int .i64 0))⟩] (some [0, 3, 6, 7, 8, 54]))
  (.cond (.t 54)
   (.seq (.ops [⟨(some 55), none, .move (.t 7)⟩,
     ⟨(some 2), none, .move (.t 55)⟩] (some [2]))
   .ret)
   .skip))
  (.seq (.ops [⟨(some 56), none, .move (.t 0)⟩,
    ⟨(some 57), none, .move (.t 6)⟩,
    ⟨(some 58), none, .nilCheck (.t 56)⟩,
    ⟨(some 59), none, .fieldAddr 5 (.t 58)⟩,
    ⟨none, none, .store 1 (.t 59) (.t 57)⟩] (some [3, 8]))
  (.seq (.ops [⟨(some 60), none, .move (.t 3)⟩,
    ⟨(some 61), none, .move (.t 8)⟩,
    ⟨(some 62), none, .call (.c (.func (.func 63) #[] #[])) [(.t 60), (.t 61)]⟩,
    ⟨(some 2), none, .move (.t 62)⟩] (some [2]))
  .ret))))))
  .skip))
 (.seq (.ops [⟨(some 64), none, .move (.t 0)⟩,
   ⟨(some 65), none, .nilCheck (.t 64)⟩,
   ⟨(some 66), none, .fieldAddr 0 (.t 65)⟩,
   ⟨(some 67), none, .fieldAddr 0 (.t 66)⟩,
   ⟨(some 68), none, .load false 1 (.t 67)⟩,
   ⟨(some 69), none, .move (.t 4)⟩,
   ⟨(some 70), none, .call (.c (.func (.func 64) #[] #[])) [(.t 68), (.t 69)]⟩,
   ⟨(some 63), none, .move (.t 70)⟩,
   ⟨(some 71), none, .extract (.t 63) 0⟩,
   ⟨(some 72), none, .extract (.t 63) 1⟩,
   ⟨(some 9), none, .move (.t 71)⟩,
   ⟨(some 10), none, .move (.t 72)⟩] (some [0, 9, 10]))
 (.seq (.seq (.ops [⟨(some 73), none, .move (.t 10)⟩,
   ⟨(some 74), none, .un .not (.t 73)⟩] (some [0, 9, 74]))
 (.cond (.t 74)
  (.seq (.ops [⟨(some 2), none, .move (.c (.int .i64 19))⟩] (some [2]))
  .ret)
  .skip))
 (.seq (.ops [⟨(some 75), none, .move (.t 0)⟩,
   ⟨(some 76), none, .move (.t 9)⟩,
   ⟨(some 77), none, .nilCheck (.t 75)⟩,
   ⟨(some 78), none, .fieldAddr 5 (.t 77)⟩,
   ⟨none, none, .store 1 (.t 78) (.t 76)⟩] (some []))
 (.seq (.ops [⟨(some 2), none, .move (.c (.int .i64 0))⟩] (some [2]))
 .ret))))))))), [.tmp 2]⟩

theorem is40 : FnIs Tryz.prog 40 x40 := ⟨Tryz.f40, _, Tryz.func40, by kernel_rfl, rfl, by kernel_rfl, by decide, by kernel_rfl⟩

/-- (*cloisonne/vault.Vault).openRoom -/
def x41 : XDecl := .code ⟨2, 
 (.seq (.ops [⟨(some 3), none, .box (.t 1)⟩,
   ⟨(some 4), none, .move (.c (.int .i64 0))⟩] (some [0, 3]))
 (.seq (.opsd [(0, 0, ⟨(some 14), none, .move (.t 0)⟩),
   (1, 1, ⟨(some 15), none, .nilCheck (.t 14)⟩),
   (2, 3, ⟨(some 16), none, .fieldAddr 4 (.t 15)⟩),
   (3, 7, ⟨(some 17), none, .load false 1 (.t 16)⟩),
   (4, 0, ⟨(some 18), none, .move (.t 0)⟩),
   (5, 16, ⟨(some 19), none, .nilCheck (.t 18)⟩),
   (6, 48, ⟨(some 20), none, .fieldAddr 7 (.t 19)⟩),
   (7, 112, ⟨(some 21), none, .load false 1 (.t 20)⟩),
   (8, 240, ⟨(some 22), none, .len (.t 21)⟩),
   (9, 496, ⟨(some 23), none, .bin .mul 3 (.c (.int .i64 2)) (.t 22)⟩),
   (10, 1023, ⟨(some 24), none, .call (.c (.func (.func 60) #[] #[])) [(.t 17), (.t 23)]⟩),
   (11, 2047, ⟨(some 13), none, .move (.t 24)⟩),
   (12, 4095, ⟨(some 25), none, .extract (.t 13) 0⟩),
   (13, 4095, ⟨(some 26), none, .extract (.t 13) 1⟩),
   (14, 4095, ⟨(some 27), none, .extract (.t 13) 2⟩),
   (15, 8191, ⟨(some 5), none, .move (.t 25)⟩),
   (16, 49151, ⟨(some 6), none, .move (.t 26)⟩),
   (17, 131071, ⟨(some 7), none, .move (.t 27)⟩)] (some [0, 3, 5, 6, 7]))
 (.seq (.seq (.ops [⟨(some 28), none, .move (.t 7)⟩,
   ⟨(some 29), none, .bin .neq 28 (.t 28) (.c (.int .i64 0))⟩] (some [0, 3, 5, 6, 7, 29]))
 (.cond (.t 29)
  (.seq (.ops [⟨(some 30), none, .move (.t 7)⟩,
    ⟨(some 4), none, .move (.t 30)⟩] (some [4]))
  .ret)
  .skip))
 (.seq (.ops [⟨(some 31), none, .move (.t 0)⟩,
   ⟨(some 32), none, .move (.t 0)⟩,
   ⟨(some 33), none, .nilCheck (.t 32)⟩,
   ⟨(some 34), none, .fieldAddr 7 (.t 33)⟩,
   ⟨(some 35), none, .load false 1 (.t 34)⟩,
   ⟨(some 36), none, .move (.t 5)⟩,
   ⟨(some 37), none, .buildSlice [(.pointer none)] 1 1 [(0, (.t 36))]⟩,
   ⟨(some 38), none, .append 1 8 [(.pointer none)] (.t 35) (.t 37)⟩,
   ⟨(some 39), none, .nilCheck (.t 31)⟩,
   ⟨(some 40), none, .fieldAddr 7 (.t 39)⟩,
   ⟨none, none, .store 1 (.t 40) (.t 38)⟩] (some [0, 3, 5, 6]))
 (.seq (.seq (.ops [⟨(some 41), none, .move (.t 5)⟩,
   ⟨(some 42), none, .call (.c (.func (.func 32) #[] #[])) [(.t 41)]⟩,
   ⟨(some 43), none, .bin .eql 3 (.t 42) (.c (.int .i64 0))⟩] (some [0, 3, 5, 6, 43]))
 (.cond (.t 43)
  (.seq (.ops [⟨(some 45), none, .load true 4 (.t 3)⟩,
    ⟨(some 46), none, .call (.c (.func (.func 65) #[] #[])) [(.t 45)]⟩,
    ⟨(some 44), none, .move (.t 46)⟩,
    ⟨(some 47), none, .extract (.t 44) 0⟩,
    ⟨(some 48), none, .extract (.t 44) 1⟩,
    ⟨(some 8), none, .move (.t 47)⟩,
    ⟨(some 9), none, .move (.t 48)⟩] (some [0, 5, 8, 9]))
  (.seq (.seq (.ops [⟨(some 49), none, .move (.t 9)⟩,
    ⟨(some 50), none, .bin .neq 28 (.t 49) (.c (.int .i64 0))⟩] (some [0, 5, 8, 9, 50]))
  (.cond (.t 50)
   (.seq (.ops [⟨(some 51), none, .move (.t 9)⟩,
     ⟨(some 4), none, .move (.t 51)⟩] (some [4]))
   .ret)
   .skip))
  (.seq (.ops [⟨(some 53), none, .call (.c (.func (.func 66) #[] #[])) [(.c (.int .i64 0)), (.c (.slice none 0 0))]⟩,
    ⟨(some 52), none, .move (.t 53)⟩,
    ⟨(some 54), none, .extract (.t 52) 0⟩,
    ⟨(some 55), none, .extract (.t 52) 1⟩,
    ⟨(some 10), none, .move (.t 54)⟩,
    ⟨(some 9), none, .move (.t 55)⟩] (some [0, 5, 8, 9, 10]))
  (.seq (.seq (.ops [⟨(some 56), none, .move (.t 9)⟩,
    ⟨(some 57), none, .bin .neq 28 (.t 56) (.c (.int .i64 0))⟩] (some [0, 5, 8, 9, 10, 57]))
  (.cond (.t 57)
   (.seq (.ops [⟨(some 58), none, .move (.t 9)⟩,
     ⟨(some 4), none, .move (.t 58)⟩] (some [4]))
   .ret)
   .skip))
  (.seq (.ops [⟨(some 59), none, .move (.t 0)⟩,
    ⟨(some 60), none, .move (.t 0)⟩,
    ⟨(some 61), none, .nilCheck (.t 60)⟩,
    ⟨(some 62), none, .fieldAddr 6 (.t 61)⟩,
    ⟨(some 63), none, .load false 1 (.t 62)⟩,
    ⟨(some 64), none, .move (.t 8)⟩,
    ⟨(some 65), none, .buildSlice [(.pointer none)] 1 1 [(0, (.t 64))]⟩,
    ⟨(some 66), none, .append 1 8 [(.pointer none)] (.t 63) (.t 65)⟩,
    ⟨(some 67), none, .nilCheck (.t 59)⟩,
    ⟨(some 68), none, .fieldAddr 6 (.t 67)⟩,
    ⟨none, none, .store 1 (.t 68) (.t 66)⟩] (some [5, 10]))
  (.seq (.ops [⟨(some 69), none, .move (.t 5)⟩,
    ⟨(some 70), none, .move (.t 10)⟩,
    ⟨(some 71), none, .call (.c (.func (.func 63) #[] #[])) [(.t 69), (.t 70)]⟩,
    ⟨(some 4), none, .move (.t 71)⟩] (some [4]))
  .ret))))))
  .skip))
 (.seq (.ops [⟨(some 73), none, .load true 4 (.t 3)⟩,
   ⟨(some 74), none, .move (.t 6)⟩,
   ⟨(some 75), none, .call (.c (.func (.func 67) #[] #[])) [(.t 73), (.t 74)]⟩,
   ⟨(some 72), none, .move (.t 75)⟩,
   ⟨(some 76), none, .extract (.t 72) 0⟩,
   ⟨(some 77), none, .extract (.t 72) 1⟩,
   ⟨(some 11), none, .move (.t 76)⟩,
   ⟨(some 12), none, .move (.t 77)⟩] (some [0, 11, 12]))
 (.seq (.seq (.ops [⟨(some 78), none, .move (.t 12)⟩,
   ⟨(some 79), none, .un .not (.t 78)⟩] (some [0, 11, 79]))
 (.cond (.t 79)
  (.seq (.ops [⟨(some 4), none, .move (.c (.int .i64 19))⟩] (some [4]))
  .ret)
  .skip))
 (.seq (.ops [⟨(some 80), none, .move (.t 0)⟩,
   ⟨(some 81), none, .move (.t 0)⟩,
   ⟨(some 82), none, .nilCheck (.t 81)⟩,
   ⟨(some 83), none, .fieldAddr 6 (.t 82)⟩,
   ⟨(some 84), none, .load false 1 (.t 83)⟩,
   ⟨(some 85), none, .move (.t 11)⟩,
   ⟨(some 86), none, .buildSlice [(.pointer none)] 1 1 [(0, (.t 85))]⟩,
   ⟨(some 87), none, .append 1 8 [(.pointer none)] (.t 84) (.t 86)⟩,
   ⟨(some 88), none, .nilCheck (.t 80)⟩,
   ⟨(some 89), none, .fieldAddr 6 (.t 88)⟩,
   ⟨none, none, .store 1 (.t 89) (.t 87)⟩] (some []))
 (.seq (.ops [⟨(some 4), none, .move (.c (.int .i64 0))⟩] (some [4]))
 .ret))))))))), [.tmp 4]⟩

theorem is41 : FnIs Tryz.prog 41 x41 := ⟨Tryz.f41, _, Tryz.func41, by kernel_rfl, rfl, by kernel_rfl, by decide, by kernel_rfl⟩

/-- cloisonne/vault.within -/
def x42 : XDecl := .code ⟨3, 
 (.seq (.ops [⟨(some 6), none, .move (.c (.bool false))⟩] (some [0, 1, 2]))
 (.seq (.ops [⟨(some 7), none, .move (.t 0)⟩,
   ⟨(some 8), none, .move (.t 1)⟩,
   ⟨(some 9), none, .bin .geq 3 (.t 7) (.t 8)⟩,
   ⟨(some 10), none, .move (.t 9)⟩,
   ⟨(some 11), (some (10, true)), .move (.t 0)⟩,
   ⟨(some 12), (some (10, true)), .move (.t 2)⟩,
   ⟨(some 13), (some (10, true)), .bin .leq 3 (.t 11) (.t 12)⟩,
   ⟨(some 14), none, .pick (.t 10) (.t 13) (.c (.bool false))⟩,
   ⟨(some 6), none, .move (.t 14)⟩] (some [6]))
 .ret)), [.tmp 6]⟩

theorem is42 : FnIs Tryz.prog 42 x42 := ⟨Tryz.f42, _, Tryz.func42, by kernel_rfl, rfl, by kernel_rfl, by decide, by kernel_rfl⟩

/-- (*cloisonne/vault.Vault).there -/
def x43 : XDecl := .code ⟨2, 
 (.seq (.ops [⟨(some 4), none, .move (.c (.bool false))⟩] (some [0, 1]))
 (.seq (.ops [⟨(some 5), none, .move (.t 0)⟩,
   ⟨(some 6), none, .isNil .ptr true (.t 5)⟩,
   ⟨(some 7), none, .move (.t 6)⟩,
   ⟨(some 8), (some (7, true)), .move (.t 1)⟩,
   ⟨(some 9), (some (7, true)), .move (.t 0)⟩,
   ⟨(some 10), (some (7, true)), .nilCheck (.t 9)⟩,
   ⟨(some 11), (some (7, true)), .fieldAddr 6 (.t 10)⟩,
   ⟨(some 12), (some (7, true)), .load false 1 (.t 11)⟩,
   ⟨(some 13), (some (7, true)), .len (.t 12)⟩,
   ⟨(some 14), (some (7, true)), .bin .sub 3 (.t 13) (.c (.int .i64 1))⟩,
   ⟨(some 15), (some (7, true)), .call (.c (.func (.func 42) #[] #[])) [(.t 8), (.c (.int .i64 (-1))), (.t 14)]⟩,
   ⟨(some 16), none, .pick (.t 7) (.t 15) (.c (.bool false))⟩,
   ⟨(some 4), none, .move (.t 16)⟩] (some [4]))
 .ret)), [.tmp 4]⟩

theorem is43 : FnIs Tryz.prog 43 x43 := ⟨Tryz.f43, _, Tryz.func43, by kernel_rfl, rfl, by kernel_rfl, by decide, by kernel_rfl⟩

/-- (*cloisonne/extent.World).may -/
def x47 : XDecl := .code ⟨3, 
 (.seq (.ops [⟨(some 6), none, .move (.c (.int .i64 0))⟩] (some [0, 1, 2]))
 (.seq (.block 0
  (.seq (.ops [⟨(some 8), none, .move (.t 0)⟩,
    ⟨(some 9), none, .isNil .ptr false (.t 8)⟩,
    ⟨(some 7), none, .move (.t 9)⟩] (some [0, 1, 2, 7]))
  (.cond (.t 7)
   (.seq (.ops [⟨(some 6), none, .move (.c (.int .i64 2))⟩] (some [6]))
   .ret)
   (.seq (.ops [⟨(some 11), none, .move (.t 0)⟩,
     ⟨(some 12), none, .move (.t 1)⟩,
     ⟨(some 13), none, .call (.c (.func (.func 73) #[] #[])) [(.t 11), (.t 12)]⟩,
     ⟨(some 14), none, .un .not (.t 13)⟩,
     ⟨(some 15), none, .move (.t 14)⟩,
     ⟨(some 16), (some (15, false)), .move (.t 2)⟩,
     ⟨(some 17), (some (15, false)), .bin .lss 3 (.t 16) (.c (.int .i64 0))⟩,
     ⟨(some 18), none, .pick (.t 15) (.c (.bool true)) (.t 17)⟩,
     ⟨(some 19), none, .move (.t 18)⟩,
     ⟨(some 20), (some (19, false)), .move (.t 2)⟩,
     ⟨(some 21), (some (19, false)), .move (.t 0)⟩,
     ⟨(some 22), (some (19, false)), .nilCheck (.t 21)⟩,
     ⟨(some 23), (some (19, false)), .fieldAddr 1 (.t 22)⟩,
     ⟨(some 24), (some (19, false)), .load false 1 (.t 23)⟩,
     ⟨(some 25), (some (19, false)), .bin .geq 3 (.t 20) (.t 24)⟩,
     ⟨(some 26), none, .pick (.t 19) (.c (.bool true)) (.t 25)⟩,
     ⟨(some 10), none, .move (.t 26)⟩] (some [10]))
   (.cond (.t 10)
    (.seq (.ops [⟨(some 6), none, .move (.c (.int .i64 1))⟩] (some [6]))
    .ret)
    .skip)))))
 (.seq (.ops [⟨(some 6), none, .move (.c (.int .i64 0))⟩] (some [6]))
 .ret))), [.tmp 6]⟩

theorem is47 : FnIs Tryz.prog 47 x47 := ⟨Tryz.f47, _, Tryz.func47, by kernel_rfl, rfl, by kernel_rfl, by decide, by kernel_rfl⟩

/-- (*cloisonne/job.Job).latch -/
def x48 : XDecl := .code ⟨1, 
 (.seq (.ops [⟨(some 2), none, .move (.c (.int .i64 0))⟩,
   ⟨(some 3), none, .move (.c (.int .i64 0))⟩] (some [0]))
 (.seq (.seq (.opsd [(0, 0, ⟨(some 4), none, .move (.t 0)⟩),
   (1, 1, ⟨(some 5), none, .nilCheck (.t 4)⟩),
   (2, 3, ⟨(some 6), none, .fieldAddr 0 (.t 5)⟩),
   (3, 7, ⟨(some 7), none, .load false 1 (.t 6)⟩),
   (4, 0, ⟨(some 8), none, .move (.t 0)⟩),
   (5, 16, ⟨(some 9), none, .nilCheck (.t 8)⟩),
   (6, 48, ⟨(some 10), none, .fieldAddr 2 (.t 9)⟩),
   (7, 112, ⟨(some 11), none, .load false 1 (.t 10)⟩),
   (8, 0, ⟨(some 12), none, .move (.t 0)⟩),
   (9, 256, ⟨(some 13), none, .nilCheck (.t 12)⟩),
   (10, 768, ⟨(some 14), none, .fieldAddr 1 (.t 13)⟩),
   (11, 1792, ⟨(some 15), none, .load false 1 (.t 14)⟩),
   (12, 4095, ⟨(some 16), none, .call (.c (.func (.func 15) #[] #[])) [(.t 7), (.t 11), (.t 15)]⟩),
   (13, 8191, ⟨(some 17), none, .un .not (.t 16)⟩)] (some [0, 17]))
 (.cond (.t 17)
  (.seq (.ops [⟨(some 2), none, .move (.c (.int .i64 3))⟩,
    ⟨(some 3), none, .move (.c (.int .i64 0))⟩] (some [2, 3]))
  .ret)
  .skip))
 (.seq (.ops [⟨(some 18), none, .move (.t 0)⟩,
   ⟨(some 19), none, .nilCheck (.t 18)⟩,
   ⟨(some 20), none, .fieldAddr 4 (.t 19)⟩,
   ⟨none, none, .store 1 (.t 20) (.c (.int .i64 1))⟩] (some []))
 (.seq (.ops [⟨(some 2), none, .move (.c (.int .i64 1))⟩,
   ⟨(some 3), none, .move (.c (.int .i64 0))⟩] (some [2, 3]))
 .ret)))), [.tmp 2, .tmp 3]⟩

theorem is48 : FnIs Tryz.prog 48 x48 := ⟨Tryz.f48, _, Tryz.func48, by kernel_rfl, rfl, by kernel_rfl, by decide, by kernel_rfl⟩

/-- (*cloisonne/job.Job).check -/
def x49 : XDecl := .code ⟨1, 
 (.seq (.ops [⟨(some 2), none, .move (.c (.int .i64 0))⟩,
   ⟨(some 3), none, .move (.c (.int .i64 0))⟩] (some [0]))
 (.seq (.opsd [(0, 0, ⟨(some 7), none, .move (.t 0)⟩),
   (1, 1, ⟨(some 8), none, .nilCheck (.t 7)⟩),
   (2, 3, ⟨(some 9), none, .fieldAddr 3 (.t 8)⟩),
   (3, 7, ⟨(some 10), none, .load false 1 (.t 9)⟩),
   (4, 0, ⟨(some 11), none, .move (.t 0)⟩),
   (5, 16, ⟨(some 12), none, .nilCheck (.t 11)⟩),
   (6, 48, ⟨(some 13), none, .fieldAddr 0 (.t 12)⟩),
   (7, 112, ⟨(some 14), none, .load false 1 (.t 13)⟩),
   (8, 15, ⟨(some 15), none, .nilCheck (.t 10)⟩),
   (9, 271, ⟨(some 16), none, .move (.t 10)⟩),
   (10, 1023, ⟨(some 17), none, .invoke [(106, 287), (107, 300), (108, 303)] (.t 16) [(.t 14)]⟩),
   (11, 2047, ⟨(some 6), none, .move (.t 17)⟩),
   (12, 4095, ⟨(some 18), none, .extract (.t 6) 0⟩),
   (13, 4095, ⟨(some 19), none, .extract (.t 6) 1⟩),
   (14, 8191, ⟨(some 4), none, .move (.t 18)⟩),
   (15, 32767, ⟨(some 5), none, .move (.t 19)⟩)] (some [0, 4, 5]))
 (.seq (.seq (.ops [⟨(some 20), none, .move (.t 5)⟩,
   ⟨(some 21), none, .bin .neq 28 (.t 20) (.c (.int .i64 0))⟩] (some [0, 4, 5, 21]))
 (.cond (.t 21)
  (.seq (.ops [⟨(some 22), none, .move (.t 0)⟩,
    ⟨(some 23), none, .move (.t 5)⟩,
    ⟨(some 24), none, .call (.c (.func (.func 74) #[] #[])) [(.t 22), (.c (.int .u64 0)), (.t 23)]⟩,
    ⟨(some 25), none, .extract (.t 24) 0⟩,
    ⟨(some 26), none, .extract (.t 24) 1⟩,
    ⟨(some 2), none, .move (.t 25)⟩,
    ⟨(some 3), none, .move (.t 26)⟩] (some [2, 3]))
  .ret)
  .skip))
 (.seq (.ops [⟨(some 27), none, .move (.t 0)⟩,
   ⟨(some 28), none, .move (.t 0)⟩,
   ⟨(some 29), none, .move (.t 4)⟩,
   ⟨(some 30), none, .nilCheck (.t 27)⟩,
   ⟨(some 31), none, .fieldAddr 5 (.t 30)⟩,
   ⟨none, none, .store 1 (.t 31) (.t 29)⟩,
   ⟨(some 32), none, .nilCheck (.t 28)⟩,
   ⟨(some 33), none, .fieldAddr 4 (.t 32)⟩,
   ⟨none, none, .store 1 (.t 33) (.c (.int .i64 2))⟩] (some []))
 (.seq (.ops [⟨(some 2), none, .move (.c (.int .i64 1))⟩,
   ⟨(some 3), none, .move (.c (.int .i64 0))⟩] (some [2, 3]))
 .ret))))), [.tmp 2, .tmp 3]⟩

theorem is49 : FnIs Tryz.prog 49 x49 := ⟨Tryz.f49, _, Tryz.func49, by kernel_rfl, rfl, by kernel_rfl, by decide, by kernel_rfl⟩

/-- (*cloisonne/job.Job).write -/
def x50 : XDecl := .code ⟨1, 
 (.seq (.ops [⟨(some 2), none, .move (.c (.int .i64 0))⟩,
   ⟨(some 3), none, .move (.c (.int .i64 0))⟩] (some [0]))
 (.seq (.ops [⟨(some 7), none, .move (.t 0)⟩,
   ⟨(some 8), none, .nilCheck (.t 7)⟩,
   ⟨(some 9), none, .fieldAddr 5 (.t 8)⟩,
   ⟨(some 10), none, .load false 1 (.t 9)⟩,
   ⟨(some 11), none, .call (.c (.func (.func 75) #[] #[])) [(.t 10)]⟩,
   ⟨(some 6), none, .move (.t 11)⟩,
   ⟨(some 12), none, .extract (.t 6) 0⟩,
   ⟨(some 13), none, .extract (.t 6) 1⟩,
   ⟨(some 4), none, .move (.t 12)⟩,
   ⟨(some 5), none, .move (.t 13)⟩] (some [0, 4, 5]))
 (.seq (.seq (.ops [⟨(some 14), none, .move (.t 5)⟩,
   ⟨(some 15), none, .bin .neq 28 (.t 14) (.c (.int .i64 0))⟩,
   ⟨(some 16), none, .move (.t 15)⟩,
   ⟨(some 17), (some (16, false)), .move (.t 4)⟩,
   ⟨(some 18), (some (16, false)), .bin .neq 3 (.t 17) (.c (.int .i64 2))⟩,
   ⟨(some 19), none, .pick (.t 16) (.c (.bool true)) (.t 18)⟩] (some [0, 4, 5, 19]))
 (.cond (.t 19)
  (.seq (.ops [⟨(some 20), none, .move (.t 4)⟩,
    ⟨(some 21), none, .move (.t 5)⟩,
    ⟨(some 2), none, .move (.t 20)⟩,
    ⟨(some 3), none, .move (.t 21)⟩] (some [2, 3]))
  .ret)
  .skip))
 (.seq (.opsd [(0, 0, ⟨(some 22), none, .move (.t 0)⟩),
   (1, 0, ⟨(some 23), none, .move (.t 0)⟩),
   (2, 2, ⟨(some 24), none, .nilCheck (.t 23)⟩),
   (3, 6, ⟨(some 25), none, .fieldAddr 3 (.t 24)⟩),
   (4, 14, ⟨(some 26), none, .load false 1 (.t 25)⟩),
   (5, 0, ⟨(some 27), none, .move (.t 0)⟩),
   (6, 32, ⟨(some 28), none, .nilCheck (.t 27)⟩),
   (7, 96, ⟨(some 29), none, .fieldAddr 0 (.t 28)⟩),
   (8, 224, ⟨(some 30), none, .load false 1 (.t 29)⟩),
   (9, 30, ⟨(some 31), none, .nilCheck (.t 26)⟩),
   (10, 542, ⟨(some 32), none, .move (.t 26)⟩),
   (11, 2046, ⟨(some 33), none, .invoke [(106, 288), (107, 301), (108, 304)] (.t 32) [(.t 30)]⟩),
   (12, 4094, ⟨(some 34), none, .extract (.t 33) 0⟩),
   (13, 4094, ⟨(some 35), none, .extract (.t 33) 1⟩),
   (14, 16383, ⟨(some 36), none, .call (.c (.func (.func 74) #[] #[])) [(.t 22), (.t 34), (.t 35)]⟩),
   (15, 32767, ⟨(some 37), none, .extract (.t 36) 0⟩),
   (16, 32767, ⟨(some 38), none, .extract (.t 36) 1⟩),
   (17, 131071, ⟨(some 2), none, .move (.t 37)⟩),
   (18, 262143, ⟨(some 3), none, .move (.t 38)⟩)] (some [2, 3]))
 .ret)))), [.tmp 2, .tmp 3]⟩

theorem is50 : FnIs Tryz.prog 50 x50 := ⟨Tryz.f50, _, Tryz.func50, by kernel_rfl, rfl, by kernel_rfl, by decide, by kernel_rfl⟩

/-- cloisonne/room.May -/
def x51 : XDecl := .code ⟨1, 
 (.seq (.ops [⟨(some 2), none, .move (.c (.bool false))⟩] (some [0]))
 (.seq (.seq (.ops [⟨(some 5), none, .move (.t 0)⟩,
   ⟨(some 6), none, .len (.t 5)⟩,
   ⟨(some 7), none, .move (.c (.int .i64 0))⟩] (some [0, 5, 6, 7]))
 (.block 0
  (.loop
   (.seq (.ops [⟨(some 8), none, .bin .lss 3 (.t 7) (.t 6)⟩] (some [0, 5, 6, 7, 8]))
   (.seq (.cond (.t 8)
    .skip
    (.exit 0))
   (.seq (.block 1
    (.seq (.ops [⟨(some 9), none, .move (.t 7)⟩,
      ⟨(some 10), none, .indexAddr 5 (.t 5) (.t 7)⟩,
      ⟨(some 11), none, .load true 5 (.t 10)⟩,
      ⟨(some 4), none, .alloc [(.string .empty), (.bool false), (.bool false), (.string .empty), (.int .u64 0)]⟩,
      ⟨(some 3), none, .move (.t 9)⟩,
      ⟨none, none, .store 5 (.t 4) (.t 11)⟩] (some [0, 3, 4, 5, 6, 7]))
    (.seq (.opsd [(0, 0, ⟨(some 12), none, .fieldAddr 0 (.t 4)⟩),
      (1, 1, ⟨(some 13), none, .load false 1 (.t 12)⟩),
      (2, 3, ⟨(some 14), none, .call (.c (.func (.func 76) #[] #[])) [(.t 13)]⟩),
      (3, 7, ⟨(some 15), none, .un .not (.t 14)⟩),
      (4, 15, ⟨(some 16), none, .move (.t 15)⟩),
      (5, 31, ⟨(some 17), (some (16, false)), .fieldAddr 2 (.t 4)⟩),
      (6, 63, ⟨(some 18), (some (16, false)), .load true 3 (.t 17)⟩),
      (7, 127, ⟨(some 19), (some (16, false)), .call (.c (.func (.func 77) #[] #[])) [(.t 18)]⟩),
      (8, 255, ⟨(some 20), (some (16, false)), .un .not (.t 19)⟩),
      (9, 511, ⟨(some 21), none, .pick (.t 16) (.c (.bool true)) (.t 20)⟩),
      (10, 1023, ⟨(some 22), none, .move (.t 21)⟩),
      (11, 2047, ⟨(some 23), (some (22, false)), .fieldAddr 1 (.t 4)⟩),
      (12, 4095, ⟨(some 24), (some (22, false)), .load false 1 (.t 23)⟩),
      (13, 8191, ⟨(some 25), (some (22, false)), .move (.t 24)⟩),
      (14, 16383, ⟨(some 26), (some (25, true)), .fieldAddr 2 (.t 4)⟩),
      (15, 32767, ⟨(some 27), (some (25, true)), .load true 3 (.t 26)⟩),
      (16, 16383, ⟨(some 28), (some (25, true)), .build [(.bool false), (.string .empty), (.int .u64 0)] [(0, 1), (1, 1), (2, 1)] []⟩),
      (17, 131071, ⟨(some 29), (some (25, true)), .bin .neq 95 (.t 27) (.t 28)⟩),
      (18, 262143, ⟨(some 30), (some (22, false)), .pick (.t 25) (.t 29) (.c (.bool false))⟩),
      (19, 524287, ⟨(some 31), none, .pick (.t 22) (.c (.bool true)) (.t 30)⟩),
      (20, 1048575, ⟨(some 32), none, .move (.t 31)⟩),
      (21, 2097151, ⟨(some 33), (some (32, false)), .move (.t 3)⟩),
      (22, 4194303, ⟨(some 34), (some (32, false)), .bin .gtr 3 (.t 33) (.c (.int .i64 0))⟩),
      (23, 8388607, ⟨(some 35), (some (32, false)), .move (.t 34)⟩),
      (24, 16777215, ⟨(some 36), (some (35, true)), .move (.t 0)⟩),
      (25, 16777215, ⟨(some 37), (some (35, true)), .move (.t 3)⟩),
      (26, 50331647, ⟨(some 38), (some (35, true)), .bin .sub 3 (.t 37) (.c (.int .i64 1))⟩),
      (27, 134217727, ⟨(some 39), (some (35, true)), .indexAddr 5 (.t 36) (.t 38)⟩),
      (28, 268435455, ⟨(some 40), (some (35, true)), .fieldAddr 0 (.t 39)⟩),
      (29, 536870911, ⟨(some 41), (some (35, true)), .load false 1 (.t 40)⟩),
      (30, 16777215, ⟨(some 42), (some (35, true)), .fieldAddr 0 (.t 4)⟩),
      (31, 1090519039, ⟨(some 43), (some (35, true)), .load false 1 (.t 42)⟩),
      (32, 4294967295, ⟨(some 44), (some (35, true)), .bin .geq 9 (.t 41) (.t 43)⟩),
      (33, 8589934591, ⟨(some 45), (some (32, false)), .pick (.t 35) (.t 44) (.c (.bool false))⟩),
      (34, 17179869183, ⟨(some 46), none, .pick (.t 32) (.c (.bool true)) (.t 45)⟩)] (some [0, 5, 6, 7, 46]))
    (.cond (.t 46)
     (.seq (.ops [⟨(some 2), none, .move (.c (.bool false))⟩] (some [2]))
     .ret)
     .skip))))
   (.ops [⟨(some 47), none, .bin .add 3 (.t 7) (.c (.int .i64 1))⟩,
     ⟨(some 7), none, .move (.t 47)⟩] (some [0, 5, 6, 7]))))))))
 (.seq (.ops [⟨(some 48), none, .move (.t 0)⟩,
   ⟨(some 49), none, .len (.t 48)⟩,
   ⟨(some 50), none, .call (.c (.func (.func 78) #[] #[])) [(.t 49), (.c (.int .i64 1)), (.c (.int .i64 16))]⟩,
   ⟨(some 2), none, .move (.t 50)⟩] (some [2]))
 .ret))), [.tmp 2]⟩

theorem is51 : FnIs Tryz.prog 51 x51 := ⟨Tryz.f51, _, Tryz.func51, by kernel_rfl, rfl, by kernel_rfl, by decide, by kernel_rfl⟩

/-- slices.Clone[[]cloisonne/api.Write,cloisonne/api.Write] -/
def x52 : XDecl := .code ⟨1, 
 (.seq (.ops [⟨(some 2), none, .move (.c (.slice none 0 0))⟩] (some [0]))
 (.seq (.seq (.ops [⟨(some 3), none, .move (.t 0)⟩,
   ⟨(some 4), none, .isNil .slice false (.t 3)⟩] (some [0, 4]))
 (.cond (.t 4)
  (.seq (.ops [⟨(some 2), none, .move (.c (.slice none 0 0))⟩] (some [2]))
  .ret)
  .skip))
 (.seq (.ops [⟨(some 5), none, .buildSlice [(.string .empty), (.bool false), (.bool false), (.string .empty), (.int .u64 0)] 5 0 []⟩,
   ⟨(some 6), none, .move (.t 0)⟩,
   ⟨(some 7), none, .append 5 56 [(.string .empty), (.bool false), (.bool false), (.string .empty), (.int .u64 0)] (.t 5) (.t 6)⟩,
   ⟨(some 2), none, .move (.t 7)⟩] (some [2]))
 .ret))), [.tmp 2]⟩

theorem is52 : FnIs Tryz.prog 52 x52 := ⟨Tryz.f52, _, Tryz.func52, by kernel_rfl, rfl, by kernel_rfl, by decide, by kernel_rfl⟩

/-- (*cloisonne/ring.Ring).Seq -/
def x53 : XDecl := .code ⟨1, 
 (.seq (.ops [⟨(some 2), none, .move (.c (.int .i64 0))⟩] (some [0]))
 (.seq (.seq (.ops [⟨(some 3), none, .move (.t 0)⟩,
   ⟨(some 4), none, .isNil .ptr false (.t 3)⟩] (some [0, 4]))
 (.cond (.t 4)
  (.seq (.ops [⟨(some 2), none, .move (.c (.int .i64 0))⟩] (some [2]))
  .ret)
  .skip))
 (.seq (.ops [⟨(some 5), none, .move (.t 0)⟩,
   ⟨(some 6), none, .nilCheck (.t 5)⟩,
   ⟨(some 7), none, .fieldAddr 2 (.t 6)⟩,
   ⟨(some 8), none, .load false 1 (.t 7)⟩,
   ⟨(some 2), none, .move (.t 8)⟩] (some [2]))
 .ret))), [.tmp 2]⟩

theorem is53 : FnIs Tryz.prog 53 x53 := ⟨Tryz.f53, _, Tryz.func53, by kernel_rfl, rfl, by kernel_rfl, by decide, by kernel_rfl⟩

/-- cloisonne/vault.Right$1 -/
def x54 : XDecl := .code ⟨2, 
 (.seq (.ops [⟨(some 2), none, .box (.t 0)⟩,
   ⟨(some 3), none, .move (.c (.bool false))⟩] (some [1, 2]))
 (.seq (.ops [⟨(some 4), none, .fieldAddr 0 (.t 2)⟩,
   ⟨(some 5), none, .load false 1 (.t 4)⟩,
   ⟨(some 6), none, .fieldAddr 0 (.t 1)⟩,
   ⟨(some 7), none, .load false 1 (.t 6)⟩,
   ⟨(some 8), none, .call (.c (.func (.func 55) #[] #[])) [(.t 5), (.t 7)]⟩,
   ⟨(some 9), none, .bin .eql 3 (.t 8) (.c (.int .i64 0))⟩,
   ⟨(some 3), none, .move (.t 9)⟩] (some [3]))
 .ret)), [.tmp 3]⟩

theorem is54 : FnIs Tryz.prog 54 x54 := ⟨Tryz.f54, _, Tryz.func54, by kernel_rfl, rfl, by kernel_rfl, by decide, by kernel_rfl⟩

/-- cloisonne/label.Compare -/
def x55 : XDecl := .code ⟨2, 
 (.seq (.ops [⟨(some 4), none, .move (.c (.int .i64 0))⟩] (some [0, 1]))
 (.seq (.ops [⟨(some 5), none, .move (.t 0)⟩,
   ⟨(some 6), none, .len (.t 5)⟩,
   ⟨(some 7), none, .move (.t 1)⟩,
   ⟨(some 8), none, .len (.t 7)⟩,
   ⟨(some 9), none, .call (.c (.func (.func 80) #[] #[])) [(.t 6), (.t 8)]⟩,
   ⟨(some 10), none, .move (.t 0)⟩,
   ⟨(some 11), none, .move (.t 1)⟩,
   ⟨(some 12), none, .call (.c (.func (.func 81) #[] #[])) [(.t 10), (.t 11)]⟩,
   ⟨(some 13), none, .buildSlice [(.int .i64 0)] 1 2 [(0, (.t 9)), (1, (.t 12))]⟩,
   ⟨(some 14), none, .call (.c (.func (.func 79) #[] #[])) [(.t 13)]⟩,
   ⟨(some 4), none, .move (.t 14)⟩] (some [4]))
 .ret)), [.tmp 4]⟩

theorem is55 : FnIs Tryz.prog 55 x55 := ⟨Tryz.f55, _, Tryz.func55, by kernel_rfl, rfl, by kernel_rfl, by decide, by kernel_rfl⟩

/-- cloisonne/room.Right -/
def x56 : XDecl := .code ⟨1, 
 (.seq (.ops [⟨(some 1), none, .box (.t 0)⟩,
   ⟨(some 2), none, .move (.c (.bool false))⟩] (some [1]))
 (.seq (.ops [⟨(some 3), none, .fieldAddr 0 (.t 1)⟩,
   ⟨(some 4), none, .load false 1 (.t 3)⟩,
   ⟨(some 5), none, .call (.c (.func (.func 82) #[] #[])) [(.t 4)]⟩,
   ⟨(some 6), none, .move (.t 5)⟩,
   ⟨(some 7), (some (6, true)), .fieldAddr 1 (.t 1)⟩,
   ⟨(some 8), (some (6, true)), .load false 1 (.t 7)⟩,
   ⟨(some 9), (some (6, true)), .call (.c (.func (.func 78) #[] #[])) [(.t 8), (.c (.int .i64 1)), (.c (.int .i64 16))]⟩,
   ⟨(some 10), none, .pick (.t 6) (.t 9) (.c (.bool false))⟩,
   ⟨(some 11), none, .move (.t 10)⟩,
   ⟨(some 12), (some (11, true)), .fieldAddr 2 (.t 1)⟩,
   ⟨(some 13), (some (11, true)), .load false 1 (.t 12)⟩,
   ⟨(some 14), (some (11, true)), .call (.c (.func (.func 78) #[] #[])) [(.t 13), (.c (.int .i64 0)), (.c (.int .i64 1048576))]⟩,
   ⟨(some 15), none, .pick (.t 11) (.t 14) (.c (.bool false))⟩,
   ⟨(some 16), none, .move (.t 15)⟩,
   ⟨(some 17), (some (16, true)), .fieldAddr 3 (.t 1)⟩,
   ⟨(some 18), (some (16, true)), .load false 1 (.t 17)⟩,
   ⟨(some 19), (some (16, true)), .call (.c (.func (.func 78) #[] #[])) [(.t 18), (.c (.int .i64 1)), (.c (.int .i64 1073741824))]⟩,
   ⟨(some 20), none, .pick (.t 16) (.t 19) (.c (.bool false))⟩,
   ⟨(some 2), none, .move (.t 20)⟩] (some [2]))
 .ret)), [.tmp 2]⟩

theorem is56 : FnIs Tryz.prog 56 x56 := ⟨Tryz.f56, _, Tryz.func56, by kernel_rfl, rfl, by kernel_rfl, by decide, by kernel_rfl⟩

/-- slices.ContainsFunc[[]cloisonne/api.Room,cloisonne/api.Room] -/
def x57 : XDecl := .code ⟨2, 
 (.seq (.ops [⟨(some 4), none, .move (.c (.bool false))⟩] (some [0, 1]))
 (.seq (.ops [⟨(some 5), none, .move (.t 0)⟩,
   ⟨(some 6), none, .move (.t 1)⟩,
   ⟨(some 7), none, .call (.c (.func (.func 83) #[] #[])) [(.t 5), (.t 6)]⟩,
   ⟨(some 8), none, .bin .geq 3 (.t 7) (.c (.int .i64 0))⟩,
   ⟨(some 4), none, .move (.t 8)⟩] (some [4]))
 .ret)), [.tmp 4]⟩

theorem is57 : FnIs Tryz.prog 57 x57 := ⟨Tryz.f57, _, Tryz.func57, by kernel_rfl, rfl, by kernel_rfl, by decide, by kernel_rfl⟩

/-- slices.Clone[[]cloisonne/api.Room,cloisonne/api.Room] -/
def x58 : XDecl := .code ⟨1, 
 (.seq (.ops [⟨(some 2), none, .move (.c (.slice none 0 0))⟩] (some [0]))
 (.seq (.seq (.ops [⟨(some 3), none, .move (.t 0)⟩,
   ⟨(some 4), none, .isNil .slice false (.t 3)⟩] (some [0, 4]))
 (.cond (.t 4)
  (.seq (.ops [⟨(some 2), none, .move (.c (.slice none 0 0))⟩] (some [2]))
  .ret)
  .skip))
 (.seq (.ops [⟨(some 5), none, .buildSlice [(.slice none 0 0), (.int .i64 0), (.int .i64 0), (.int .i64 0)] 4 0 []⟩,
   ⟨(some 6), none, .move (.t 0)⟩,
   ⟨(some 7), none, .append 4 48 [(.slice none 0 0), (.int .i64 0), (.int .i64 0), (.int .i64 0)] (.t 5) (.t 6)⟩,
   ⟨(some 2), none, .move (.t 7)⟩] (some [2]))
 .ret))), [.tmp 2]⟩

theorem is58 : FnIs Tryz.prog 58 x58 := ⟨Tryz.f58, _, Tryz.func58, by kernel_rfl, rfl, by kernel_rfl, by decide, by kernel_rfl⟩

/-- slices.Clone[[]uint64,uint64] -/
def x59 : XDecl := .code ⟨1, 
 (.seq (.ops [⟨(some 2), none, .move (.c (.slice none 0 0))⟩] (some [0]))
 (.seq (.seq (.ops [⟨(some 3), none, .move (.t 0)⟩,
   ⟨(some 4), none, .isNil .slice false (.t 3)⟩] (some [0, 4]))
 (.cond (.t 4)
  (.seq (.ops [⟨(some 2), none, .move (.c (.slice none 0 0))⟩] (some [2]))
  .ret)
  .skip))
 (.seq (.ops [⟨(some 5), none, .buildSlice [(.int .u64 0)] 1 0 []⟩,
   ⟨(some 6), none, .move (.t 0)⟩,
   ⟨(some 7), none, .append 1 8 [(.int .u64 0)] (.t 5) (.t 6)⟩,
   ⟨(some 2), none, .move (.t 7)⟩] (some [2]))
 .ret))), [.tmp 2]⟩

theorem is59 : FnIs Tryz.prog 59 x59 := ⟨Tryz.f59, _, Tryz.func59, by kernel_rfl, rfl, by kernel_rfl, by decide, by kernel_rfl⟩

/-- cloisonne/seglog.Open -/
def x60 : XDecl := .code ⟨2, 
 (.seq (.ops [⟨(some 4), none, .move (.c (.pointer none))⟩,
   ⟨(some 5), none, .move (.c (.slice none 0 0))⟩,
   ⟨(some 6), none, .move (.c (.int .i64 0))⟩] (some [0, 1]))
 (.seq (.block 0
  (.seq (.ops [⟨(some 14), none, .move (.t 0)⟩,
    ⟨(some 15), none, .isNil .ptr false (.t 14)⟩,
    ⟨(some 13), none, .move (.t 15)⟩] (some [0, 1, 13]))
  (.cond (.t 13)
   (.seq (.ops [⟨(some 4), none, .move (.c (.pointer none))⟩,
     ⟨(some 5), none, .move (.c (.slice none 0 0))⟩,
     ⟨(some 6), none, .move (.c (.int .i64 2))⟩] (some [4, 5, 6]))
   .ret)
   (.seq (.ops [⟨(some 17), none, .move (.t 0)⟩,
     ⟨(some 18), none, .call (.c (.func (.func 38) #[] #[])) [(.t 17)]⟩,
     ⟨(some 19), none, .un .not (.t 18)⟩,
     ⟨(some 16), none, .move (.t 19)⟩] (some [0, 1, 16]))
   (.cond (.t 16)
    (.seq (.ops [⟨(some 4), none, .move (.c (.pointer none))⟩,
      ⟨(some 5), none, .move (.c (.slice none 0 0))⟩,
      ⟨(some 6), none, .move (.c (.int .i64 6))⟩] (some [4, 5, 6]))
    .ret)
    (.seq (.ops [⟨(some 21), none, .move (.t 1)⟩,
      ⟨(some 22), none, .bin .lss 3 (.t 21) (.c (.int .i64 0))⟩,
      ⟨(some 23), none, .move (.t 22)⟩,
      ⟨(some 24), (some (23, false)), .move (.t 1)⟩,
      ⟨(some 25), (some (23, false)), .move (.t 0)⟩,
      ⟨(some 26), (some (23, false)), .call (.c (.func (.func 36) #[] #[])) [(.t 25)]⟩,
      ⟨(some 27), (some (23, false)), .bin .sub 3 (.t 26) (.c (.int .i64 1))⟩,
      ⟨(some 28), (some (23, false)), .bin .geq 3 (.t 24) (.t 27)⟩,
      ⟨(some 29), none, .pick (.t 23) (.c (.bool true)) (.t 28)⟩,
      ⟨(some 20), none, .move (.t 29)⟩] (some [0, 1, 20]))
    (.cond (.t 20)
     (.seq (.ops [⟨(some 4), none, .move (.c (.pointer none))⟩,
       ⟨(some 5), none, .move (.c (.slice none 0 0))⟩,
       ⟨(some 6), none, .move (.c (.int .i64 1))⟩] (some [4, 5, 6]))
     .ret)
     .skip)))))))
 (.seq (.ops [⟨(some 30), none, .move (.t 0)⟩,
   ⟨(some 31), none, .move (.t 1)⟩,
   ⟨(some 32), none, .move (.t 1)⟩,
   ⟨(some 33), none, .bin .add 3 (.t 32) (.c (.int .i64 1))⟩,
   ⟨(some 34), none, .build [(.pointer none), (.int .i64 0), (.int .i64 0), (.int .i64 0), (.int .i64 0), (.int .i64 0), (.pointer none)] [(0, 1), (1, 1), (2, 1), (3, 1), (4, 1), (5, 1), (6, 1)] [(0, (.t 30)), (1, (.t 31)), (2, (.t 33))]⟩,
   ⟨(some 35), none, .box (.t 34)⟩,
   ⟨(some 7), none, .move (.t 35)⟩] (some [0, 1, 7]))
 (.seq (.ops [⟨(some 8), none, .move (.c (.slice none 0 0))⟩] (some [0, 1, 7, 8]))
 (.seq (.seq (.ops [⟨(some 36), none, .move (.t 1)⟩,
   ⟨(some 9), none, .move (.t 36)⟩] (some [0, 1, 7, 8, 9]))
 (.block 1
  (.loop
   (.seq (.seq (.ops [⟨(some 37), none, .move (.t 9)⟩,
     ⟨(some 38), none, .move (.t 1)⟩,
     ⟨(some 39), none, .bin .add 3 (.t 38) (.c (.int .i64 1))⟩,
     ⟨(some 40), none, .bin .leq 3 (.t 37) (.t 39)⟩] (some [0, 1, 7, 8, 9, 40]))
   (.cond (.t 40)
    .skip
    (.exit 1)))
   (.seq (.block 2
    (.seq (.ops [⟨(some 43), none, .move (.t 0)⟩,
      ⟨(some 44), none, .move (.t 9)⟩,
      ⟨(some 45), none, .call (.c (.func (.func 84) #[] #[])) [(.t 43), (.t 44)]⟩,
      ⟨(some 10), none, .alloc [(.slice none 0 0), (.slice none 0 0), (.slice none 0 0), (.int .i64 0)]⟩,
      ⟨none, none, .store 4 (.t 10) (.t 45)⟩] (some [0, 1, 7, 8, 9, 10]))
    (.seq (.opsd [(0, 0, ⟨(some 46), none, .move (.t 7)⟩),
      (1, 0, ⟨(some 47), none, .move (.t 7)⟩),
      (2, 2, ⟨(some 48), none, .nilCheck (.t 47)⟩),
      (3, 6, ⟨(some 49), none, .fieldAddr 5 (.t 48)⟩),
      (4, 14, ⟨(some 50), none, .load false 1 (.t 49)⟩),
      (5, 0, ⟨(some 51), none, .fieldAddr 3 (.t 10)⟩),
      (6, 32, ⟨(some 52), none, .load false 1 (.t 51)⟩),
      (7, 126, ⟨(some 53), none, .calcB .max [3, 3] 3 [(.t 50), (.t 52)]⟩),
      (8, 255, ⟨(some 54), none, .nilCheck (.t 46)⟩),
      (9, 511, ⟨(some 55), none, .fieldAddr 5 (.t 54)⟩),
      (10, 1023, ⟨none, none, .store 1 (.t 55) (.t 53)⟩)] (some [0, 1, 7, 8, 9, 10]))
    (.seq (.seq (.opsr [⟨(some 56), none, .fieldAddr 2 (.t 10)⟩,
      ⟨(some 57), none, .load false 1 (.t 56)⟩,
      ⟨(some 58), none, .indexAddr 1 (.t 57) (.c (.int .i64 0))⟩,
      ⟨(some 59), none, .load false 1 (.t 58)⟩,
      ⟨(some 60), none, .un .not (.t 59)⟩,
      ⟨(some 61), none, .move (.t 60)⟩,
      ⟨(some 62), (some (61, false)), .fieldAddr 0 (.t 10)⟩,
      ⟨(some 63), (some (61, false)), .load false 1 (.t 62)⟩,
      ⟨(some 64), (some (61, false)), .indexAddr 5 (.t 63) (.c (.int .i64 0))⟩,
      ⟨(some 65), (some (61, false)), .fieldAddr 0 (.t 64)⟩,
      ⟨(some 66), (some (61, false)), .load false 1 (.t 65)⟩,
      ⟨(some 67), (some (61, false)), .move (.t 7)⟩,
      ⟨(some 68), (some (61, false)), .nilCheck (.t 67)⟩,
      ⟨(some 69), (some (61, false)), .fieldAddr 3 (.t 68)⟩,
      ⟨(some 70), (some (61, false)), .load false 1 (.t 69)⟩,
      ⟨(some 71), (some (61, false)), .bin .leq 3 (.t 66) (.t 70)⟩,
      ⟨(some 72), none, .pick (.t 61) (.c (.bool true)) (.t 71)⟩] (some [0, 1, 7, 8, 9, 10, 72]))
    (.cond (.t 72)
     (.exit 2)
     .skip))
    (.seq (.ops [⟨(some 74), none, .load true 4 (.t 10)⟩,
      ⟨(some 75), none, .call (.c (.func (.func 85) #[] #[])) [(.t 74)]⟩,
      ⟨(some 73), none, .move (.t 75)⟩,
      ⟨(some 76), none, .extract (.t 73) 0⟩,
      ⟨(some 77), none, .extract (.t 73) 1⟩,
      ⟨(some 11), none, .move (.t 76)⟩,
      ⟨(some 12), none, .move (.t 77)⟩] (some [0, 1, 7, 8, 9, 10, 11, 12]))
    (.seq (.ops [⟨(some 78), none, .move (.t 12)⟩,
      ⟨(some 79), none, .bin .gtr 3 (.t 78) (.c (.int .i64 0))⟩] (some [0, 1, 7, 8, 9, 10, 11, 12, 79]))
    (.cond (.t 79)
     (.ops [⟨(some 80), none, .move (.t 7)⟩,
       ⟨(some 81), none, .move (.t 7)⟩,
       ⟨(some 82), none, .move (.t 7)⟩,
       ⟨(some 83), none, .move (.t 9)⟩,
       ⟨(some 84), none, .fieldAddr 0 (.t 10)⟩,
       ⟨(some 85), none, .load false 1 (.t 84)⟩,
       ⟨(some 86), none, .indexAddr 5 (.t 85) (.c (.int .i64 0))⟩,
       ⟨(some 87), none, .fieldAddr 0 (.t 86)⟩,
       ⟨(some 88), none, .load false 1 (.t 87)⟩,
       ⟨(some 89), none, .move (.t 12)⟩,
       ⟨(some 90), none, .move (.t 11)⟩,
       ⟨(some 91), none, .nilCheck (.t 80)⟩,
       ⟨(some 92), none, .fieldAddr 2 (.t 91)⟩,
       ⟨none, none, .store 1 (.t 92) (.t 83)⟩,
       ⟨(some 93), none, .nilCheck (.t 81)⟩,
       ⟨(some 94), none, .fieldAddr 3 (.t 93)⟩,
       ⟨none, none, .store 1 (.t 94) (.t 88)⟩,
       ⟨(some 95), none, .nilCheck (.t 82)⟩,
       ⟨(some 96), none, .fieldAddr 4 (.t 95)⟩,
       ⟨none, none, .store 1 (.t 96) (.t 89)⟩,
       ⟨(some 8), none, .move (.t 90)⟩] (some [0, 1, 7, 8, 9]))
     .skip)))))))
   (.ops [⟨(some 41), none, .move (.t 9)⟩,
     ⟨(some 42), none, .bin .add 3 (.t 41) (.c (.int .i64 1))⟩,
     ⟨(some 9), none, .move (.t 42)⟩] (some [0, 1, 7, 8, 9])))))))
 (.seq (.ops [⟨(some 97), none, .move (.t 7)⟩,
   ⟨(some 98), none, .nilCheck (.t 97)⟩,
   ⟨(some 99), none, .fieldAddr 5 (.t 98)⟩,
   ⟨(some 100), none, .load false 1 (.t 99)⟩,
   ⟨(some 101), none, .bin .add 3 (.t 100) (.c (.int .i64 1))⟩,
   ⟨(some 102), none, .nilCheck (.t 97)⟩,
   ⟨(some 103), none, .fieldAddr 5 (.t 102)⟩,
   ⟨none, none, .store 1 (.t 103) (.t 101)⟩] (some [7, 8]))
 (.seq (.ops [⟨(some 104), none, .move (.t 7)⟩,
   ⟨(some 105), none, .move (.t 8)⟩,
   ⟨(some 4), none, .move (.t 104)⟩,
   ⟨(some 5), none, .move (.t 105)⟩,
   ⟨(some 6), none, .move (.c (.int .i64 0))⟩] (some [4, 5, 6]))
 .ret))))))), [.tmp 4, .tmp 5, .tmp 6]⟩

theorem is60 : FnIs Tryz.prog 60 x60 := ⟨Tryz.f60, _, Tryz.func60, by kernel_rfl, rfl, by kernel_rfl, by decide, by kernel_rfl⟩

/-- cloisonne/caps.New -/
def x61 : XDecl := .code ⟨1, 
 (.seq (.ops [⟨(some 2), none, .move (.c (.pointer none))⟩,
   ⟨(some 3), none, .move (.c (.int .i64 0))⟩] (some [0]))
 (.seq (.seq (.ops [⟨(some 4), none, .move (.t 0)⟩,
   ⟨(some 5), none, .bin .lss 3 (.t 4) (.c (.int .i64 1))⟩,
   ⟨(some 6), none, .move (.t 5)⟩,
   ⟨(some 7), (some (6, false)), .move (.t 0)⟩,
   ⟨(some 8), (some (6, false)), .bin .gtr 3 (.t 7) (.c (.int .i64 8))⟩,
   ⟨(some 9), none, .pick (.t 6) (.c (.bool true)) (.t 8)⟩] (some [0, 9]))
 (.cond (.t 9)
  (.seq (.ops [⟨(some 2), none, .move (.c (.pointer none))⟩,
    ⟨(some 3), none, .move (.c (.int .i64 1))⟩] (some [2, 3]))
  .ret)
  .skip))
 (.seq (.ops [⟨(some 10), none, .move (.t 0)⟩,
   ⟨(some 11), none, .makeSlice [(.int .u64 0), (.int .u64 0)] 16 (.t 10) (.t 10)⟩,
   ⟨(some 12), none, .build [(.int .i64 0), (.slice none 0 0)] [(0, 1), (1, 1)] [(1, (.t 11))]⟩,
   ⟨(some 13), none, .box (.t 12)⟩,
   ⟨(some 2), none, .move (.t 13)⟩,
   ⟨(some 3), none, .move (.c (.int .i64 0))⟩] (some [2, 3]))
 .ret))), [.tmp 2, .tmp 3]⟩

theorem is61 : FnIs Tryz.prog 61 x61 := ⟨Tryz.f61, _, Tryz.func61, by kernel_rfl, rfl, by kernel_rfl, by decide, by kernel_rfl⟩

/-- cloisonne/record.Rights -/
def x62 : XDecl := .code ⟨1, 
 (.seq (.ops [⟨(some 2), none, .move (.c (.string .empty))⟩,
   ⟨(some 3), none, .alloc [(.int .i64 0)]⟩] (some [0, 3]))
 (.seq (.seq (.ops [⟨(some 8), none, .move (.t 0)⟩,
   ⟨(some 9), none, .isNil .ptr false (.t 8)⟩] (some [0, 3, 9]))
 (.cond (.t 9)
  (.seq (.ops [⟨(some 2), none, .move (.c (.string .empty))⟩,
    ⟨none, none, .store 1 (.t 3) (.c (.int .i64 2))⟩] (some [2, 3]))
  .ret)
  .skip))
 (.seq (.ops [⟨none, none, .dfr [(.t 3), (.c (.int .i64 1))]⟩] (some [0, 3]))
 (.seq (.ops [⟨(some 10), none, .call (.c (.func (.func 88) #[] #[])) [(.c (.int .i64 5))]⟩,
   ⟨(some 11), none, .move (.t 0)⟩,
   ⟨(some 12), none, .call (.c (.func (.func 89) #[] #[])) [(.t 11)]⟩,
   ⟨(some 13), none, .call (.c (.func (.func 88) #[] #[])) [(.t 12)]⟩,
   ⟨(some 14), none, .buildSlice [(.int .u64 0), (.string .empty), (.slice none 0 0), (.slice none 0 0)] 4 2 [(0, (.t 10)), (1, (.t 13))]⟩,
   ⟨(some 15), none, .call (.c (.func (.func 87) #[] #[])) [(.c (.string ⟨#[98, 110]⟩)), (.t 14)]⟩,
   ⟨(some 4), none, .move (.t 15)⟩] (some [0, 3, 4]))
 (.seq (.ops [⟨(some 17), none, .move (.t 0)⟩,
   ⟨(some 18), none, .call (.c (.func (.func 90) #[] #[])) [(.t 17)]⟩,
   ⟨(some 16), none, .move (.t 18)⟩,
   ⟨(some 19), none, .extract (.t 16) 0⟩,
   ⟨(some 20), none, .extract (.t 16) 1⟩,
   ⟨(some 5), none, .move (.t 19)⟩,
   ⟨(some 6), none, .move (.t 20)⟩] (some [3, 4, 5, 6]))
 (.seq (.seq (.ops [⟨(some 21), none, .move (.t 5)⟩,
   ⟨(some 22), none, .len (.t 21)⟩,
   ⟨(some 23), none, .move (.c (.int .i64 0))⟩] (some [3, 4, 5, 6, 22, 23]))
 (.block 0
  (.loop
   (.seq (.ops [⟨(some 24), none, .bin .lss 3 (.t 23) (.t 22)⟩] (some [3, 4, 5, 6, 22, 23, 24]))
   (.seq (.cond (.t 24)
    .skip
    (.exit 0))
   (.seq (.block 1
    (.seq (.ops [⟨(some 25), none, .move (.t 23)⟩,
      ⟨(some 7), none, .move (.t 25)⟩] (some [3, 4, 5, 6, 7, 22, 23]))
    (.opsd [(0, 0, ⟨(some 26), none, .move (.t 4)⟩),
      (1, 0, ⟨(some 27), none, .move (.t 5)⟩),
      (2, 0, ⟨(some 28), none, .move (.t 7)⟩),
      (3, 6, ⟨(some 29), none, .indexAddr 1 (.t 27) (.t 28)⟩),
      (4, 14, ⟨(some 30), none, .load false 1 (.t 29)⟩),
      (5, 30, ⟨(some 31), none, .build [(.int .u64 0), (.string .empty), (.slice none 0 0), (.slice none 0 0)] [(0, 1), (1, 1), (2, 1), (3, 1)] [(0, (.t 30))]⟩),
      (6, 0, ⟨(some 32), none, .move (.t 6)⟩),
      (7, 0, ⟨(some 33), none, .move (.t 7)⟩),
      (8, 192, ⟨(some 34), none, .indexAddr 1 (.t 32) (.t 33)⟩),
      (9, 448, ⟨(some 35), none, .load false 1 (.t 34)⟩),
      (10, 960, ⟨(some 36), none, .build [(.int .u64 0), (.string .empty), (.slice none 0 0), (.slice none 0 0)] [(0, 1), (1, 1), (2, 1), (3, 1)] [(0, (.t 35))]⟩),
      (11, 2046, ⟨(some 37), none, .buildSlice [(.int .u64 0), (.string .empty), (.slice none 0 0), (.slice none 0 0)] 4 2 [(0, (.t 31)), (1, (.t 36))]⟩),
      (12, 4094, ⟨(some 38), none, .call (.c (.func (.func 87) #[] #[])) [(.c (.string ⟨#[110, 110]⟩)), (.t 37)]⟩),
      (13, 8191, ⟨(some 39), none, .bin .add 9 (.t 26) (.t 38)⟩),
      (14, 16383, ⟨(some 4), none, .move (.t 39)⟩)] (some [3, 4, 5, 6, 22, 23]))))
   (.ops [⟨(some 40), none, .bin .add 3 (.t 23) (.c (.int .i64 1))⟩,
     ⟨(some 23), none, .move (.t 40)⟩] (some [3, 4, 5, 6, 22, 23]))))))))
 (.seq (.ops [⟨(some 41), none, .move (.t 4)⟩,
   ⟨(some 2), none, .move (.t 41)⟩,
   ⟨none, none, .store 1 (.t 3) (.c (.int .i64 0))⟩] (some [2, 3]))
 .ret))))))), [.tmp 2, .cell false 1 3]⟩

theorem is62 : FnIs Tryz.prog 62 x62 := ⟨Tryz.f62, _, Tryz.func62, by kernel_rfl, rfl, by kernel_rfl, by decide, by kernel_rfl⟩

/-- cloisonne/vault.found -/
def x63 : XDecl := .code ⟨2, 
 (.seq (.ops [⟨(some 4), none, .move (.c (.int .i64 0))⟩] (some [0, 1]))
 (.seq (.ops [⟨(some 9), none, .move (.t 0)⟩,
   ⟨(some 10), none, .move (.t 1)⟩,
   ⟨(some 11), none, .call (.c (.func (.func 91) #[] #[])) [(.t 9), (.t 10)]⟩,
   ⟨(some 8), none, .move (.t 11)⟩,
   ⟨(some 12), none, .extract (.t 8) 0⟩,
   ⟨(some 13), none, .extract (.t 8) 1⟩,
   ⟨(some 5), none, .move (.t 12)⟩,
   ⟨(some 6), none, .move (.t 13)⟩] (some [5, 6]))
 (.seq (.seq (.ops [⟨(some 7), none, .move (.c (.int .i64 1))⟩] (some [5, 6, 7]))
 (.block 0
  (.loop
   (.seq (.seq (.ops [⟨(some 14), none, .move (.t 6)⟩,
     ⟨(some 15), none, .bin .eql 28 (.t 14) (.c (.int .i64 0))⟩,
     ⟨(some 16), none, .move (.t 15)⟩,
     ⟨(some 17), (some (16, true)), .move (.t 7)⟩,
     ⟨(some 18), (some (16, true)), .bin .eql 3 (.t 17) (.c (.int .i64 1))⟩,
     ⟨(some 19), none, .pick (.t 16) (.t 18) (.c (.bool false))⟩] (some [5, 6, 19]))
   (.cond (.t 19)
    .skip
    (.exit 0)))
   (.block 1
    (.ops [⟨(some 21), none, .move (.t 5)⟩,
      ⟨(some 22), none, .call (.c (.func (.func 75) #[] #[])) [(.t 21)]⟩,
      ⟨(some 20), none, .move (.t 22)⟩,
      ⟨(some 23), none, .extract (.t 20) 0⟩,
      ⟨(some 24), none, .extract (.t 20) 1⟩,
      ⟨(some 7), none, .move (.t 23)⟩,
      ⟨(some 6), none, .move (.t 24)⟩] (some [5, 6, 7])))))))
 (.seq (.seq (.ops [⟨(some 25), none, .move (.t 6)⟩,
   ⟨(some 26), none, .bin .neq 28 (.t 25) (.c (.int .i64 0))⟩] (some [26]))
 (.cond (.t 26)
  (.seq (.ops [⟨(some 4), none, .move (.c (.int .i64 19))⟩] (some [4]))
  .ret)
  .skip))
 (.seq (.ops [⟨(some 4), none, .move (.c (.int .i64 0))⟩] (some [4]))
 .ret))))), [.tmp 4]⟩

theorem is63 : FnIs Tryz.prog 63 x63 := ⟨Tryz.f63, _, Tryz.func63, by kernel_rfl, rfl, by kernel_rfl, by decide, by kernel_rfl⟩

/-- cloisonne/room.New -/
def x65 : XDecl := .code ⟨1, 
 (.seq (.ops [⟨(some 1), none, .box (.t 0)⟩,
   ⟨(some 2), none, .move (.c (.pointer none))⟩,
   ⟨(some 3), none, .move (.c (.int .i64 0))⟩] (some [1]))
 (.seq (.ops [⟨(some 4), none, .load true 4 (.t 1)⟩,
   ⟨(some 5), none, .call (.c (.func (.func 95) #[] #[])) [(.t 4), (.c (.int .i64 0))]⟩,
   ⟨(some 6), none, .extract (.t 5) 0⟩,
   ⟨(some 7), none, .extract (.t 5) 1⟩,
   ⟨(some 2), none, .move (.t 6)⟩,
   ⟨(some 3), none, .move (.t 7)⟩] (some [2, 3]))
 .ret)), [.tmp 2, .tmp 3]⟩

theorem is65 : FnIs Tryz.prog 65 x65 := ⟨Tryz.f65, _, Tryz.func65, by kernel_rfl, rfl, by kernel_rfl, by decide, by kernel_rfl⟩

/-- cloisonne/record.Base -/
def x66 : XDecl := .code ⟨2, 
 (.seq (.ops [⟨(some 4), none, .move (.c (.string .empty))⟩,
   ⟨(some 5), none, .alloc [(.int .i64 0)]⟩] (some [0, 1, 5]))
 (.seq (.ops [⟨none, none, .dfr [(.t 5), (.c (.int .i64 1))]⟩] (some [0, 1, 5]))
 (.seq (.ops [⟨(some 9), none, .move (.t 0)⟩,
   ⟨(some 10), none, .move (.t 1)⟩,
   ⟨(some 11), none, .call (.c (.func (.func 97) #[] #[])) [(.t 9), (.t 10)]⟩,
   ⟨(some 12), none, .call (.c (.func (.func 96) #[] #[])) [(.t 11)]⟩] (some [0, 1, 5]))
 (.seq (.ops [⟨(some 13), none, .call (.c (.func (.func 88) #[] #[])) [(.c (.int .i64 2))]⟩,
   ⟨(some 14), none, .move (.t 0)⟩,
   ⟨(some 15), none, .call (.c (.func (.func 88) #[] #[])) [(.t 14)]⟩,
   ⟨(some 16), none, .buildSlice [(.int .u64 0), (.string .empty), (.slice none 0 0), (.slice none 0 0)] 4 2 [(0, (.t 13)), (1, (.t 15))]⟩,
   ⟨(some 17), none, .call (.c (.func (.func 87) #[] #[])) [(.c (.string ⟨#[98, 110]⟩)), (.t 16)]⟩,
   ⟨(some 6), none, .move (.t 17)⟩] (some [1, 5, 6]))
 (.seq (.seq (.ops [⟨(some 18), none, .move (.t 1)⟩,
   ⟨(some 19), none, .len (.t 18)⟩,
   ⟨(some 20), none, .move (.c (.int .i64 0))⟩] (some [5, 6, 18, 19, 20]))
 (.block 0
  (.loop
   (.seq (.ops [⟨(some 21), none, .bin .lss 3 (.t 20) (.t 19)⟩] (some [5, 6, 18, 19, 20, 21]))
   (.seq (.cond (.t 21)
    .skip
    (.exit 0))
   (.seq (.block 1
    (.seq (.ops [⟨(some 22), none, .indexAddr 5 (.t 18) (.t 20)⟩,
      ⟨(some 23), none, .load true 5 (.t 22)⟩,
      ⟨(some 8), none, .alloc [(.string .empty), (.int .i64 0), (.bool false), (.string .empty), (.int .u64 0)]⟩,
      ⟨none, none, .store 5 (.t 8) (.t 23)⟩] (some [5, 6, 8, 18, 19, 20]))
    (.opsd [(0, 0, ⟨(some 24), none, .move (.t 6)⟩),
      (1, 0, ⟨(some 25), none, .fieldAddr 1 (.t 8)⟩),
      (2, 2, ⟨(some 26), none, .load false 1 (.t 25)⟩),
      (4, 0, ⟨(some 28), none, .fieldAddr 0 (.t 8)⟩),
      (5, 16, ⟨(some 29), none, .load false 1 (.t 28)⟩),
      (6, 48, ⟨(some 30), none, .build [(.int .u64 0), (.string .empty), (.slice none 0 0), (.slice none 0 0)] [(0, 1), (1, 1), (2, 1), (3, 1)] [(1, (.t 29))]⟩),
      (7, 0, ⟨(some 31), none, .fieldAddr 2 (.t 8)⟩),
      (8, 128, ⟨(some 32), none, .load true 3 (.t 31)⟩),
      (3, 6, ⟨(some 27), none, .call (.c (.func (.func 88) #[] #[])) [(.t 26)]⟩),
      (9, 398, ⟨(some 33), none, .call (.c (.func (.func 98) #[] #[])) [(.t 32), (.c (.bool false))]⟩),
      (10, 910, ⟨(some 34), none, .build [(.int .u64 0), (.string .empty), (.slice none 0 0), (.slice none 0 0)] [(0, 1), (1, 1), (2, 1), (3, 1)] [(1, (.t 33))]⟩),
      (11, 2046, ⟨(some 35), none, .buildSlice [(.int .u64 0), (.string .empty), (.slice none 0 0), (.slice none 0 0)] 4 3 [(0, (.t 27)), (1, (.t 30)), (2, (.t 34))]⟩),
      (12, 4094, ⟨(some 36), none, .call (.c (.func (.func 87) #[] #[])) [(.c (.string ⟨#[110, 116, 116]⟩)), (.t 35)]⟩),
      (13, 8191, ⟨(some 37), none, .bin .add 9 (.t 24) (.t 36)⟩),
      (14, 16383, ⟨(some 6), none, .move (.t 37)⟩)] (some [5, 6, 18, 19, 20]))))
   (.ops [⟨(some 38), none, .bin .add 3 (.t 20) (.c (.int .i64 1))⟩,
     ⟨(some 20), none, .move (.t 38)⟩] (some [5, 6, 18, 19, 20]))))))))
 (.seq (.ops [⟨(some 39), none, .move (.t 6)⟩,
   ⟨(some 4), none, .move (.t 39)⟩,
   ⟨none, none, .store 1 (.t 5) (.c (.int .i64 0))⟩] (some [4, 5]))
 .ret)))))), [.tmp 4, .cell false 1 5]⟩

theorem is66 : FnIs Tryz.prog 66 x66 := ⟨Tryz.f66, _, Tryz.func66, by kernel_rfl, rfl, by kernel_rfl, by decide, by kernel_rfl⟩

/-- (*cloisonne/extent.World).there -/
def x73 : XDecl := .code ⟨2, 
 (.seq (.ops [⟨(some 4), none, .move (.c (.bool false))⟩] (some [0, 1]))
 (.seq (.ops [⟨(some 5), none, .move (.t 0)⟩,
   ⟨(some 6), none, .isNil .ptr true (.t 5)⟩,
   ⟨(some 7), none, .move (.t 6)⟩,
   ⟨(some 8), (some (7, true)), .move (.t 1)⟩,
   ⟨(some 9), (some (7, true)), .bin .geq 3 (.t 8) (.c (.int .i64 0))⟩,
   ⟨(some 10), none, .pick (.t 7) (.t 9) (.c (.bool false))⟩,
   ⟨(some 11), none, .move (.t 10)⟩,
   ⟨(some 12), (some (11, true)), .move (.t 1)⟩,
   ⟨(some 13), (some (11, true)), .move (.t 0)⟩,
   ⟨(some 14), (some (11, true)), .nilCheck (.t 13)⟩,
   ⟨(some 15), (some (11, true)), .fieldAddr 2 (.t 14)⟩,
   ⟨(some 16), (some (11, true)), .load false 1 (.t 15)⟩,
   ⟨(some 17), (some (11, true)), .len (.t 16)⟩,
   ⟨(some 18), (some (11, true)), .bin .lss 3 (.t 12) (.t 17)⟩,
   ⟨(some 19), none, .pick (.t 11) (.t 18) (.c (.bool false))⟩,
   ⟨(some 4), none, .move (.t 19)⟩] (some [4]))
 .ret)), [.tmp 4]⟩

theorem is73 : FnIs Tryz.prog 73 x73 := ⟨Tryz.f73, _, Tryz.func73, by kernel_rfl, rfl, by kernel_rfl, by decide, by kernel_rfl⟩

/-- (*cloisonne/job.Job).end -/
def x74 : XDecl := .code ⟨3, 
 (.seq (.ops [⟨(some 6), none, .move (.c (.int .i64 0))⟩,
   ⟨(some 7), none, .move (.c (.int .i64 0))⟩] (some [0, 1, 2]))
 (.seq (.opsd [(0, 0, ⟨(some 8), none, .move (.t 0)⟩),
   (1, 1, ⟨(some 9), none, .nilCheck (.t 8)⟩),
   (2, 3, ⟨(some 10), none, .fieldAddr 0 (.t 9)⟩),
   (3, 7, ⟨(some 11), none, .load false 1 (.t 10)⟩),
   (4, 0, ⟨(some 12), none, .move (.t 0)⟩),
   (5, 16, ⟨(some 13), none, .nilCheck (.t 12)⟩),
   (6, 48, ⟨(some 14), none, .fieldAddr 2 (.t 13)⟩),
   (7, 112, ⟨(some 15), none, .load false 1 (.t 14)⟩),
   (8, 255, ⟨(some 16), none, .call (.c (.func (.func 8) #[] #[])) [(.t 11), (.t 15)]⟩)] (some [0, 1, 2]))
 (.seq (.ops [⟨(some 17), none, .move (.t 0)⟩,
   ⟨(some 18), none, .move (.t 0)⟩,
   ⟨(some 19), none, .move (.t 2)⟩,
   ⟨(some 20), none, .nilCheck (.t 17)⟩,
   ⟨(some 21), none, .fieldAddr 4 (.t 20)⟩,
   ⟨none, none, .store 1 (.t 21) (.c (.int .i64 3))⟩,
   ⟨(some 22), none, .nilCheck (.t 18)⟩,
   ⟨(some 23), none, .fieldAddr 7 (.t 22)⟩,
   ⟨none, none, .store 1 (.t 23) (.t 19)⟩] (some [0, 1, 2]))
 (.seq (.seq (.ops [⟨(some 24), none, .move (.t 2)⟩,
   ⟨(some 25), none, .bin .eql 28 (.t 24) (.c (.int .i64 0))⟩] (some [0, 1, 25]))
 (.cond (.t 25)
  (.ops [⟨(some 26), none, .move (.t 0)⟩,
    ⟨(some 27), none, .move (.t 1)⟩,
    ⟨(some 28), none, .nilCheck (.t 26)⟩,
    ⟨(some 29), none, .fieldAddr 6 (.t 28)⟩,
    ⟨none, none, .store 1 (.t 29) (.t 27)⟩] (some []))
  .skip))
 (.seq (.ops [⟨(some 6), none, .move (.c (.int .i64 2))⟩,
   ⟨(some 7), none, .move (.c (.int .i64 0))⟩] (some [6, 7]))
 .ret))))), [.tmp 6, .tmp 7]⟩

theorem is74 : FnIs Tryz.prog 74 x74 := ⟨Tryz.f74, _, Tryz.func74, by kernel_rfl, rfl, by kernel_rfl, by decide, by kernel_rfl⟩

/-- (*cloisonne/seglog.Writer).Move -/
def x75 : XDecl := .code ⟨1, 
 (.seq (.ops [⟨(some 2), none, .move (.c (.int .i64 0))⟩,
   ⟨(some 3), none, .move (.c (.int .i64 0))⟩] (some [0]))
 (.seq (.ops [⟨(some 4), none, .move (.c (.int .i64 0))⟩] (some [0]))
 (.seq (.block 0
  (.seq (.ops [⟨(some 8), none, .move (.t 0)⟩,
    ⟨(some 9), none, .isNil .ptr false (.t 8)⟩,
    ⟨(some 7), none, .move (.t 9)⟩] (some [0, 7]))
  (.cond (.t 7)
   (.seq (.ops [⟨(some 2), none, .move (.c (.int .i64 0))⟩,
     ⟨(some 3), none, .move (.c (.int .i64 2))⟩] (some [2, 3]))
   .ret)
   (.seq (.ops [⟨(some 11), none, .move (.t 0)⟩,
     ⟨(some 12), none, .nilCheck (.t 11)⟩,
     ⟨(some 13), none, .fieldAddr 6 (.t 12)⟩,
     ⟨(some 14), none, .load false 1 (.t 13)⟩,
     ⟨(some 10), none, .move (.t 14)⟩] (some [0, 10]))
   (.cond (.t 10)
    (.seq (.ops [⟨(some 2), none, .move (.c (.int .i64 2))⟩,
      ⟨(some 3), none, .move (.c (.int .i64 0))⟩] (some [2, 3]))
    .ret)
    (.seq (.opsr [⟨(some 16), none, .move (.t 0)⟩,
      ⟨(some 17), none, .nilCheck (.t 16)⟩,
      ⟨(some 18), none, .fieldAddr 5 (.t 17)⟩,
      ⟨(some 19), none, .load false 1 (.t 18)⟩,
      ⟨(some 20), none, .move (.t 0)⟩,
      ⟨(some 21), none, .nilCheck (.t 20)⟩,
      ⟨(some 22), none, .fieldAddr 4 (.t 21)⟩,
      ⟨(some 23), none, .load false 1 (.t 22)⟩,
      ⟨(some 24), none, .len (.t 23)⟩,
      ⟨(some 25), none, .bin .lss 3 (.t 19) (.t 24)⟩,
      ⟨(some 15), none, .move (.t 25)⟩] (some [0, 15]))
    (.cond (.t 15)
     (.ops [⟨(some 26), none, .move (.t 0)⟩,
       ⟨(some 27), none, .call (.c (.func (.func 106) #[] #[])) [(.t 26)]⟩,
       ⟨(some 4), none, .move (.t 27)⟩] (some [0, 4]))
     (.seq (.opsr [⟨(some 29), none, .move (.t 0)⟩,
       ⟨(some 30), none, .nilCheck (.t 29)⟩,
       ⟨(some 31), none, .fieldAddr 5 (.t 30)⟩,
       ⟨(some 32), none, .load false 1 (.t 31)⟩,
       ⟨(some 33), none, .move (.t 0)⟩,
       ⟨(some 34), none, .nilCheck (.t 33)⟩,
       ⟨(some 35), none, .fieldAddr 4 (.t 34)⟩,
       ⟨(some 36), none, .load false 1 (.t 35)⟩,
       ⟨(some 37), none, .len (.t 36)⟩,
       ⟨(some 38), none, .bin .eql 3 (.t 32) (.t 37)⟩,
       ⟨(some 28), none, .move (.t 38)⟩] (some [0, 28]))
     (.cond (.t 28)
      (.opsd [(0, 0, ⟨(some 39), none, .move (.t 0)⟩),
        (1, 1, ⟨(some 40), none, .nilCheck (.t 39)⟩),
        (2, 3, ⟨(some 41), none, .fieldAddr 0 (.t 40)⟩),
        (3, 7, ⟨(some 42), none, .load false 1 (.t 41)⟩),
        (4, 15, ⟨(some 43), none, .nilCheck (.t 42)⟩),
        (5, 31, ⟨(some 44), none, .fieldAddr 0 (.t 43)⟩),
        (6, 63, ⟨(some 45), none, .load false 1 (.t 44)⟩),
        (7, 0, ⟨(some 46), none, .move (.t 0)⟩),
        (8, 128, ⟨(some 47), none, .nilCheck (.t 46)⟩),
        (9, 384, ⟨(some 48), none, .fieldAddr 1 (.t 47)⟩),
        (10, 896, ⟨(some 49), none, .load false 1 (.t 48)⟩),
        (11, 2047, ⟨(some 50), none, .call (.c (.func (.func 107) #[] #[])) [(.t 45), (.t 49)]⟩),
        (12, 4095, ⟨(some 4), none, .move (.t 50)⟩)] (some [0, 4]))
      (.seq (.ops [⟨(some 5), none, .move (.t 0)⟩,
        ⟨(some 6), none, .call (.c (.func (.func 108) #[] #[])) [(.t 5)]⟩] (some []))
      (.seq (.ops [⟨(some 2), none, .move (.c (.int .i64 2))⟩,
        ⟨(some 3), none, .move (.c (.int .i64 0))⟩] (some [2, 3]))
      .ret)))))))))))
 (.seq (.seq (.ops [⟨(some 51), none, .move (.t 4)⟩,
   ⟨(some 52), none, .bin .neq 28 (.t 51) (.c (.int .i64 0))⟩] (some [0, 4, 52]))
 (.cond (.t 52)
  (.seq (.ops [⟨(some 53), none, .move (.t 4)⟩,
    ⟨(some 2), none, .move (.c (.int .i64 0))⟩,
    ⟨(some 3), none, .move (.t 53)⟩] (some [2, 3]))
  .ret)
  .skip))
 (.seq (.ops [⟨(some 54), none, .move (.t 0)⟩,
   ⟨(some 55), none, .nilCheck (.t 54)⟩,
   ⟨(some 56), none, .fieldAddr 5 (.t 55)⟩,
   ⟨(some 57), none, .load false 1 (.t 56)⟩,
   ⟨(some 58), none, .bin .add 3 (.t 57) (.c (.int .i64 1))⟩,
   ⟨(some 59), none, .nilCheck (.t 54)⟩,
   ⟨(some 60), none, .fieldAddr 5 (.t 59)⟩,
   ⟨none, none, .store 1 (.t 60) (.t 58)⟩] (some []))
 (.seq (.ops [⟨(some 2), none, .move (.c (.int .i64 1))⟩,
   ⟨(some 3), none, .move (.c (.int .i64 0))⟩] (some [2, 3]))
 .ret)))))), [.tmp 2, .tmp 3]⟩

theorem is75 : FnIs Tryz.prog 75 x75 := ⟨Tryz.f75, _, Tryz.func75, by kernel_rfl, rfl, by kernel_rfl, by decide, by kernel_rfl⟩

/-- cloisonne/room.key -/
def x76 : XDecl := .code ⟨1, 
 (.seq (.ops [⟨(some 2), none, .move (.c (.bool false))⟩] (some [0]))
 (.seq (.ops [⟨(some 3), none, .move (.t 0)⟩,
   ⟨(some 4), none, .calcB .len [9] 3 [(.t 3)]⟩,
   ⟨(some 5), none, .call (.c (.func (.func 78) #[] #[])) [(.t 4), (.c (.int .i64 1)), (.c (.int .i64 32))]⟩,
   ⟨(some 2), none, .move (.t 5)⟩] (some [2]))
 .ret)), [.tmp 2]⟩

theorem is76 : FnIs Tryz.prog 76 x76 := ⟨Tryz.f76, _, Tryz.func76, by kernel_rfl, rfl, by kernel_rfl, by decide, by kernel_rfl⟩

/-- cloisonne/value.Right -/
def x77 : XDecl := .code ⟨1, 
 (.seq (.ops [⟨(some 1), none, .box (.t 0)⟩,
   ⟨(some 2), none, .move (.c (.bool false))⟩] (some [1]))
 (.seq (.seq (.ops [⟨(some 3), none, .fieldAddr 0 (.t 1)⟩,
   ⟨(some 4), none, .load false 1 (.t 3)⟩] (some [1, 4]))
 (.cond (.t 4)
  (.seq (.opsd [(0, 0, ⟨(some 5), none, .fieldAddr 1 (.t 1)⟩),
    (1, 1, ⟨(some 6), none, .load false 1 (.t 5)⟩),
    (2, 3, ⟨(some 7), none, .bin .eql 9 (.t 6) (.c (.string .empty))⟩),
    (3, 7, ⟨(some 8), none, .move (.t 7)⟩),
    (4, 15, ⟨(some 9), (some (8, true)), .fieldAddr 2 (.t 1)⟩),
    (5, 31, ⟨(some 10), (some (8, true)), .load false 1 (.t 9)⟩),
    (8, 15, ⟨(some 13), (some (8, true)), .fieldAddr 2 (.t 1)⟩),
    (9, 271, ⟨(some 14), (some (8, true)), .load false 1 (.t 13)⟩),
    (6, 63, ⟨(some 11), (some (8, true)), .call (.c (.func (.func 110) #[] #[])) [(.t 10)]⟩),
    (7, 127, ⟨(some 12), (some (8, true)), .call (.c (.func (.func 109) #[] #[])) [(.t 11)]⟩),
    (10, 1023, ⟨(some 15), (some (8, true)), .bin .eql 40 (.t 12) (.t 14)⟩),
    (11, 2047, ⟨(some 16), none, .pick (.t 8) (.t 15) (.c (.bool false))⟩),
    (12, 4095, ⟨(some 2), none, .move (.t 16)⟩)] (some [2]))
  .ret)
  .skip))
 (.seq (.ops [⟨(some 17), none, .fieldAddr 2 (.t 1)⟩,
   ⟨(some 18), none, .load false 1 (.t 17)⟩,
   ⟨(some 19), none, .bin .eql 40 (.t 18) (.c (.int .u64 0))⟩,
   ⟨(some 20), none, .move (.t 19)⟩,
   ⟨(some 21), (some (20, true)), .fieldAddr 1 (.t 1)⟩,
   ⟨(some 22), (some (20, true)), .load false 1 (.t 21)⟩,
   ⟨(some 23), (some (20, true)), .calcB .len [9] 3 [(.t 22)]⟩,
   ⟨(some 24), (some (20, true)), .bin .leq 3 (.t 23) (.c (.int .i64 64))⟩,
   ⟨(some 25), none, .pick (.t 20) (.t 24) (.c (.bool false))⟩,
   ⟨(some 2), none, .move (.t 25)⟩] (some [2]))
 .ret))), [.tmp 2]⟩

theorem is77 : FnIs Tryz.prog 77 x77 := ⟨Tryz.f77, _, Tryz.func77, by kernel_rfl, rfl, by kernel_rfl, by decide, by kernel_rfl⟩

/-- cloisonne/room.within -/
def x78 : XDecl := .code ⟨3, 
 (.seq (.ops [⟨(some 6), none, .move (.c (.bool false))⟩] (some [0, 1, 2]))
 (.seq (.ops [⟨(some 7), none, .move (.t 0)⟩,
   ⟨(some 8), none, .move (.t 1)⟩,
   ⟨(some 9), none, .bin .geq 3 (.t 7) (.t 8)⟩,
   ⟨(some 10), none, .move (.t 9)⟩,
   ⟨(some 11), (some (10, true)), .move (.t 0)⟩,
   ⟨(some 12), (some (10, true)), .move (.t 2)⟩,
   ⟨(some 13), (some (10, true)), .bin .leq 3 (.t 11) (.t 12)⟩,
   ⟨(some 14), none, .pick (.t 10) (.t 13) (.c (.bool false))⟩,
   ⟨(some 6), none, .move (.t 14)⟩] (some [6]))
 .ret)), [.tmp 6]⟩

theorem is78 : FnIs Tryz.prog 78 x78 := ⟨Tryz.f78, _, Tryz.func78, by kernel_rfl, rfl, by kernel_rfl, by decide, by kernel_rfl⟩

/-- cmp.Or[int] -/
def x79 : XDecl := .code ⟨1, 
 (.seq (.ops [⟨(some 2), none, .move (.c (.int .i64 0))⟩] (some [0]))
 (.seq (.ops [⟨(some 3), none, .move (.c (.int .i64 0))⟩] (some [0, 3]))
 (.seq (.seq (.ops [⟨(some 6), none, .move (.t 0)⟩,
   ⟨(some 7), none, .len (.t 6)⟩,
   ⟨(some 8), none, .move (.c (.int .i64 0))⟩] (some [3, 6, 7, 8]))
 (.block 0
  (.loop
   (.seq (.ops [⟨(some 9), none, .bin .lss 3 (.t 8) (.t 7)⟩] (some [3, 6, 7, 8, 9]))
   (.seq (.cond (.t 9)
    .skip
    (.exit 0))
   (.seq (.block 1
    (.seq (.ops [⟨(some 10), none, .indexAddr 1 (.t 6) (.t 8)⟩,
      ⟨(some 11), none, .load false 1 (.t 10)⟩,
      ⟨(some 5), none, .move (.t 11)⟩] (some [3, 5, 6, 7, 8]))
    (.seq (.ops [⟨(some 12), none, .move (.t 5)⟩,
      ⟨(some 13), none, .move (.t 3)⟩,
      ⟨(some 14), none, .bin .neq 3 (.t 12) (.t 13)⟩] (some [3, 5, 6, 7, 8, 14]))
    (.cond (.t 14)
     (.seq (.ops [⟨(some 15), none, .move (.t 5)⟩,
       ⟨(some 2), none, .move (.t 15)⟩] (some [2]))
     .ret)
     .skip))))
   (.ops [⟨(some 16), none, .bin .add 3 (.t 8) (.c (.int .i64 1))⟩,
     ⟨(some 8), none, .move (.t 16)⟩] (some [3, 6, 7, 8]))))))))
 (.seq (.ops [⟨(some 17), none, .move (.t 3)⟩,
   ⟨(some 2), none, .move (.t 17)⟩] (some [2]))
 .ret)))), [.tmp 2]⟩

theorem is79 : FnIs Tryz.prog 79 x79 := ⟨Tryz.f79, _, Tryz.func79, by kernel_rfl, rfl, by kernel_rfl, by decide, by kernel_rfl⟩


end Go.Proofs.YtepadpjpmmaodaaGreatDoor.X
