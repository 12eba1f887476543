/-
  Own work, printed by a program of ours (mkprog.py): the functions of this seat as code of the abstract run, and that each is the model's.
-/
import Derived.Test.YtlldfkapaeidoaaXLaw
import Derived.Test.YtlldfkapaeidoaaChecked
set_option maxRecDepth 100000
namespace Go.Proofs.Ytlldfkapaeidoaa.X
open Go

/-- cloisonne/cloisonnelaw30.DiffApplies -/
def x3 : XDecl := .code ⟨3, 
 (.seq (.ops [⟨(some 6), none, .move (.c (.bool false))⟩] (some [0, 1, 2]))
 (.seq (.seq (.ops [⟨(some 12), none, .call (.c (.func (.func 7) #[] #[])) []⟩,
   ⟨(some 13), none, .un .not (.t 12)⟩] (some [0, 1, 2, 13]))
 (.cond (.t 13)
  (.seq (.ops [⟨(some 6), none, .move (.c (.bool false))⟩] (some [6]))
  .ret)
  .skip))
 (.seq (.seq (.ops [⟨(some 14), none, .move (.t 0)⟩,
   ⟨(some 15), none, .call (.c (.func (.func 8) #[] #[])) [(.t 14)]⟩,
   ⟨(some 16), none, .move (.t 15)⟩,
   ⟨(some 17), (some (16, false)), .move (.t 1)⟩,
   ⟨(some 18), (some (16, false)), .call (.c (.func (.func 9) #[] #[])) [(.t 17)]⟩,
   ⟨(some 19), none, .pick (.t 16) (.c (.bool true)) (.t 18)⟩] (some [0, 1, 2, 19]))
 (.cond (.t 19)
  (.seq (.ops [⟨(some 6), none, .move (.c (.bool true))⟩] (some [6]))
  .ret)
  .skip))
 (.seq (.ops [⟨(some 20), none, .buildSlice [(.string .empty), (.int .i64 0), (.bool false), (.string .empty), (.int .u64 0)] 5 0 []⟩,
   ⟨(some 21), none, .move (.t 0)⟩,
   ⟨(some 22), none, .append 5 56 [(.string .empty), (.int .i64 0), (.bool false), (.string .empty), (.int .u64 0)] (.t 20) (.t 21)⟩,
   ⟨(some 7), none, .move (.t 22)⟩] (some [0, 1, 2, 7]))
 (.seq (.ops [⟨(some 24), none, .move (.t 0)⟩,
   ⟨(some 25), none, .move (.t 1)⟩,
   ⟨(some 26), none, .move (.t 2)⟩,
   ⟨(some 27), none, .call (.c (.func (.func 10) #[] #[])) [(.t 24), (.t 25), (.t 26)]⟩,
   ⟨(some 23), none, .move (.t 27)⟩,
   ⟨(some 28), none, .extract (.t 23) 0⟩,
   ⟨(some 29), none, .extract (.t 23) 1⟩,
   ⟨(some 8), none, .move (.t 28)⟩,
   ⟨(some 9), none, .move (.t 29)⟩] (some [0, 1, 2, 7, 8, 9]))
 (.seq (.seq (.ops [⟨(some 30), none, .move (.t 7)⟩,
   ⟨(some 31), none, .move (.t 0)⟩,
   ⟨(some 32), none, .call (.c (.func (.func 11) #[] #[])) [(.t 30), (.t 31)]⟩,
   ⟨(some 33), none, .un .not (.t 32)⟩] (some [0, 1, 2, 8, 9, 33]))
 (.cond (.t 33)
  (.seq (.ops [⟨(some 6), none, .move (.c (.bool false))⟩] (some [6]))
  .ret)
  .skip))
 (.seq (.seq (.ops [⟨(some 34), none, .move (.t 0)⟩,
   ⟨(some 35), none, .call (.c (.func (.func 12) #[] #[])) [(.t 34)]⟩,
   ⟨(some 36), none, .un .not (.t 35)⟩,
   ⟨(some 37), none, .move (.t 36)⟩,
   ⟨(some 38), (some (37, false)), .move (.t 1)⟩,
   ⟨(some 39), (some (37, false)), .call (.c (.func (.func 13) #[] #[])) [(.t 38)]⟩,
   ⟨(some 40), (some (37, false)), .un .not (.t 39)⟩,
   ⟨(some 41), none, .pick (.t 37) (.c (.bool true)) (.t 40)⟩,
   ⟨(some 42), none, .move (.t 41)⟩,
   ⟨(some 43), (some (42, false)), .move (.t 2)⟩,
   ⟨(some 44), (some (42, false)), .bin .lss 3 (.t 43) (.c (.int .i64 1))⟩,
   ⟨(some 45), none, .pick (.t 42) (.c (.bool true)) (.t 44)⟩] (some [0, 1, 2, 8, 9, 45]))
 (.cond (.t 45)
  (.seq (.ops [⟨(some 46), none, .move (.t 8)⟩,
    ⟨(some 47), none, .len (.t 46)⟩,
    ⟨(some 48), none, .bin .eql 3 (.t 47) (.c (.int .i64 0))⟩,
    ⟨(some 49), none, .move (.t 48)⟩,
    ⟨(some 50), (some (49, true)), .move (.t 9)⟩,
    ⟨(some 51), (some (49, true)), .bin .eql 27 (.t 50) (.c (.int .i64 1))⟩,
    ⟨(some 52), none, .pick (.t 49) (.t 51) (.c (.bool false))⟩,
    ⟨(some 6), none, .move (.t 52)⟩] (some [6]))
  .ret)
  .skip))
 (.seq (.ops [⟨(some 53), none, .move (.t 0)⟩,
   ⟨(some 10), none, .move (.t 53)⟩] (some [1, 2, 8, 9, 10]))
 (.seq (.seq (.ops [⟨(some 11), none, .move (.c (.int .i64 0))⟩] (some [1, 2, 8, 9, 10, 11]))
 (.block 0
  (.loop
   (.seq (.seq (.ops [⟨(some 54), none, .move (.t 11)⟩,
     ⟨(some 55), none, .move (.t 1)⟩,
     ⟨(some 56), none, .len (.t 55)⟩,
     ⟨(some 57), none, .bin .lss 3 (.t 54) (.t 56)⟩] (some [1, 2, 8, 9, 10, 11, 57]))
   (.cond (.t 57)
    .skip
    (.exit 0)))
   (.seq (.block 1
    (.ops [⟨(some 60), none, .move (.t 10)⟩,
      ⟨(some 61), none, .move (.t 1)⟩,
      ⟨(some 62), none, .move (.t 11)⟩,
      ⟨(some 63), none, .indexAddr 5 (.t 61) (.t 62)⟩,
      ⟨(some 64), none, .load true 5 (.t 63)⟩,
      ⟨(some 65), none, .move (.t 2)⟩,
      ⟨(some 66), none, .call (.c (.func (.func 14) #[] #[])) [(.t 60), (.t 64), (.t 65)]⟩,
      ⟨(some 10), none, .move (.t 66)⟩] (some [1, 2, 8, 9, 10, 11])))
   (.ops [⟨(some 58), none, .move (.t 11)⟩,
     ⟨(some 59), none, .bin .add 3 (.t 58) (.c (.int .i64 1))⟩,
     ⟨(some 11), none, .move (.t 59)⟩] (some [1, 2, 8, 9, 10, 11])))))))
 (.seq (.ops [⟨(some 67), none, .move (.t 8)⟩,
   ⟨(some 68), none, .move (.t 10)⟩,
   ⟨(some 69), none, .call (.c (.func (.func 11) #[] #[])) [(.t 67), (.t 68)]⟩,
   ⟨(some 70), none, .move (.t 69)⟩,
   ⟨(some 71), (some (70, true)), .move (.t 9)⟩,
   ⟨(some 72), (some (70, true)), .bin .eql 27 (.t 71) (.c (.int .i64 0))⟩,
   ⟨(some 73), none, .pick (.t 70) (.t 72) (.c (.bool false))⟩,
   ⟨(some 6), none, .move (.t 73)⟩] (some [6]))
 .ret)))))))))), [.tmp 6]⟩

theorem is3 : FnIs Try.prog 3 x3 := ⟨Try.f3, _, Try.func3, by kernel_rfl, rfl, by kernel_rfl, by decide, by kernel_rfl⟩

/-- cloisonne/cloisonnelaw30.DiffBase -/
def x4 : XDecl := .code ⟨2, 
 (.seq (.ops [⟨(some 4), none, .move (.c (.bool false))⟩] (some [0, 1]))
 (.seq (.seq (.ops [⟨(some 11), none, .call (.c (.func (.func 7) #[] #[])) []⟩,
   ⟨(some 12), none, .un .not (.t 11)⟩] (some [0, 1, 12]))
 (.cond (.t 12)
  (.seq (.ops [⟨(some 4), none, .move (.c (.bool false))⟩] (some [4]))
  .ret)
  .skip))
 (.seq (.seq (.ops [⟨(some 13), none, .move (.t 0)⟩,
   ⟨(some 14), none, .call (.c (.func (.func 8) #[] #[])) [(.t 13)]⟩,
   ⟨(some 15), none, .move (.t 14)⟩,
   ⟨(some 16), (some (15, false)), .move (.t 1)⟩,
   ⟨(some 17), (some (15, false)), .call (.c (.func (.func 8) #[] #[])) [(.t 16)]⟩,
   ⟨(some 18), none, .pick (.t 15) (.c (.bool true)) (.t 17)⟩,
   ⟨(some 19), none, .move (.t 18)⟩,
   ⟨(some 20), (some (19, false)), .move (.t 0)⟩,
   ⟨(some 21), (some (19, false)), .call (.c (.func (.func 12) #[] #[])) [(.t 20)]⟩,
   ⟨(some 22), (some (19, false)), .un .not (.t 21)⟩,
   ⟨(some 23), none, .pick (.t 19) (.c (.bool true)) (.t 22)⟩,
   ⟨(some 24), none, .move (.t 23)⟩,
   ⟨(some 25), (some (24, false)), .move (.t 1)⟩,
   ⟨(some 26), (some (24, false)), .call (.c (.func (.func 12) #[] #[])) [(.t 25)]⟩,
   ⟨(some 27), (some (24, false)), .un .not (.t 26)⟩,
   ⟨(some 28), none, .pick (.t 24) (.c (.bool true)) (.t 27)⟩] (some [0, 1, 28]))
 (.cond (.t 28)
  (.seq (.ops [⟨(some 4), none, .move (.c (.bool true))⟩] (some [4]))
  .ret)
  .skip))
 (.seq (.ops [⟨(some 30), none, .move (.t 0)⟩,
   ⟨(some 31), none, .move (.t 1)⟩,
   ⟨(some 32), none, .move (.t 0)⟩,
   ⟨(some 33), none, .call (.c (.func (.func 15) #[] #[])) [(.t 30), (.t 31), (.t 32)]⟩,
   ⟨(some 29), none, .move (.t 33)⟩,
   ⟨(some 34), none, .extract (.t 29) 0⟩,
   ⟨(some 35), none, .extract (.t 29) 1⟩,
   ⟨(some 36), none, .extract (.t 29) 2⟩,
   ⟨(some 5), none, .move (.t 34)⟩,
   ⟨(some 6), none, .move (.t 35)⟩,
   ⟨(some 7), none, .move (.t 36)⟩] (some [0, 1, 5, 6, 7]))
 (.seq (.ops [⟨(some 38), none, .move (.t 0)⟩,
   ⟨(some 39), none, .move (.t 1)⟩,
   ⟨(some 40), none, .move (.t 1)⟩,
   ⟨(some 41), none, .call (.c (.func (.func 15) #[] #[])) [(.t 38), (.t 39), (.t 40)]⟩,
   ⟨(some 37), none, .move (.t 41)⟩,
   ⟨(some 42), none, .extract (.t 37) 0⟩,
   ⟨(some 43), none, .extract (.t 37) 1⟩,
   ⟨(some 44), none, .extract (.t 37) 2⟩,
   ⟨(some 8), none, .move (.t 42)⟩,
   ⟨(some 9), none, .move (.t 43)⟩,
   ⟨(some 10), none, .move (.t 44)⟩] (some [0, 1, 5, 6, 7, 8, 9, 10]))
 (.seq (.ops [⟨(some 45), none, .move (.t 7)⟩,
   ⟨(some 46), none, .bin .eql 27 (.t 45) (.c (.int .i64 0))⟩,
   ⟨(some 47), none, .move (.t 46)⟩,
   ⟨(some 48), (some (47, true)), .move (.t 10)⟩,
   ⟨(some 49), (some (47, true)), .bin .eql 27 (.t 48) (.c (.int .i64 0))⟩,
   ⟨(some 50), none, .pick (.t 47) (.t 49) (.c (.bool false))⟩,
   ⟨(some 51), none, .move (.t 50)⟩,
   ⟨(some 52), (some (51, true)), .move (.t 5)⟩,
   ⟨(some 53), (some (51, true)), .move (.t 0)⟩,
   ⟨(some 54), (some (51, true)), .move (.t 1)⟩,
   ⟨(some 55), (some (51, true)), .call (.c (.func (.func 17) #[] #[])) [(.t 53), (.t 54)]⟩,
   ⟨(some 56), (some (51, true)), .call (.c (.func (.func 16) #[] #[])) [(.t 52), (.t 55)]⟩,
   ⟨(some 57), none, .pick (.t 51) (.t 56) (.c (.bool false))⟩,
   ⟨(some 58), none, .move (.t 57)⟩,
   ⟨(some 59), (some (58, true)), .move (.t 6)⟩,
   ⟨(some 60), (some (58, true)), .len (.t 59)⟩,
   ⟨(some 61), (some (58, true)), .bin .eql 3 (.t 60) (.c (.int .i64 0))⟩,
   ⟨(some 62), none, .pick (.t 58) (.t 61) (.c (.bool false))⟩,
   ⟨(some 63), none, .move (.t 62)⟩,
   ⟨(some 64), (some (63, true)), .move (.t 8)⟩,
   ⟨(some 65), (some (63, true)), .len (.t 64)⟩,
   ⟨(some 66), (some (63, true)), .bin .eql 3 (.t 65) (.c (.int .i64 0))⟩,
   ⟨(some 67), none, .pick (.t 63) (.t 66) (.c (.bool false))⟩,
   ⟨(some 68), none, .move (.t 67)⟩,
   ⟨(some 69), (some (68, true)), .move (.t 9)⟩,
   ⟨(some 70), (some (68, true)), .len (.t 69)⟩,
   ⟨(some 71), (some (68, true)), .bin .eql 3 (.t 70) (.c (.int .i64 0))⟩,
   ⟨(some 72), none, .pick (.t 68) (.t 71) (.c (.bool false))⟩,
   ⟨(some 4), none, .move (.t 72)⟩] (some [4]))
 .ret)))))), [.tmp 4]⟩

theorem is4 : FnIs Try.prog 4 x4 := ⟨Try.f4, _, Try.func4, by kernel_rfl, rfl, by kernel_rfl, by decide, by kernel_rfl⟩

/-- cloisonne/cloisonnelaw30.DiffMerges -/
def x5 : XDecl := .code ⟨3, 
 (.seq (.ops [⟨(some 6), none, .move (.c (.bool false))⟩] (some [0, 1, 2]))
 (.seq (.seq (.ops [⟨(some 28), none, .call (.c (.func (.func 7) #[] #[])) []⟩,
   ⟨(some 29), none, .un .not (.t 28)⟩] (some [0, 1, 2, 29]))
 (.cond (.t 29)
  (.seq (.ops [⟨(some 6), none, .move (.c (.bool false))⟩] (some [6]))
  .ret)
  .skip))
 (.seq (.seq (.ops [⟨(some 30), none, .move (.t 0)⟩,
   ⟨(some 31), none, .call (.c (.func (.func 8) #[] #[])) [(.t 30)]⟩,
   ⟨(some 32), none, .move (.t 31)⟩,
   ⟨(some 33), (some (32, false)), .move (.t 1)⟩,
   ⟨(some 34), (some (32, false)), .call (.c (.func (.func 8) #[] #[])) [(.t 33)]⟩,
   ⟨(some 35), none, .pick (.t 32) (.c (.bool true)) (.t 34)⟩,
   ⟨(some 36), none, .move (.t 35)⟩,
   ⟨(some 37), (some (36, false)), .move (.t 2)⟩,
   ⟨(some 38), (some (36, false)), .call (.c (.func (.func 8) #[] #[])) [(.t 37)]⟩,
   ⟨(some 39), none, .pick (.t 36) (.c (.bool true)) (.t 38)⟩] (some [0, 1, 2, 39]))
 (.cond (.t 39)
  (.seq (.ops [⟨(some 6), none, .move (.c (.bool true))⟩] (some [6]))
  .ret)
  .skip))
 (.seq (.ops [⟨(some 41), none, .move (.t 0)⟩,
   ⟨(some 42), none, .move (.t 1)⟩,
   ⟨(some 43), none, .move (.t 2)⟩,
   ⟨(some 44), none, .call (.c (.func (.func 15) #[] #[])) [(.t 41), (.t 42), (.t 43)]⟩,
   ⟨(some 40), none, .move (.t 44)⟩,
   ⟨(some 45), none, .extract (.t 40) 0⟩,
   ⟨(some 46), none, .extract (.t 40) 1⟩,
   ⟨(some 47), none, .extract (.t 40) 2⟩,
   ⟨(some 7), none, .move (.t 45)⟩,
   ⟨(some 8), none, .move (.t 46)⟩,
   ⟨(some 9), none, .move (.t 47)⟩] (some [0, 1, 2, 7, 8, 9]))
 (.seq (.seq (.ops [⟨(some 48), none, .move (.t 0)⟩,
   ⟨(some 49), none, .call (.c (.func (.func 12) #[] #[])) [(.t 48)]⟩,
   ⟨(some 50), none, .un .not (.t 49)⟩,
   ⟨(some 51), none, .move (.t 50)⟩,
   ⟨(some 52), (some (51, false)), .move (.t 1)⟩,
   ⟨(some 53), (some (51, false)), .call (.c (.func (.func 12) #[] #[])) [(.t 52)]⟩,
   ⟨(some 54), (some (51, false)), .un .not (.t 53)⟩,
   ⟨(some 55), none, .pick (.t 51) (.c (.bool true)) (.t 54)⟩,
   ⟨(some 56), none, .move (.t 55)⟩,
   ⟨(some 57), (some (56, false)), .move (.t 2)⟩,
   ⟨(some 58), (some (56, false)), .call (.c (.func (.func 12) #[] #[])) [(.t 57)]⟩,
   ⟨(some 59), (some (56, false)), .un .not (.t 58)⟩,
   ⟨(some 60), none, .pick (.t 56) (.c (.bool true)) (.t 59)⟩] (some [0, 1, 2, 7, 8, 9, 60]))
 (.cond (.t 60)
  (.seq (.ops [⟨(some 61), none, .move (.t 7)⟩,
    ⟨(some 62), none, .len (.t 61)⟩,
    ⟨(some 63), none, .bin .eql 3 (.t 62) (.c (.int .i64 0))⟩,
    ⟨(some 64), none, .move (.t 63)⟩,
    ⟨(some 65), (some (64, true)), .move (.t 8)⟩,
    ⟨(some 66), (some (64, true)), .len (.t 65)⟩,
    ⟨(some 67), (some (64, true)), .bin .eql 3 (.t 66) (.c (.int .i64 0))⟩,
    ⟨(some 68), none, .pick (.t 64) (.t 67) (.c (.bool false))⟩,
    ⟨(some 69), none, .move (.t 68)⟩,
    ⟨(some 70), (some (69, true)), .move (.t 9)⟩,
    ⟨(some 71), (some (69, true)), .bin .eql 27 (.t 70) (.c (.int .i64 1))⟩,
    ⟨(some 72), none, .pick (.t 69) (.t 71) (.c (.bool false))⟩,
    ⟨(some 6), none, .move (.t 72)⟩] (some [6]))
  .ret)
  .skip))
 (.seq (.ops [⟨(some 74), none, .move (.t 2)⟩,
   ⟨(some 75), none, .move (.t 7)⟩,
   ⟨(some 76), none, .call (.c (.func (.func 10) #[] #[])) [(.t 74), (.t 75), (.c (.int .i64 1))]⟩,
   ⟨(some 73), none, .move (.t 76)⟩,
   ⟨(some 77), none, .extract (.t 73) 0⟩,
   ⟨(some 78), none, .extract (.t 73) 1⟩,
   ⟨(some 10), none, .move (.t 77)⟩,
   ⟨(some 11), none, .move (.t 78)⟩] (some [0, 1, 2, 8, 9, 10, 11]))
 (.seq (.seq (.ops [⟨(some 79), none, .move (.t 9)⟩,
   ⟨(some 80), none, .bin .neq 27 (.t 79) (.c (.int .i64 0))⟩,
   ⟨(some 81), none, .move (.t 80)⟩,
   ⟨(some 82), (some (81, false)), .move (.t 11)⟩,
   ⟨(some 83), (some (81, false)), .bin .neq 27 (.t 82) (.c (.int .i64 0))⟩,
   ⟨(some 84), none, .pick (.t 81) (.c (.bool true)) (.t 83)⟩] (some [0, 1, 2, 8, 10, 84]))
 (.cond (.t 84)
  (.seq (.ops [⟨(some 6), none, .move (.c (.bool false))⟩] (some [6]))
  .ret)
  .skip))
 (.seq (.ops [⟨(some 85), none, .buildSlice [(.string .empty)] 1 0 []⟩,
   ⟨(some 86), none, .move (.t 0)⟩,
   ⟨(some 87), none, .call (.c (.func (.func 18) #[] #[])) [(.t 85), (.t 86)]⟩,
   ⟨(some 88), none, .move (.t 1)⟩,
   ⟨(some 89), none, .call (.c (.func (.func 18) #[] #[])) [(.t 87), (.t 88)]⟩,
   ⟨(some 90), none, .move (.t 2)⟩,
   ⟨(some 91), none, .call (.c (.func (.func 18) #[] #[])) [(.t 89), (.t 90)]⟩,
   ⟨(some 12), none, .move (.t 91)⟩] (some [0, 1, 2, 8, 10, 12]))
 (.seq (.ops [⟨(some 13), none, .move (.c (.int .i64 0))⟩] (some [0, 1, 2, 8, 10, 12, 13]))
 (.seq (.seq (.ops [⟨(some 14), none, .move (.c (.int .i64 0))⟩] (some [0, 1, 2, 8, 10, 12, 13, 14]))
 (.block 0
  (.loop
   (.seq (.seq (.ops [⟨(some 92), none, .move (.t 14)⟩,
     ⟨(some 93), none, .move (.t 12)⟩,
     ⟨(some 94), none, .len (.t 93)⟩,
     ⟨(some 95), none, .bin .lss 3 (.t 92) (.t 94)⟩] (some [0, 1, 2, 8, 10, 12, 13, 14, 95]))
   (.cond (.t 95)
    .skip
    (.exit 0)))
   (.seq (.block 1
    (.seq (.ops [⟨(some 99), none, .move (.t 0)⟩,
      ⟨(some 100), none, .move (.t 1)⟩,
      ⟨(some 101), none, .move (.t 12)⟩,
      ⟨(some 102), none, .move (.t 14)⟩,
      ⟨(some 103), none, .indexAddr 1 (.t 101) (.t 102)⟩,
      ⟨(some 104), none, .load false 1 (.t 103)⟩,
      ⟨(some 105), none, .call (.c (.func (.func 19) #[] #[])) [(.t 99), (.t 100), (.t 104)]⟩,
      ⟨(some 98), none, .move (.t 105)⟩,
      ⟨(some 106), none, .extract (.t 98) 0⟩,
      ⟨(some 107), none, .extract (.t 98) 1⟩,
      ⟨(some 15), none, .alloc [(.string .empty), (.bool false), (.bool false), (.string .empty), (.int .u64 0)]⟩,
      ⟨none, none, .store 5 (.t 15) (.t 106)⟩,
      ⟨(some 16), none, .move (.t 107)⟩] (some [0, 1, 2, 8, 10, 12, 13, 14, 15, 16]))
    (.seq (.ops [⟨(some 109), none, .move (.t 0)⟩,
      ⟨(some 110), none, .move (.t 2)⟩,
      ⟨(some 111), none, .move (.t 12)⟩,
      ⟨(some 112), none, .move (.t 14)⟩,
      ⟨(some 113), none, .indexAddr 1 (.t 111) (.t 112)⟩,
      ⟨(some 114), none, .load false 1 (.t 113)⟩,
      ⟨(some 115), none, .call (.c (.func (.func 19) #[] #[])) [(.t 109), (.t 110), (.t 114)]⟩,
      ⟨(some 108), none, .move (.t 115)⟩,
      ⟨(some 116), none, .extract (.t 108) 0⟩,
      ⟨(some 117), none, .extract (.t 108) 1⟩,
      ⟨(some 17), none, .alloc [(.string .empty), (.bool false), (.bool false), (.string .empty), (.int .u64 0)]⟩,
      ⟨none, none, .store 5 (.t 17) (.t 116)⟩,
      ⟨(some 18), none, .move (.t 117)⟩] (some [0, 1, 2, 8, 10, 12, 13, 14, 15, 16, 17, 18]))
    (.seq (.ops [⟨(some 119), none, .move (.t 10)⟩,
      ⟨(some 120), none, .move (.t 12)⟩,
      ⟨(some 121), none, .move (.t 14)⟩,
      ⟨(some 122), none, .indexAddr 1 (.t 120) (.t 121)⟩,
      ⟨(some 123), none, .load false 1 (.t 122)⟩,
      ⟨(some 124), none, .call (.c (.func (.func 20) #[] #[])) [(.t 119), (.t 123)]⟩,
      ⟨(some 118), none, .move (.t 124)⟩,
      ⟨(some 125), none, .extract (.t 118) 0⟩,
      ⟨(some 126), none, .extract (.t 118) 1⟩,
      ⟨(some 19), none, .alloc [(.bool false), (.string .empty), (.int .u64 0)]⟩,
      ⟨none, none, .store 3 (.t 19) (.t 125)⟩,
      ⟨(some 20), none, .move (.t 126)⟩] (some [0, 1, 2, 8, 10, 12, 13, 14, 15, 16, 17, 18, 19, 20]))
    (.seq (.ops [⟨(some 128), none, .move (.t 2)⟩,
      ⟨(some 129), none, .move (.t 12)⟩,
      ⟨(some 130), none, .move (.t 14)⟩,
      ⟨(some 131), none, .indexAddr 1 (.t 129) (.t 130)⟩,
      ⟨(some 132), none, .load false 1 (.t 131)⟩,
      ⟨(some 133), none, .call (.c (.func (.func 20) #[] #[])) [(.t 128), (.t 132)]⟩,
      ⟨(some 127), none, .move (.t 133)⟩,
      ⟨(some 134), none, .extract (.t 127) 0⟩,
      ⟨(some 135), none, .extract (.t 127) 1⟩,
      ⟨(some 21), none, .alloc [(.bool false), (.string .empty), (.int .u64 0)]⟩,
      ⟨none, none, .store 3 (.t 21) (.t 134)⟩,
      ⟨(some 22), none, .move (.t 135)⟩] (some [0, 1, 2, 8, 10, 12, 13, 14, 15, 16, 17, 18, 19, 20, 21, 22]))
    (.seq (.seq (.ops [⟨(some 136), none, .move (.t 16)⟩] (some [0, 1, 2, 8, 10, 12, 13, 14, 15, 16, 17, 18, 19, 20, 21, 22, 136]))
    (.cond (.t 136)
     (.ops [⟨(some 138), none, .move (.t 1)⟩,
       ⟨(some 139), none, .move (.t 12)⟩,
       ⟨(some 140), none, .move (.t 14)⟩,
       ⟨(some 141), none, .indexAddr 1 (.t 139) (.t 140)⟩,
       ⟨(some 142), none, .load false 1 (.t 141)⟩,
       ⟨(some 143), none, .call (.c (.func (.func 20) #[] #[])) [(.t 138), (.t 142)]⟩,
       ⟨(some 137), none, .move (.t 143)⟩,
       ⟨(some 144), none, .extract (.t 137) 0⟩,
       ⟨(some 145), none, .extract (.t 137) 1⟩,
       ⟨none, none, .store 3 (.t 21) (.t 144)⟩,
       ⟨(some 22), none, .move (.t 145)⟩] (some [0, 1, 2, 8, 10, 12, 13, 14, 15, 16, 17, 18, 19, 20, 21, 22]))
     .skip))
    (.seq (.seq (.ops [⟨(some 146), none, .load true 3 (.t 19)⟩,
      ⟨(some 147), none, .load true 3 (.t 21)⟩,
      ⟨(some 148), none, .bin .neq 34 (.t 146) (.t 147)⟩,
      ⟨(some 149), none, .move (.t 148)⟩,
      ⟨(some 150), (some (149, false)), .move (.t 20)⟩,
      ⟨(some 151), (some (149, false)), .move (.t 22)⟩,
      ⟨(some 152), (some (149, false)), .bin .neq 4 (.t 150) (.t 151)⟩,
      ⟨(some 153), none, .pick (.t 149) (.c (.bool true)) (.t 152)⟩] (some [0, 1, 2, 8, 10, 12, 13, 14, 15, 16, 17, 18, 153]))
    (.cond (.t 153)
     (.seq (.ops [⟨(some 6), none, .move (.c (.bool false))⟩] (some [6]))
     .ret)
     .skip))
    (.seq (.ops [⟨(some 154), none, .move (.t 16)⟩,
      ⟨(some 155), none, .move (.t 154)⟩,
      ⟨(some 156), (some (155, true)), .move (.t 18)⟩,
      ⟨(some 157), none, .pick (.t 155) (.t 156) (.c (.bool false))⟩,
      ⟨(some 158), none, .move (.t 157)⟩,
      ⟨(some 159), (some (158, true)), .load true 5 (.t 15)⟩,
      ⟨(some 160), (some (158, true)), .load true 5 (.t 17)⟩,
      ⟨(some 161), (some (158, true)), .bin .neq 36 (.t 159) (.t 160)⟩,
      ⟨(some 162), none, .pick (.t 158) (.t 161) (.c (.bool false))⟩] (some [0, 1, 2, 8, 10, 12, 13, 14, 15, 17, 162]))
    (.cond (.t 162)
     (.seq (.seq (.opsr [⟨(some 163), none, .move (.t 13)⟩,
       ⟨(some 164), none, .move (.t 8)⟩,
       ⟨(some 165), none, .len (.t 164)⟩,
       ⟨(some 166), none, .bin .geq 3 (.t 163) (.t 165)⟩,
       ⟨(some 167), none, .move (.t 166)⟩,
       ⟨(some 168), (some (167, false)), .move (.t 8)⟩,
       ⟨(some 169), (some (167, false)), .move (.t 13)⟩,
       ⟨(some 170), (some (167, false)), .indexAddr 11 (.t 168) (.t 169)⟩,
       ⟨(some 171), (some (167, false)), .load true 11 (.t 170)⟩,
       ⟨(some 172), (some (167, false)), .move (.t 12)⟩,
       ⟨(some 173), (some (167, false)), .move (.t 14)⟩,
       ⟨(some 174), (some (167, false)), .indexAddr 1 (.t 172) (.t 173)⟩,
       ⟨(some 175), (some (167, false)), .load false 1 (.t 174)⟩,
       ⟨(some 176), (some (167, false)), .load true 5 (.t 15)⟩,
       ⟨(some 177), (some (167, false)), .load true 5 (.t 17)⟩,
       ⟨(some 178), (some (167, false)), .build [(.string .empty), (.string .empty), (.bool false), (.bool false), (.string .empty), (.int .u64 0), (.string .empty), (.bool false), (.bool false), (.string .empty), (.int .u64 0)] [(0, 1), (1, 5), (6, 5)] [(0, (.t 175)), (1, (.t 176)), (2, (.t 177))]⟩,
       ⟨(some 179), (some (167, false)), .bin .neq 50 (.t 171) (.t 178)⟩,
       ⟨(some 180), none, .pick (.t 167) (.c (.bool true)) (.t 179)⟩] (some [0, 1, 2, 8, 10, 12, 13, 14, 180]))
     (.cond (.t 180)
      (.seq (.ops [⟨(some 6), none, .move (.c (.bool false))⟩] (some [6]))
      .ret)
      .skip))
     (.ops [⟨(some 181), none, .move (.t 13)⟩,
       ⟨(some 182), none, .bin .add 3 (.t 181) (.c (.int .i64 1))⟩,
       ⟨(some 13), none, .move (.t 182)⟩] (some [0, 1, 2, 8, 10, 12, 13, 14])))
     .skip)))))))))
   (.ops [⟨(some 96), none, .move (.t 14)⟩,
     ⟨(some 97), none, .bin .add 3 (.t 96) (.c (.int .i64 1))⟩,
     ⟨(some 14), none, .move (.t 97)⟩] (some [0, 1, 2, 8, 10, 12, 13, 14])))))))
 (.seq (.seq (.ops [⟨(some 183), none, .move (.t 13)⟩,
   ⟨(some 184), none, .move (.t 8)⟩,
   ⟨(some 185), none, .len (.t 184)⟩,
   ⟨(some 186), none, .bin .neq 3 (.t 183) (.t 185)⟩] (some [0, 1, 2, 8, 10, 186]))
 (.cond (.t 186)
  (.seq (.ops [⟨(some 6), none, .move (.c (.bool false))⟩] (some [6]))
  .ret)
  .skip))
 (.seq (.ops [⟨(some 188), none, .move (.t 0)⟩,
   ⟨(some 189), none, .move (.t 2)⟩,
   ⟨(some 190), none, .move (.t 1)⟩,
   ⟨(some 191), none, .call (.c (.func (.func 15) #[] #[])) [(.t 188), (.t 189), (.t 190)]⟩,
   ⟨(some 187), none, .move (.t 191)⟩,
   ⟨(some 192), none, .extract (.t 187) 0⟩,
   ⟨(some 193), none, .extract (.t 187) 1⟩,
   ⟨(some 194), none, .extract (.t 187) 2⟩,
   ⟨(some 23), none, .move (.t 192)⟩,
   ⟨(some 24), none, .move (.t 193)⟩,
   ⟨(some 25), none, .move (.t 194)⟩] (some [1, 8, 10, 23, 24, 25]))
 (.seq (.ops [⟨(some 196), none, .move (.t 1)⟩,
   ⟨(some 197), none, .move (.t 23)⟩,
   ⟨(some 198), none, .call (.c (.func (.func 10) #[] #[])) [(.t 196), (.t 197), (.c (.int .i64 1))]⟩,
   ⟨(some 195), none, .move (.t 198)⟩,
   ⟨(some 199), none, .extract (.t 195) 0⟩,
   ⟨(some 200), none, .extract (.t 195) 1⟩,
   ⟨(some 26), none, .move (.t 199)⟩,
   ⟨(some 27), none, .move (.t 200)⟩] (some [8, 10, 24, 25, 26, 27]))
 (.seq (.seq (.ops [⟨(some 201), none, .move (.t 25)⟩,
   ⟨(some 202), none, .bin .neq 27 (.t 201) (.c (.int .i64 0))⟩,
   ⟨(some 203), none, .move (.t 202)⟩,
   ⟨(some 204), (some (203, false)), .move (.t 27)⟩,
   ⟨(some 205), (some (203, false)), .bin .neq 27 (.t 204) (.c (.int .i64 0))⟩,
   ⟨(some 206), none, .pick (.t 203) (.c (.bool true)) (.t 205)⟩,
   ⟨(some 207), none, .move (.t 206)⟩,
   ⟨(some 208), (some (207, false)), .move (.t 24)⟩,
   ⟨(some 209), (some (207, false)), .len (.t 208)⟩,
   ⟨(some 210), (some (207, false)), .move (.t 8)⟩,
   ⟨(some 211), (some (207, false)), .len (.t 210)⟩,
   ⟨(some 212), (some (207, false)), .bin .neq 3 (.t 209) (.t 211)⟩,
   ⟨(some 213), none, .pick (.t 207) (.c (.bool true)) (.t 212)⟩] (some [8, 10, 26, 213]))
 (.cond (.t 213)
  (.seq (.ops [⟨(some 6), none, .move (.c (.bool false))⟩] (some [6]))
  .ret)
  .skip))
 (.seq (.ops [⟨(some 214), none, .move (.t 8)⟩,
   ⟨(some 215), none, .len (.t 214)⟩,
   ⟨(some 216), none, .bin .gtr 3 (.t 215) (.c (.int .i64 0))⟩,
   ⟨(some 217), none, .move (.t 216)⟩,
   ⟨(some 218), (some (217, false)), .move (.t 10)⟩,
   ⟨(some 219), (some (217, false)), .move (.t 26)⟩,
   ⟨(some 220), (some (217, false)), .call (.c (.func (.func 21) #[] #[])) [(.t 218), (.t 219)]⟩,
   ⟨(some 221), none, .pick (.t 217) (.c (.bool true)) (.t 220)⟩,
   ⟨(some 6), none, .move (.t 221)⟩] (some [6]))
 .ret))))))))))))))), [.tmp 6]⟩

theorem is5 : FnIs Try.prog 5 x5 := ⟨Try.f5, _, Try.func5, by kernel_rfl, rfl, by kernel_rfl, by decide, by kernel_rfl⟩

/-- cloisonne/cloisonnelaw30.DiffWrites -/
def x6 : XDecl := .code ⟨3, 
 (.seq (.ops [⟨(some 6), none, .move (.c (.bool false))⟩] (some [0, 1, 2]))
 (.seq (.seq (.ops [⟨(some 15), none, .call (.c (.func (.func 7) #[] #[])) []⟩,
   ⟨(some 16), none, .un .not (.t 15)⟩] (some [0, 1, 2, 16]))
 (.cond (.t 16)
  (.seq (.ops [⟨(some 6), none, .move (.c (.bool false))⟩] (some [6]))
  .ret)
  .skip))
 (.seq (.seq (.ops [⟨(some 17), none, .move (.t 0)⟩,
   ⟨(some 18), none, .call (.c (.func (.func 8) #[] #[])) [(.t 17)]⟩,
   ⟨(some 19), none, .move (.t 18)⟩,
   ⟨(some 20), (some (19, false)), .move (.t 1)⟩,
   ⟨(some 21), (some (19, false)), .call (.c (.func (.func 8) #[] #[])) [(.t 20)]⟩,
   ⟨(some 22), none, .pick (.t 19) (.c (.bool true)) (.t 21)⟩] (some [0, 1, 2, 22]))
 (.cond (.t 22)
  (.seq (.ops [⟨(some 6), none, .move (.c (.bool true))⟩] (some [6]))
  .ret)
  .skip))
 (.seq (.ops [⟨(some 24), none, .move (.t 0)⟩,
   ⟨(some 25), none, .move (.t 1)⟩,
   ⟨(some 26), none, .call (.c (.func (.func 22) #[] #[])) [(.t 24), (.t 25)]⟩,
   ⟨(some 23), none, .move (.t 26)⟩,
   ⟨(some 27), none, .extract (.t 23) 0⟩,
   ⟨(some 28), none, .extract (.t 23) 1⟩,
   ⟨(some 7), none, .move (.t 27)⟩,
   ⟨(some 8), none, .move (.t 28)⟩] (some [0, 1, 2, 7, 8]))
 (.seq (.seq (.ops [⟨(some 29), none, .move (.t 0)⟩,
   ⟨(some 30), none, .call (.c (.func (.func 23) #[] #[])) [(.t 29)]⟩,
   ⟨(some 31), none, .move (.t 0)⟩,
   ⟨(some 32), none, .call (.c (.func (.func 12) #[] #[])) [(.t 31)]⟩,
   ⟨(some 33), none, .bin .neq 4 (.t 30) (.t 32)⟩] (some [0, 1, 2, 7, 8, 33]))
 (.cond (.t 33)
  (.seq (.ops [⟨(some 6), none, .move (.c (.bool false))⟩] (some [6]))
  .ret)
  .skip))
 (.seq (.seq (.ops [⟨(some 34), none, .move (.t 0)⟩,
   ⟨(some 35), none, .call (.c (.func (.func 12) #[] #[])) [(.t 34)]⟩,
   ⟨(some 36), none, .un .not (.t 35)⟩,
   ⟨(some 37), none, .move (.t 36)⟩,
   ⟨(some 38), (some (37, false)), .move (.t 1)⟩,
   ⟨(some 39), (some (37, false)), .call (.c (.func (.func 12) #[] #[])) [(.t 38)]⟩,
   ⟨(some 40), (some (37, false)), .un .not (.t 39)⟩,
   ⟨(some 41), none, .pick (.t 37) (.c (.bool true)) (.t 40)⟩] (some [0, 1, 2, 7, 8, 41]))
 (.cond (.t 41)
  (.seq (.ops [⟨(some 42), none, .move (.t 7)⟩,
    ⟨(some 43), none, .len (.t 42)⟩,
    ⟨(some 44), none, .bin .eql 3 (.t 43) (.c (.int .i64 0))⟩,
    ⟨(some 45), none, .move (.t 44)⟩,
    ⟨(some 46), (some (45, true)), .move (.t 8)⟩,
    ⟨(some 47), (some (45, true)), .bin .eql 27 (.t 46) (.c (.int .i64 1))⟩,
    ⟨(some 48), none, .pick (.t 45) (.t 47) (.c (.bool false))⟩,
    ⟨(some 6), none, .move (.t 48)⟩] (some [6]))
  .ret)
  .skip))
 (.seq (.ops [⟨(some 50), none, .move (.t 0)⟩,
   ⟨(some 51), none, .move (.t 7)⟩,
   ⟨(some 52), none, .move (.t 2)⟩,
   ⟨(some 53), none, .calcB .max [3, 3] 3 [(.t 52), (.c (.int .i64 1))]⟩,
   ⟨(some 54), none, .call (.c (.func (.func 10) #[] #[])) [(.t 50), (.t 51), (.t 53)]⟩,
   ⟨(some 49), none, .move (.t 54)⟩,
   ⟨(some 55), none, .extract (.t 49) 0⟩,
   ⟨(some 56), none, .extract (.t 49) 1⟩,
   ⟨(some 9), none, .move (.t 55)⟩,
   ⟨(some 10), none, .move (.t 56)⟩] (some [0, 1, 7, 8, 9, 10]))
 (.seq (.ops [⟨(some 58), none, .move (.t 9)⟩,
   ⟨(some 59), none, .move (.t 1)⟩,
   ⟨(some 60), none, .call (.c (.func (.func 22) #[] #[])) [(.t 58), (.t 59)]⟩,
   ⟨(some 57), none, .move (.t 60)⟩,
   ⟨(some 61), none, .extract (.t 57) 0⟩,
   ⟨(some 62), none, .extract (.t 57) 1⟩,
   ⟨(some 11), none, .move (.t 61)⟩,
   ⟨(some 12), none, .move (.t 62)⟩] (some [0, 1, 7, 8, 9, 10, 11, 12]))
 (.seq (.ops [⟨(some 13), none, .move (.c (.int .i64 0))⟩] (some [0, 1, 7, 8, 9, 10, 11, 12, 13]))
 (.seq (.seq (.ops [⟨(some 14), none, .move (.c (.int .i64 0))⟩] (some [0, 1, 7, 8, 9, 10, 11, 12, 13, 14]))
 (.block 0
  (.loop
   (.seq (.seq (.ops [⟨(some 63), none, .move (.t 14)⟩,
     ⟨(some 64), none, .move (.t 0)⟩,
     ⟨(some 65), none, .len (.t 64)⟩,
     ⟨(some 66), none, .bin .lss 3 (.t 63) (.t 65)⟩] (some [0, 1, 7, 8, 9, 10, 11, 12, 13, 14, 66]))
   (.cond (.t 66)
    .skip
    (.exit 0)))
   (.seq (.block 1
    (.opsd [(0, 0, ⟨(some 69), none, .move (.t 13)⟩),
      (1, 0, ⟨(some 70), none, .move (.t 0)⟩),
      (2, 0, ⟨(some 71), none, .move (.t 14)⟩),
      (3, 6, ⟨(some 72), none, .indexAddr 5 (.t 70) (.t 71)⟩),
      (4, 14, ⟨(some 73), none, .fieldAddr 0 (.t 72)⟩),
      (5, 30, ⟨(some 74), none, .load false 1 (.t 73)⟩),
      (6, 62, ⟨(some 75), none, .calcB .len [9] 3 [(.t 74)]⟩),
      (7, 127, ⟨(some 76), none, .bin .add 3 (.t 69) (.t 75)⟩),
      (8, 0, ⟨(some 77), none, .move (.t 0)⟩),
      (9, 0, ⟨(some 78), none, .move (.t 14)⟩),
      (10, 768, ⟨(some 79), none, .indexAddr 5 (.t 77) (.t 78)⟩),
      (11, 1792, ⟨(some 80), none, .fieldAddr 2 (.t 79)⟩),
      (12, 3840, ⟨(some 81), none, .load true 3 (.t 80)⟩),
      (13, 7936, ⟨(some 82), none, .call (.c (.func (.func 24) #[] #[])) [(.t 81)]⟩),
      (14, 16128, ⟨(some 83), none, .calcB .len [9] 3 [(.t 82)]⟩),
      (15, 32767, ⟨(some 84), none, .bin .add 3 (.t 76) (.t 83)⟩),
      (16, 65535, ⟨(some 13), none, .move (.t 84)⟩)] (some [0, 1, 7, 8, 9, 10, 11, 12, 13, 14])))
   (.ops [⟨(some 67), none, .move (.t 14)⟩,
     ⟨(some 68), none, .bin .add 3 (.t 67) (.c (.int .i64 1))⟩,
     ⟨(some 14), none, .move (.t 68)⟩] (some [0, 1, 7, 8, 9, 10, 11, 12, 13, 14])))))))
 (.seq (.ops [⟨(some 85), none, .move (.t 7)⟩,
   ⟨(some 86), none, .move (.t 0)⟩,
   ⟨(some 87), none, .move (.t 1)⟩,
   ⟨(some 88), none, .call (.c (.func (.func 17) #[] #[])) [(.t 86), (.t 87)]⟩,
   ⟨(some 89), none, .call (.c (.func (.func 16) #[] #[])) [(.t 85), (.t 88)]⟩,
   ⟨(some 90), none, .move (.t 89)⟩,
   ⟨(some 91), (some (90, true)), .move (.t 8)⟩,
   ⟨(some 92), (some (90, true)), .bin .eql 27 (.t 91) (.c (.int .i64 0))⟩,
   ⟨(some 93), none, .pick (.t 90) (.t 92) (.c (.bool false))⟩,
   ⟨(some 94), none, .move (.t 93)⟩,
   ⟨(some 95), (some (94, true)), .move (.t 9)⟩,
   ⟨(some 96), (some (94, true)), .move (.t 1)⟩,
   ⟨(some 97), (some (94, true)), .call (.c (.func (.func 21) #[] #[])) [(.t 95), (.t 96)]⟩,
   ⟨(some 98), none, .pick (.t 94) (.t 97) (.c (.bool false))⟩,
   ⟨(some 99), none, .move (.t 98)⟩,
   ⟨(some 100), (some (99, true)), .move (.t 10)⟩,
   ⟨(some 101), (some (99, true)), .bin .eql 27 (.t 100) (.c (.int .i64 0))⟩,
   ⟨(some 102), none, .pick (.t 99) (.t 101) (.c (.bool false))⟩,
   ⟨(some 103), none, .move (.t 102)⟩,
   ⟨(some 104), (some (103, true)), .move (.t 11)⟩,
   ⟨(some 105), (some (103, true)), .len (.t 104)⟩,
   ⟨(some 106), (some (103, true)), .bin .eql 3 (.t 105) (.c (.int .i64 0))⟩,
   ⟨(some 107), none, .pick (.t 103) (.t 106) (.c (.bool false))⟩,
   ⟨(some 108), none, .move (.t 107)⟩,
   ⟨(some 109), (some (108, true)), .move (.t 12)⟩,
   ⟨(some 110), (some (108, true)), .bin .eql 27 (.t 109) (.c (.int .i64 0))⟩,
   ⟨(some 111), none, .pick (.t 108) (.t 110) (.c (.bool false))⟩,
   ⟨(some 112), none, .move (.t 111)⟩,
   ⟨(some 113), (some (112, true)), .move (.t 0)⟩,
   ⟨(some 114), (some (112, true)), .call (.c (.func (.func 25) #[] #[])) [(.t 113)]⟩,
   ⟨(some 115), (some (112, true)), .move (.t 13)⟩,
   ⟨(some 116), (some (112, true)), .bin .eql 3 (.t 114) (.t 115)⟩,
   ⟨(some 117), none, .pick (.t 112) (.t 116) (.c (.bool false))⟩,
   ⟨(some 6), none, .move (.t 117)⟩] (some [6]))
 .ret))))))))))), [.tmp 6]⟩

theorem is6 : FnIs Try.prog 6 x6 := ⟨Try.f6, _, Try.func6, by kernel_rfl, rfl, by kernel_rfl, by decide, by kernel_rfl⟩

/-- cloisonne/cloisonnelaw30.awake -/
def x7 : XDecl := .code ⟨0, 
 (.seq (.ops [⟨(some 0), none, .move (.c (.bool false))⟩] (some []))
 (.seq (.ops [⟨(some 4), none, .build [(.string .empty), (.int .i64 0), (.bool false), (.string .empty), (.int .u64 0)] [(0, 1), (1, 1), (2, 3)] [(0, (.c (.string ⟨#[97]⟩))), (1, (.c (.int .i64 1)))]⟩,
   ⟨(some 5), none, .build [(.string .empty), (.int .i64 0), (.bool false), (.string .empty), (.int .u64 0)] [(0, 1), (1, 1), (2, 3)] [(0, (.c (.string ⟨#[98]⟩))), (1, (.c (.int .i64 2)))]⟩,
   ⟨(some 6), none, .buildSlice [(.string .empty), (.int .i64 0), (.bool false), (.string .empty), (.int .u64 0)] 5 2 [(0, (.t 4)), (1, (.t 5))]⟩,
   ⟨(some 7), none, .build [(.string .empty), (.int .i64 0), (.bool false), (.string .empty), (.int .u64 0)] [(0, 1), (1, 1), (2, 3)] [(0, (.c (.string ⟨#[98]⟩))), (1, (.c (.int .i64 9)))]⟩,
   ⟨(some 8), none, .build [(.string .empty), (.int .i64 0), (.bool false), (.string .empty), (.int .u64 0)] [(0, 1), (1, 1), (2, 3)] [(0, (.c (.string ⟨#[99]⟩))), (1, (.c (.int .i64 1)))]⟩,
   ⟨(some 9), none, .buildSlice [(.string .empty), (.int .i64 0), (.bool false), (.string .empty), (.int .u64 0)] 5 2 [(0, (.t 7)), (1, (.t 8))]⟩,
   ⟨(some 10), none, .call (.c (.func (.func 22) #[] #[])) [(.t 6), (.t 9)]⟩,
   ⟨(some 3), none, .move (.t 10)⟩,
   ⟨(some 11), none, .extract (.t 3) 0⟩,
   ⟨(some 12), none, .extract (.t 3) 1⟩,
   ⟨(some 1), none, .move (.t 11)⟩,
   ⟨(some 2), none, .move (.t 12)⟩] (some [1, 2]))
 (.seq (.ops [⟨(some 13), none, .move (.t 2)⟩,
   ⟨(some 14), none, .bin .eql 27 (.t 13) (.c (.int .i64 0))⟩,
   ⟨(some 15), none, .move (.t 14)⟩,
   ⟨(some 16), (some (15, true)), .move (.t 1)⟩,
   ⟨(some 17), (some (15, true)), .len (.t 16)⟩,
   ⟨(some 18), (some (15, true)), .bin .eql 3 (.t 17) (.c (.int .i64 2))⟩,
   ⟨(some 19), none, .pick (.t 15) (.t 18) (.c (.bool false))⟩,
   ⟨(some 20), none, .move (.t 19)⟩,
   ⟨(some 21), (some (20, true)), .move (.t 1)⟩,
   ⟨(some 22), (some (20, true)), .indexAddr 5 (.t 21) (.c (.int .i64 0))⟩,
   ⟨(some 23), (some (20, true)), .fieldAddr 1 (.t 22)⟩,
   ⟨(some 24), (some (20, true)), .load false 1 (.t 23)⟩,
   ⟨(some 25), none, .pick (.t 20) (.t 24) (.c (.bool false))⟩,
   ⟨(some 26), none, .move (.t 25)⟩,
   ⟨(some 27), (some (26, true)), .move (.t 1)⟩,
   ⟨(some 28), (some (26, true)), .indexAddr 5 (.t 27) (.c (.int .i64 1))⟩,
   ⟨(some 29), (some (26, true)), .fieldAddr 0 (.t 28)⟩,
   ⟨(some 30), (some (26, true)), .load false 1 (.t 29)⟩,
   ⟨(some 31), (some (26, true)), .bin .eql 9 (.t 30) (.c (.string ⟨#[99]⟩))⟩,
   ⟨(some 32), none, .pick (.t 26) (.t 31) (.c (.bool false))⟩,
   ⟨(some 0), none, .move (.t 32)⟩] (some [0]))
 .ret))), [.tmp 0]⟩

theorem is7 : FnIs Try.prog 7 x7 := ⟨Try.f7, _, Try.func7, by kernel_rfl, rfl, by kernel_rfl, by decide, by kernel_rfl⟩

/-- cloisonne/cloisonnelaw30.far -/
def x8 : XDecl := .code ⟨1, 
 (.seq (.ops [⟨(some 2), none, .move (.c (.bool false))⟩] (some [0]))
 (.seq (.seq (.ops [⟨(some 4), none, .move (.t 0)⟩,
   ⟨(some 5), none, .len (.t 4)⟩,
   ⟨(some 6), none, .bin .gtr 3 (.t 5) (.c (.int .i64 60))⟩] (some [0, 6]))
 (.cond (.t 6)
  (.seq (.ops [⟨(some 2), none, .move (.c (.bool true))⟩] (some [2]))
  .ret)
  .skip))
 (.seq (.seq (.ops [⟨(some 3), none, .move (.c (.int .i64 0))⟩] (some [0, 3]))
 (.block 0
  (.loop
   (.seq (.seq (.ops [⟨(some 7), none, .move (.t 3)⟩,
     ⟨(some 8), none, .move (.t 0)⟩,
     ⟨(some 9), none, .len (.t 8)⟩,
     ⟨(some 10), none, .bin .lss 3 (.t 7) (.t 9)⟩] (some [0, 3, 10]))
   (.cond (.t 10)
    .skip
    (.exit 0)))
   (.seq (.block 1
    (.seq (.ops [⟨(some 13), none, .move (.t 0)⟩,
      ⟨(some 14), none, .move (.t 3)⟩,
      ⟨(some 15), none, .indexAddr 5 (.t 13) (.t 14)⟩,
      ⟨(some 16), none, .fieldAddr 0 (.t 15)⟩,
      ⟨(some 17), none, .load false 1 (.t 16)⟩,
      ⟨(some 18), none, .calcB .len [9] 3 [(.t 17)]⟩,
      ⟨(some 19), none, .bin .gtr 3 (.t 18) (.c (.int .i64 200))⟩,
      ⟨(some 20), none, .move (.t 19)⟩,
      ⟨(some 21), (some (20, false)), .move (.t 0)⟩,
      ⟨(some 22), (some (20, false)), .move (.t 3)⟩,
      ⟨(some 23), (some (20, false)), .indexAddr 5 (.t 21) (.t 22)⟩,
      ⟨(some 24), (some (20, false)), .fieldAddr 2 (.t 23)⟩,
      ⟨(some 25), (some (20, false)), .fieldAddr 1 (.t 24)⟩,
      ⟨(some 26), (some (20, false)), .load false 1 (.t 25)⟩,
      ⟨(some 27), (some (20, false)), .calcB .len [9] 3 [(.t 26)]⟩,
      ⟨(some 28), (some (20, false)), .bin .gtr 3 (.t 27) (.c (.int .i64 200))⟩,
      ⟨(some 29), none, .pick (.t 20) (.c (.bool true)) (.t 28)⟩] (some [0, 3, 29]))
    (.cond (.t 29)
     (.seq (.ops [⟨(some 2), none, .move (.c (.bool true))⟩] (some [2]))
     .ret)
     .skip)))
   (.ops [⟨(some 11), none, .move (.t 3)⟩,
     ⟨(some 12), none, .bin .add 3 (.t 11) (.c (.int .i64 1))⟩,
     ⟨(some 3), none, .move (.t 12)⟩] (some [0, 3])))))))
 (.seq (.ops [⟨(some 2), none, .move (.c (.bool false))⟩] (some [2]))
 .ret)))), [.tmp 2]⟩

theorem is8 : FnIs Try.prog 8 x8 := ⟨Try.f8, _, Try.func8, by kernel_rfl, rfl, by kernel_rfl, by decide, by kernel_rfl⟩

/-- cloisonne/cloisonnelaw30.long -/
def x9 : XDecl := .code ⟨1, 
 (.seq (.ops [⟨(some 2), none, .move (.c (.bool false))⟩] (some [0]))
 (.seq (.seq (.ops [⟨(some 4), none, .move (.t 0)⟩,
   ⟨(some 5), none, .len (.t 4)⟩,
   ⟨(some 6), none, .bin .gtr 3 (.t 5) (.c (.int .i64 100))⟩] (some [0, 6]))
 (.cond (.t 6)
  (.seq (.ops [⟨(some 2), none, .move (.c (.bool true))⟩] (some [2]))
  .ret)
  .skip))
 (.seq (.seq (.ops [⟨(some 3), none, .move (.c (.int .i64 0))⟩] (some [0, 3]))
 (.block 0
  (.loop
   (.seq (.seq (.ops [⟨(some 7), none, .move (.t 3)⟩,
     ⟨(some 8), none, .move (.t 0)⟩,
     ⟨(some 9), none, .len (.t 8)⟩,
     ⟨(some 10), none, .bin .lss 3 (.t 7) (.t 9)⟩] (some [0, 3, 10]))
   (.cond (.t 10)
    .skip
    (.exit 0)))
   (.seq (.block 1
    (.seq (.ops [⟨(some 13), none, .move (.t 0)⟩,
      ⟨(some 14), none, .move (.t 3)⟩,
      ⟨(some 15), none, .indexAddr 5 (.t 13) (.t 14)⟩,
      ⟨(some 16), none, .fieldAddr 0 (.t 15)⟩,
      ⟨(some 17), none, .load false 1 (.t 16)⟩,
      ⟨(some 18), none, .calcB .len [9] 3 [(.t 17)]⟩,
      ⟨(some 19), none, .bin .gtr 3 (.t 18) (.c (.int .i64 200))⟩,
      ⟨(some 20), none, .move (.t 19)⟩,
      ⟨(some 21), (some (20, false)), .move (.t 0)⟩,
      ⟨(some 22), (some (20, false)), .move (.t 3)⟩,
      ⟨(some 23), (some (20, false)), .indexAddr 5 (.t 21) (.t 22)⟩,
      ⟨(some 24), (some (20, false)), .fieldAddr 2 (.t 23)⟩,
      ⟨(some 25), (some (20, false)), .fieldAddr 1 (.t 24)⟩,
      ⟨(some 26), (some (20, false)), .load false 1 (.t 25)⟩,
      ⟨(some 27), (some (20, false)), .calcB .len [9] 3 [(.t 26)]⟩,
      ⟨(some 28), (some (20, false)), .bin .gtr 3 (.t 27) (.c (.int .i64 200))⟩,
      ⟨(some 29), none, .pick (.t 20) (.c (.bool true)) (.t 28)⟩] (some [0, 3, 29]))
    (.cond (.t 29)
     (.seq (.ops [⟨(some 2), none, .move (.c (.bool true))⟩] (some [2]))
     .ret)
     .skip)))
   (.ops [⟨(some 11), none, .move (.t 3)⟩,
     ⟨(some 12), none, .bin .add 3 (.t 11) (.c (.int .i64 1))⟩,
     ⟨(some 3), none, .move (.t 12)⟩] (some [0, 3])))))))
 (.seq (.ops [⟨(some 2), none, .move (.c (.bool false))⟩] (some [2]))
 .ret)))), [.tmp 2]⟩

theorem is9 : FnIs Try.prog 9 x9 := ⟨Try.f9, _, Try.func9, by kernel_rfl, rfl, by kernel_rfl, by decide, by kernel_rfl⟩

/-- cloisonne/diff.Apply -/
def x10 : XDecl := .code ⟨3, 
 (.seq (.ops [⟨(some 6), none, .move (.c (.slice none 0 0))⟩,
   ⟨(some 7), none, .move (.c (.int .i64 0))⟩] (some [0, 1, 2]))
 (.seq (.seq (.ops [⟨(some 9), none, .move (.t 0)⟩,
   ⟨(some 10), none, .call (.c (.func (.func 23) #[] #[])) [(.t 9)]⟩,
   ⟨(some 11), none, .un .not (.t 10)⟩,
   ⟨(some 12), none, .move (.t 11)⟩,
   ⟨(some 13), (some (12, false)), .move (.t 1)⟩,
   ⟨(some 14), (some (12, false)), .call (.c (.func (.func 26) #[] #[])) [(.t 13)]⟩,
   ⟨(some 15), (some (12, false)), .un .not (.t 14)⟩,
   ⟨(some 16), none, .pick (.t 12) (.c (.bool true)) (.t 15)⟩,
   ⟨(some 17), none, .move (.t 16)⟩,
   ⟨(some 18), (some (17, false)), .move (.t 2)⟩,
   ⟨(some 19), (some (17, false)), .bin .lss 3 (.t 18) (.c (.int .i64 1))⟩,
   ⟨(some 20), none, .pick (.t 17) (.c (.bool true)) (.t 19)⟩] (some [0, 1, 2, 20]))
 (.cond (.t 20)
  (.seq (.ops [⟨(some 6), none, .move (.c (.slice none 0 0))⟩,
    ⟨(some 7), none, .move (.c (.int .i64 1))⟩] (some [6, 7]))
  .ret)
  .skip))
 (.seq (.ops [⟨(some 8), none, .move (.c (.slice none 0 0))⟩] (some [0, 1, 2, 8]))
 (.seq (.block 0
  (.loop
   (.seq (.seq (.ops [⟨(some 21), none, .move (.t 0)⟩,
     ⟨(some 22), none, .len (.t 21)⟩,
     ⟨(some 23), none, .bin .gtr 3 (.t 22) (.c (.int .i64 0))⟩,
     ⟨(some 24), none, .move (.t 23)⟩,
     ⟨(some 25), (some (24, false)), .move (.t 1)⟩,
     ⟨(some 26), (some (24, false)), .len (.t 25)⟩,
     ⟨(some 27), (some (24, false)), .bin .gtr 3 (.t 26) (.c (.int .i64 0))⟩,
     ⟨(some 28), none, .pick (.t 24) (.c (.bool true)) (.t 27)⟩] (some [0, 1, 2, 8, 28]))
   (.cond (.t 28)
    .skip
    (.exit 0)))
   (.block 1
    (.seq (.block 2
     (.seq (.opsr [⟨(some 30), none, .move (.t 1)⟩,
       ⟨(some 31), none, .len (.t 30)⟩,
       ⟨(some 32), none, .bin .eql 3 (.t 31) (.c (.int .i64 0))⟩,
       ⟨(some 33), none, .move (.t 32)⟩,
       ⟨(some 34), (some (33, false)), .move (.t 0)⟩,
       ⟨(some 35), (some (33, false)), .len (.t 34)⟩,
       ⟨(some 36), (some (33, false)), .bin .gtr 3 (.t 35) (.c (.int .i64 0))⟩,
       ⟨(some 37), (some (33, false)), .move (.t 36)⟩,
       ⟨(some 38), (some (37, true)), .move (.t 0)⟩,
       ⟨(some 39), (some (37, true)), .indexAddr 5 (.t 38) (.c (.int .i64 0))⟩,
       ⟨(some 40), (some (37, true)), .fieldAddr 0 (.t 39)⟩,
       ⟨(some 41), (some (37, true)), .load false 1 (.t 40)⟩,
       ⟨(some 42), (some (37, true)), .move (.t 1)⟩,
       ⟨(some 43), (some (37, true)), .indexAddr 5 (.t 42) (.c (.int .i64 0))⟩,
       ⟨(some 44), (some (37, true)), .fieldAddr 0 (.t 43)⟩,
       ⟨(some 45), (some (37, true)), .load false 1 (.t 44)⟩,
       ⟨(some 46), (some (37, true)), .bin .lss 9 (.t 41) (.t 45)⟩,
       ⟨(some 47), (some (33, false)), .pick (.t 37) (.t 46) (.c (.bool false))⟩,
       ⟨(some 48), none, .pick (.t 33) (.c (.bool true)) (.t 47)⟩,
       ⟨(some 29), none, .move (.t 48)⟩] (some [0, 1, 2, 8, 29]))
     (.cond (.t 29)
      (.seq (.ops [⟨(some 49), none, .move (.t 8)⟩,
        ⟨(some 50), none, .move (.t 0)⟩,
        ⟨(some 51), none, .indexAddr 5 (.t 50) (.c (.int .i64 0))⟩,
        ⟨(some 52), none, .load true 5 (.t 51)⟩,
        ⟨(some 53), none, .buildSlice [(.string .empty), (.int .i64 0), (.bool false), (.string .empty), (.int .u64 0)] 5 1 [(0, (.t 52))]⟩,
        ⟨(some 54), none, .append 5 56 [(.string .empty), (.int .i64 0), (.bool false), (.string .empty), (.int .u64 0)] (.t 49) (.t 53)⟩,
        ⟨(some 8), none, .move (.t 54)⟩] (some [0, 1, 2, 8]))
      (.seq (.ops [⟨(some 55), none, .move (.t 0)⟩,
        ⟨(some 56), none, .slice 5 (.t 55) (some (.c (.int .i64 1))) none none⟩,
        ⟨(some 0), none, .move (.t 56)⟩] (some [0, 1, 2, 8]))
      (.exit 1)))
      (.seq (.opsr [⟨(some 58), none, .move (.t 0)⟩,
        ⟨(some 59), none, .len (.t 58)⟩,
        ⟨(some 60), none, .bin .gtr 3 (.t 59) (.c (.int .i64 0))⟩,
        ⟨(some 61), none, .move (.t 60)⟩,
        ⟨(some 62), (some (61, true)), .move (.t 0)⟩,
        ⟨(some 63), (some (61, true)), .indexAddr 5 (.t 62) (.c (.int .i64 0))⟩,
        ⟨(some 64), (some (61, true)), .fieldAddr 0 (.t 63)⟩,
        ⟨(some 65), (some (61, true)), .load false 1 (.t 64)⟩,
        ⟨(some 66), (some (61, true)), .move (.t 1)⟩,
        ⟨(some 67), (some (61, true)), .indexAddr 5 (.t 66) (.c (.int .i64 0))⟩,
        ⟨(some 68), (some (61, true)), .fieldAddr 0 (.t 67)⟩,
        ⟨(some 69), (some (61, true)), .load false 1 (.t 68)⟩,
        ⟨(some 70), (some (61, true)), .bin .eql 9 (.t 65) (.t 69)⟩,
        ⟨(some 71), none, .pick (.t 61) (.t 70) (.c (.bool false))⟩,
        ⟨(some 57), none, .move (.t 71)⟩] (some [0, 1, 2, 8, 57]))
      (.cond (.t 57)
       (.ops [⟨(some 72), none, .move (.t 0)⟩,
         ⟨(some 73), none, .slice 5 (.t 72) (some (.c (.int .i64 1))) none none⟩,
         ⟨(some 0), none, .move (.t 73)⟩] (some [0, 1, 2, 8]))
       .skip)))))
    (.seq (.seq (.ops [⟨(some 74), none, .move (.t 1)⟩,
      ⟨(some 75), none, .indexAddr 5 (.t 74) (.c (.int .i64 0))⟩,
      ⟨(some 76), none, .fieldAddr 1 (.t 75)⟩,
      ⟨(some 77), none, .load false 1 (.t 76)⟩,
      ⟨(some 78), none, .un .not (.t 77)⟩] (some [0, 1, 2, 8, 78]))
    (.cond (.t 78)
     (.opsd [(0, 0, ⟨(some 79), none, .move (.t 8)⟩),
       (1, 0, ⟨(some 80), none, .move (.t 1)⟩),
       (2, 2, ⟨(some 81), none, .indexAddr 5 (.t 80) (.c (.int .i64 0))⟩),
       (3, 6, ⟨(some 82), none, .fieldAddr 0 (.t 81)⟩),
       (4, 14, ⟨(some 83), none, .load false 1 (.t 82)⟩),
       (5, 0, ⟨(some 84), none, .move (.t 2)⟩),
       (6, 0, ⟨(some 85), none, .move (.t 1)⟩),
       (7, 64, ⟨(some 86), none, .indexAddr 5 (.t 85) (.c (.int .i64 0))⟩),
       (8, 192, ⟨(some 87), none, .fieldAddr 2 (.t 86)⟩),
       (9, 448, ⟨(some 88), none, .load true 3 (.t 87)⟩),
       (10, 1022, ⟨(some 89), none, .build [(.string .empty), (.int .i64 0), (.bool false), (.string .empty), (.int .u64 0)] [(0, 1), (1, 1), (2, 3)] [(0, (.t 83)), (1, (.t 84)), (2, (.t 88))]⟩),
       (11, 2046, ⟨(some 90), none, .buildSlice [(.string .empty), (.int .i64 0), (.bool false), (.string .empty), (.int .u64 0)] 5 1 [(0, (.t 89))]⟩),
       (12, 4095, ⟨(some 91), none, .append 5 56 [(.string .empty), (.int .i64 0), (.bool false), (.string .empty), (.int .u64 0)] (.t 79) (.t 90)⟩),
       (13, 8191, ⟨(some 8), none, .move (.t 91)⟩)] (some [0, 1, 2, 8]))
     .skip))
    (.ops [⟨(some 92), none, .move (.t 1)⟩,
      ⟨(some 93), none, .slice 5 (.t 92) (some (.c (.int .i64 1))) none none⟩,
      ⟨(some 1), none, .move (.t 93)⟩] (some [0, 1, 2, 8]))))))))
 (.seq (.ops [⟨(some 94), none, .move (.t 8)⟩,
   ⟨(some 6), none, .move (.t 94)⟩,
   ⟨(some 7), none, .move (.c (.int .i64 0))⟩] (some [6, 7]))
 .ret))))), [.tmp 6, .tmp 7]⟩

theorem is10 : FnIs Try.prog 10 x10 := ⟨Try.f10, _, Try.func10, by kernel_rfl, rfl, by kernel_rfl, by decide, by kernel_rfl⟩

/-- cloisonne/cloisonneref11.Same -/
def x11 : XDecl := .code ⟨2, 
 (.seq (.ops [⟨(some 4), none, .move (.c (.bool false))⟩] (some [0, 1]))
 (.seq (.seq (.ops [⟨(some 6), none, .move (.t 0)⟩,
   ⟨(some 7), none, .len (.t 6)⟩,
   ⟨(some 8), none, .move (.t 1)⟩,
   ⟨(some 9), none, .len (.t 8)⟩,
   ⟨(some 10), none, .bin .neq 3 (.t 7) (.t 9)⟩] (some [0, 1, 10]))
 (.cond (.t 10)
  (.seq (.ops [⟨(some 4), none, .move (.c (.bool false))⟩] (some [4]))
  .ret)
  .skip))
 (.seq (.seq (.ops [⟨(some 5), none, .move (.c (.int .i64 0))⟩] (some [0, 1, 5]))
 (.block 0
  (.loop
   (.seq (.seq (.ops [⟨(some 11), none, .move (.t 5)⟩,
     ⟨(some 12), none, .move (.t 0)⟩,
     ⟨(some 13), none, .len (.t 12)⟩,
     ⟨(some 14), none, .bin .lss 3 (.t 11) (.t 13)⟩] (some [0, 1, 5, 14]))
   (.cond (.t 14)
    .skip
    (.exit 0)))
   (.seq (.block 1
    (.seq (.opsr [⟨(some 17), none, .move (.t 0)⟩,
      ⟨(some 18), none, .move (.t 5)⟩,
      ⟨(some 19), none, .indexAddr 5 (.t 17) (.t 18)⟩,
      ⟨(some 20), none, .load true 5 (.t 19)⟩,
      ⟨(some 21), none, .move (.t 1)⟩,
      ⟨(some 22), none, .move (.t 5)⟩,
      ⟨(some 23), none, .indexAddr 5 (.t 21) (.t 22)⟩,
      ⟨(some 24), none, .load true 5 (.t 23)⟩,
      ⟨(some 25), none, .bin .neq 55 (.t 20) (.t 24)⟩] (some [0, 1, 5, 25]))
    (.cond (.t 25)
     (.seq (.ops [⟨(some 4), none, .move (.c (.bool false))⟩] (some [4]))
     .ret)
     .skip)))
   (.ops [⟨(some 15), none, .move (.t 5)⟩,
     ⟨(some 16), none, .bin .add 3 (.t 15) (.c (.int .i64 1))⟩,
     ⟨(some 5), none, .move (.t 16)⟩] (some [0, 1, 5])))))))
 (.seq (.ops [⟨(some 4), none, .move (.c (.bool true))⟩] (some [4]))
 .ret)))), [.tmp 4]⟩

theorem is11 : FnIs Try.prog 11 x11 := ⟨Try.f11, _, Try.func11, by kernel_rfl, rfl, by kernel_rfl, by decide, by kernel_rfl⟩

/-- cloisonne/cloisonneref30.Right -/
def x12 : XDecl := .code ⟨1, 
 (.seq (.ops [⟨(some 2), none, .move (.c (.bool false))⟩] (some [0]))
 (.seq (.seq (.ops [⟨(some 3), none, .move (.c (.int .i64 0))⟩] (some [0, 3]))
 (.block 0
  (.loop
   (.seq (.seq (.ops [⟨(some 4), none, .move (.t 3)⟩,
     ⟨(some 5), none, .move (.t 0)⟩,
     ⟨(some 6), none, .len (.t 5)⟩,
     ⟨(some 7), none, .bin .lss 3 (.t 4) (.t 6)⟩] (some [0, 3, 7]))
   (.cond (.t 7)
    .skip
    (.exit 0)))
   (.seq (.block 1
    (.seq (.opsd [(0, 0, ⟨(some 10), none, .move (.t 0)⟩),
      (1, 0, ⟨(some 11), none, .move (.t 3)⟩),
      (2, 3, ⟨(some 12), none, .indexAddr 5 (.t 10) (.t 11)⟩),
      (3, 7, ⟨(some 13), none, .fieldAddr 0 (.t 12)⟩),
      (4, 15, ⟨(some 14), none, .load false 1 (.t 13)⟩),
      (5, 31, ⟨(some 15), none, .call (.c (.func (.func 27) #[] #[])) [(.t 14)]⟩),
      (6, 63, ⟨(some 16), none, .un .not (.t 15)⟩),
      (7, 127, ⟨(some 17), none, .move (.t 16)⟩),
      (8, 255, ⟨(some 18), (some (17, false)), .move (.t 0)⟩),
      (9, 255, ⟨(some 19), (some (17, false)), .move (.t 3)⟩),
      (10, 1023, ⟨(some 20), (some (17, false)), .indexAddr 5 (.t 18) (.t 19)⟩),
      (11, 2047, ⟨(some 21), (some (17, false)), .fieldAddr 2 (.t 20)⟩),
      (12, 4095, ⟨(some 22), (some (17, false)), .load true 3 (.t 21)⟩),
      (13, 8191, ⟨(some 23), (some (17, false)), .call (.c (.func (.func 28) #[] #[])) [(.t 22)]⟩),
      (14, 16383, ⟨(some 24), (some (17, false)), .un .not (.t 23)⟩),
      (15, 32767, ⟨(some 25), none, .pick (.t 17) (.c (.bool true)) (.t 24)⟩),
      (16, 65535, ⟨(some 26), none, .move (.t 25)⟩),
      (17, 131071, ⟨(some 27), (some (26, false)), .move (.t 0)⟩),
      (18, 131071, ⟨(some 28), (some (26, false)), .move (.t 3)⟩),
      (19, 524287, ⟨(some 29), (some (26, false)), .indexAddr 5 (.t 27) (.t 28)⟩),
      (20, 1048575, ⟨(some 30), (some (26, false)), .fieldAddr 1 (.t 29)⟩),
      (21, 2097151, ⟨(some 31), (some (26, false)), .load false 1 (.t 30)⟩),
      (22, 4194303, ⟨(some 32), (some (26, false)), .bin .lss 3 (.t 31) (.c (.int .i64 1))⟩),
      (23, 8388607, ⟨(some 33), none, .pick (.t 26) (.c (.bool true)) (.t 32)⟩),
      (24, 16777215, ⟨(some 34), none, .move (.t 33)⟩),
      (25, 33554431, ⟨(some 35), (some (34, false)), .move (.t 3)⟩),
      (26, 67108863, ⟨(some 36), (some (34, false)), .bin .gtr 3 (.t 35) (.c (.int .i64 0))⟩),
      (27, 134217727, ⟨(some 37), (some (34, false)), .move (.t 36)⟩),
      (28, 268435455, ⟨(some 38), (some (37, true)), .move (.t 0)⟩),
      (29, 268435455, ⟨(some 39), (some (37, true)), .move (.t 3)⟩),
      (30, 805306367, ⟨(some 40), (some (37, true)), .bin .sub 3 (.t 39) (.c (.int .i64 1))⟩),
      (31, 2147483647, ⟨(some 41), (some (37, true)), .indexAddr 5 (.t 38) (.t 40)⟩),
      (32, 4294967295, ⟨(some 42), (some (37, true)), .fieldAddr 0 (.t 41)⟩),
      (33, 8589934591, ⟨(some 43), (some (37, true)), .load false 1 (.t 42)⟩),
      (34, 268435455, ⟨(some 44), (some (37, true)), .move (.t 0)⟩),
      (35, 268435455, ⟨(some 45), (some (37, true)), .move (.t 3)⟩),
      (36, 51808043007, ⟨(some 46), (some (37, true)), .indexAddr 5 (.t 44) (.t 45)⟩),
      (37, 120527519743, ⟨(some 47), (some (37, true)), .fieldAddr 0 (.t 46)⟩),
      (38, 257966473215, ⟨(some 48), (some (37, true)), .load false 1 (.t 47)⟩),
      (39, 549755813887, ⟨(some 49), (some (37, true)), .bin .geq 9 (.t 43) (.t 48)⟩),
      (40, 1099511627775, ⟨(some 50), (some (34, false)), .pick (.t 37) (.t 49) (.c (.bool false))⟩),
      (41, 2199023255551, ⟨(some 51), none, .pick (.t 34) (.c (.bool true)) (.t 50)⟩)] (some [0, 3, 51]))
    (.cond (.t 51)
     (.seq (.ops [⟨(some 2), none, .move (.c (.bool false))⟩] (some [2]))
     .ret)
     .skip)))
   (.ops [⟨(some 8), none, .move (.t 3)⟩,
     ⟨(some 9), none, .bin .add 3 (.t 8) (.c (.int .i64 1))⟩,
     ⟨(some 3), none, .move (.t 9)⟩] (some [0, 3])))))))
 (.seq (.ops [⟨(some 2), none, .move (.c (.bool true))⟩] (some [2]))
 .ret))), [.tmp 2]⟩

theorem is12 : FnIs Try.prog 12 x12 := ⟨Try.f12, _, Try.func12, by kernel_rfl, rfl, by kernel_rfl, by decide, by kernel_rfl⟩

/-- cloisonne/cloisonneref30.Done -/
def x13 : XDecl := .code ⟨1, 
 (.seq (.ops [⟨(some 2), none, .move (.c (.bool false))⟩] (some [0]))
 (.seq (.seq (.ops [⟨(some 3), none, .move (.c (.int .i64 0))⟩] (some [0, 3]))
 (.block 0
  (.loop
   (.seq (.seq (.ops [⟨(some 4), none, .move (.t 3)⟩,
     ⟨(some 5), none, .move (.t 0)⟩,
     ⟨(some 6), none, .len (.t 5)⟩,
     ⟨(some 7), none, .bin .lss 3 (.t 4) (.t 6)⟩] (some [0, 3, 7]))
   (.cond (.t 7)
    .skip
    (.exit 0)))
   (.seq (.block 1
    (.seq (.opsd [(0, 0, ⟨(some 10), none, .move (.t 0)⟩),
      (1, 0, ⟨(some 11), none, .move (.t 3)⟩),
      (2, 0, ⟨(some 12), none, .move (.t 3)⟩),
      (3, 4, ⟨(some 13), none, .bin .add 3 (.t 12) (.c (.int .i64 1))⟩),
      (4, 15, ⟨(some 14), none, .slice 5 (.t 10) (some (.t 11)) (some (.t 13)) none⟩),
      (5, 31, ⟨(some 15), none, .call (.c (.func (.func 29) #[] #[])) [(.t 14)]⟩),
      (6, 63, ⟨(some 16), none, .un .not (.t 15)⟩),
      (7, 127, ⟨(some 17), none, .move (.t 16)⟩),
      (8, 255, ⟨(some 18), (some (17, false)), .move (.t 3)⟩),
      (9, 511, ⟨(some 19), (some (17, false)), .bin .gtr 3 (.t 18) (.c (.int .i64 0))⟩),
      (10, 1023, ⟨(some 20), (some (17, false)), .move (.t 19)⟩),
      (11, 2047, ⟨(some 21), (some (20, true)), .move (.t 0)⟩),
      (12, 2047, ⟨(some 22), (some (20, true)), .move (.t 3)⟩),
      (13, 6143, ⟨(some 23), (some (20, true)), .bin .sub 3 (.t 22) (.c (.int .i64 1))⟩),
      (14, 16383, ⟨(some 24), (some (20, true)), .indexAddr 5 (.t 21) (.t 23)⟩),
      (15, 32767, ⟨(some 25), (some (20, true)), .fieldAddr 0 (.t 24)⟩),
      (16, 65535, ⟨(some 26), (some (20, true)), .load false 1 (.t 25)⟩),
      (17, 2047, ⟨(some 27), (some (20, true)), .move (.t 0)⟩),
      (18, 2047, ⟨(some 28), (some (20, true)), .move (.t 3)⟩),
      (19, 395263, ⟨(some 29), (some (20, true)), .indexAddr 5 (.t 27) (.t 28)⟩),
      (20, 919551, ⟨(some 30), (some (20, true)), .fieldAddr 0 (.t 29)⟩),
      (21, 1968127, ⟨(some 31), (some (20, true)), .load false 1 (.t 30)⟩),
      (22, 4194303, ⟨(some 32), (some (20, true)), .bin .geq 9 (.t 26) (.t 31)⟩),
      (23, 8388607, ⟨(some 33), (some (17, false)), .pick (.t 20) (.t 32) (.c (.bool false))⟩),
      (24, 16777215, ⟨(some 34), none, .pick (.t 17) (.c (.bool true)) (.t 33)⟩)] (some [0, 3, 34]))
    (.cond (.t 34)
     (.seq (.ops [⟨(some 2), none, .move (.c (.bool false))⟩] (some [2]))
     .ret)
     .skip)))
   (.ops [⟨(some 8), none, .move (.t 3)⟩,
     ⟨(some 9), none, .bin .add 3 (.t 8) (.c (.int .i64 1))⟩,
     ⟨(some 3), none, .move (.t 9)⟩] (some [0, 3])))))))
 (.seq (.ops [⟨(some 2), none, .move (.c (.bool true))⟩] (some [2]))
 .ret))), [.tmp 2]⟩

theorem is13 : FnIs Try.prog 13 x13 := ⟨Try.f13, _, Try.func13, by kernel_rfl, rfl, by kernel_rfl, by decide, by kernel_rfl⟩

/-- cloisonne/cloisonneref30.Apply -/
def x14 : XDecl := .code ⟨3, 
 (.seq (.ops [⟨(some 4), none, .box (.t 1)⟩,
   ⟨(some 6), none, .move (.c (.slice none 0 0))⟩] (some [0, 2, 4]))
 (.seq (.ops [⟨(some 10), none, .buildSlice [(.string .empty), (.int .i64 0), (.bool false), (.string .empty), (.int .u64 0)] 5 0 []⟩,
   ⟨(some 7), none, .move (.t 10)⟩] (some [0, 2, 4, 7]))
 (.seq (.ops [⟨(some 11), none, .fieldAddr 1 (.t 4)⟩,
   ⟨(some 12), none, .load false 1 (.t 11)⟩,
   ⟨(some 8), none, .move (.t 12)⟩] (some [0, 2, 4, 7, 8]))
 (.seq (.seq (.ops [⟨(some 9), none, .move (.c (.int .i64 0))⟩] (some [0, 2, 4, 7, 8, 9]))
 (.block 0
  (.loop
   (.seq (.seq (.ops [⟨(some 13), none, .move (.t 9)⟩,
     ⟨(some 14), none, .move (.t 0)⟩,
     ⟨(some 15), none, .len (.t 14)⟩,
     ⟨(some 16), none, .bin .lss 3 (.t 13) (.t 15)⟩] (some [0, 2, 4, 7, 8, 9, 16]))
   (.cond (.t 16)
    .skip
    (.exit 0)))
   (.seq (.block 1
    (.seq (.seq (.opsr [⟨(some 19), none, .move (.t 8)⟩,
      ⟨(some 20), none, .un .not (.t 19)⟩,
      ⟨(some 21), none, .move (.t 20)⟩,
      ⟨(some 22), (some (21, true)), .move (.t 0)⟩,
      ⟨(some 23), (some (21, true)), .move (.t 9)⟩,
      ⟨(some 24), (some (21, true)), .indexAddr 5 (.t 22) (.t 23)⟩,
      ⟨(some 25), (some (21, true)), .fieldAddr 0 (.t 24)⟩,
      ⟨(some 26), (some (21, true)), .load false 1 (.t 25)⟩,
      ⟨(some 27), (some (21, true)), .fieldAddr 0 (.t 4)⟩,
      ⟨(some 28), (some (21, true)), .load false 1 (.t 27)⟩,
      ⟨(some 29), (some (21, true)), .bin .geq 9 (.t 26) (.t 28)⟩,
      ⟨(some 30), none, .pick (.t 21) (.t 29) (.c (.bool false))⟩] (some [0, 2, 4, 7, 8, 9, 30]))
    (.cond (.t 30)
     (.seq (.ops [⟨(some 31), none, .move (.t 7)⟩,
       ⟨(some 32), none, .fieldAddr 0 (.t 4)⟩,
       ⟨(some 33), none, .load false 1 (.t 32)⟩,
       ⟨(some 34), none, .move (.t 2)⟩,
       ⟨(some 35), none, .fieldAddr 2 (.t 4)⟩,
       ⟨(some 36), none, .load true 3 (.t 35)⟩,
       ⟨(some 37), none, .build [(.string .empty), (.int .i64 0), (.bool false), (.string .empty), (.int .u64 0)] [(0, 1), (1, 1), (2, 3)] [(0, (.t 33)), (1, (.t 34)), (2, (.t 36))]⟩,
       ⟨(some 38), none, .buildSlice [(.string .empty), (.int .i64 0), (.bool false), (.string .empty), (.int .u64 0)] 5 1 [(0, (.t 37))]⟩,
       ⟨(some 39), none, .append 5 56 [(.string .empty), (.int .i64 0), (.bool false), (.string .empty), (.int .u64 0)] (.t 31) (.t 38)⟩,
       ⟨(some 7), none, .move (.t 39)⟩] (some [0, 2, 4, 7, 9]))
     (.ops [⟨(some 8), none, .move (.c (.bool true))⟩] (some [0, 2, 4, 7, 8, 9])))
     .skip))
    (.seq (.opsr [⟨(some 40), none, .move (.t 0)⟩,
      ⟨(some 41), none, .move (.t 9)⟩,
      ⟨(some 42), none, .indexAddr 5 (.t 40) (.t 41)⟩,
      ⟨(some 43), none, .fieldAddr 0 (.t 42)⟩,
      ⟨(some 44), none, .load false 1 (.t 43)⟩,
      ⟨(some 45), none, .fieldAddr 0 (.t 4)⟩,
      ⟨(some 46), none, .load false 1 (.t 45)⟩,
      ⟨(some 47), none, .bin .neq 9 (.t 44) (.t 46)⟩] (some [0, 2, 4, 7, 8, 9, 47]))
    (.cond (.t 47)
     (.ops [⟨(some 48), none, .move (.t 7)⟩,
       ⟨(some 49), none, .move (.t 0)⟩,
       ⟨(some 50), none, .move (.t 9)⟩,
       ⟨(some 51), none, .indexAddr 5 (.t 49) (.t 50)⟩,
       ⟨(some 52), none, .load true 5 (.t 51)⟩,
       ⟨(some 53), none, .buildSlice [(.string .empty), (.int .i64 0), (.bool false), (.string .empty), (.int .u64 0)] 5 1 [(0, (.t 52))]⟩,
       ⟨(some 54), none, .append 5 56 [(.string .empty), (.int .i64 0), (.bool false), (.string .empty), (.int .u64 0)] (.t 48) (.t 53)⟩,
       ⟨(some 7), none, .move (.t 54)⟩] (some [0, 2, 4, 7, 8, 9]))
     .skip))))
   (.ops [⟨(some 17), none, .move (.t 9)⟩,
     ⟨(some 18), none, .bin .add 3 (.t 17) (.c (.int .i64 1))⟩,
     ⟨(some 9), none, .move (.t 18)⟩] (some [0, 2, 4, 7, 8, 9])))))))
 (.seq (.seq (.ops [⟨(some 55), none, .move (.t 8)⟩,
   ⟨(some 56), none, .un .not (.t 55)⟩] (some [2, 4, 7, 56]))
 (.cond (.t 56)
  (.ops [⟨(some 57), none, .move (.t 7)⟩,
    ⟨(some 58), none, .fieldAddr 0 (.t 4)⟩,
    ⟨(some 59), none, .load false 1 (.t 58)⟩,
    ⟨(some 60), none, .move (.t 2)⟩,
    ⟨(some 61), none, .fieldAddr 2 (.t 4)⟩,
    ⟨(some 62), none, .load true 3 (.t 61)⟩,
    ⟨(some 63), none, .build [(.string .empty), (.int .i64 0), (.bool false), (.string .empty), (.int .u64 0)] [(0, 1), (1, 1), (2, 3)] [(0, (.t 59)), (1, (.t 60)), (2, (.t 62))]⟩,
    ⟨(some 64), none, .buildSlice [(.string .empty), (.int .i64 0), (.bool false), (.string .empty), (.int .u64 0)] 5 1 [(0, (.t 63))]⟩,
    ⟨(some 65), none, .append 5 56 [(.string .empty), (.int .i64 0), (.bool false), (.string .empty), (.int .u64 0)] (.t 57) (.t 64)⟩,
    ⟨(some 7), none, .move (.t 65)⟩] (some [7]))
  .skip))
 (.seq (.ops [⟨(some 66), none, .move (.t 7)⟩,
   ⟨(some 6), none, .move (.t 66)⟩] (some [6]))
 .ret)))))), [.tmp 6]⟩

theorem is14 : FnIs Try.prog 14 x14 := ⟨Try.f14, _, Try.func14, by kernel_rfl, rfl, by kernel_rfl, by decide, by kernel_rfl⟩

/-- cloisonne/diff.Merge -/
def x15 : XDecl := .code ⟨3, 
 (.seq (.ops [⟨(some 6), none, .move (.c (.slice none 0 0))⟩,
   ⟨(some 7), none, .move (.c (.slice none 0 0))⟩,
   ⟨(some 8), none, .move (.c (.int .i64 0))⟩] (some [0, 1, 2]))
 (.seq (.seq (.ops [⟨(some 17), none, .move (.t 0)⟩,
   ⟨(some 18), none, .call (.c (.func (.func 23) #[] #[])) [(.t 17)]⟩,
   ⟨(some 19), none, .un .not (.t 18)⟩,
   ⟨(some 20), none, .move (.t 19)⟩,
   ⟨(some 21), (some (20, false)), .move (.t 1)⟩,
   ⟨(some 22), (some (20, false)), .call (.c (.func (.func 23) #[] #[])) [(.t 21)]⟩,
   ⟨(some 23), (some (20, false)), .un .not (.t 22)⟩,
   ⟨(some 24), none, .pick (.t 20) (.c (.bool true)) (.t 23)⟩,
   ⟨(some 25), none, .move (.t 24)⟩,
   ⟨(some 26), (some (25, false)), .move (.t 2)⟩,
   ⟨(some 27), (some (25, false)), .call (.c (.func (.func 23) #[] #[])) [(.t 26)]⟩,
   ⟨(some 28), (some (25, false)), .un .not (.t 27)⟩,
   ⟨(some 29), none, .pick (.t 25) (.c (.bool true)) (.t 28)⟩] (some [0, 1, 2, 29]))
 (.cond (.t 29)
  (.seq (.ops [⟨(some 6), none, .move (.c (.slice none 0 0))⟩,
    ⟨(some 7), none, .move (.c (.slice none 0 0))⟩,
    ⟨(some 8), none, .move (.c (.int .i64 1))⟩] (some [6, 7, 8]))
  .ret)
  .skip))
 (.seq (.ops [⟨(some 9), none, .move (.c (.slice none 0 0))⟩] (some [0, 1, 2, 9]))
 (.seq (.ops [⟨(some 10), none, .move (.c (.slice none 0 0))⟩] (some [0, 1, 2, 9, 10]))
 (.seq (.seq (.ops [⟨(some 30), none, .move (.t 0)⟩,
   ⟨(some 31), none, .move (.t 1)⟩,
   ⟨(some 32), none, .move (.t 2)⟩,
   ⟨(some 33), none, .buildSlice [(.slice none 0 0)] 1 3 [(0, (.t 30)), (1, (.t 31)), (2, (.t 32))]⟩,
   ⟨(some 34), none, .call (.c (.func (.func 30) #[] #[])) [(.t 33)]⟩,
   ⟨(some 35), none, .len (.t 34)⟩,
   ⟨(some 36), none, .move (.c (.int .i64 0))⟩] (some [0, 1, 2, 9, 10, 34, 35, 36]))
 (.block 0
  (.loop
   (.seq (.ops [⟨(some 37), none, .bin .lss 3 (.t 36) (.t 35)⟩] (some [0, 1, 2, 9, 10, 34, 35, 36, 37]))
   (.seq (.cond (.t 37)
    .skip
    (.exit 0))
   (.seq (.block 1
    (.seq (.ops [⟨(some 38), none, .indexAddr 1 (.t 34) (.t 36)⟩,
      ⟨(some 39), none, .load false 1 (.t 38)⟩,
      ⟨(some 12), none, .move (.t 39)⟩] (some [0, 1, 2, 9, 10, 12, 34, 35, 36]))
    (.seq (.ops [⟨(some 41), none, .move (.t 0)⟩,
      ⟨(some 42), none, .move (.t 1)⟩,
      ⟨(some 43), none, .move (.t 12)⟩,
      ⟨(some 44), none, .call (.c (.func (.func 31) #[] #[])) [(.t 41), (.t 42), (.t 43)]⟩,
      ⟨(some 40), none, .move (.t 44)⟩,
      ⟨(some 45), none, .extract (.t 40) 0⟩,
      ⟨(some 46), none, .extract (.t 40) 1⟩,
      ⟨(some 13), none, .alloc [(.string .empty), (.bool false), (.bool false), (.string .empty), (.int .u64 0)]⟩,
      ⟨none, none, .store 5 (.t 13) (.t 45)⟩,
      ⟨(some 14), none, .move (.t 46)⟩] (some [0, 1, 2, 9, 10, 12, 13, 14, 34, 35, 36]))
    (.seq (.ops [⟨(some 48), none, .move (.t 0)⟩,
      ⟨(some 49), none, .move (.t 2)⟩,
      ⟨(some 50), none, .move (.t 12)⟩,
      ⟨(some 51), none, .call (.c (.func (.func 31) #[] #[])) [(.t 48), (.t 49), (.t 50)]⟩,
      ⟨(some 47), none, .move (.t 51)⟩,
      ⟨(some 52), none, .extract (.t 47) 0⟩,
      ⟨(some 53), none, .extract (.t 47) 1⟩,
      ⟨(some 15), none, .alloc [(.string .empty), (.bool false), (.bool false), (.string .empty), (.int .u64 0)]⟩,
      ⟨none, none, .store 5 (.t 15) (.t 52)⟩,
      ⟨(some 16), none, .move (.t 53)⟩] (some [0, 1, 2, 9, 10, 12, 13, 14, 15, 16, 34, 35, 36]))
    (.seq (.seq (.ops [⟨(some 54), none, .move (.t 14)⟩,
      ⟨(some 55), none, .un .not (.t 54)⟩,
      ⟨(some 56), none, .move (.t 55)⟩,
      ⟨(some 57), (some (56, false)), .move (.t 16)⟩,
      ⟨(some 58), (some (56, false)), .move (.t 57)⟩,
      ⟨(some 59), (some (58, true)), .load true 5 (.t 13)⟩,
      ⟨(some 60), (some (58, true)), .load true 5 (.t 15)⟩,
      ⟨(some 61), (some (58, true)), .bin .eql 36 (.t 59) (.t 60)⟩,
      ⟨(some 62), (some (56, false)), .pick (.t 58) (.t 61) (.c (.bool false))⟩,
      ⟨(some 63), none, .pick (.t 56) (.c (.bool true)) (.t 62)⟩] (some [0, 1, 2, 9, 10, 12, 13, 15, 16, 34, 35, 36, 63]))
    (.cond (.t 63)
     (.exit 1)
     .skip))
    (.seq (.seq (.ops [⟨(some 64), none, .move (.t 16)⟩] (some [0, 1, 2, 9, 10, 12, 13, 15, 34, 35, 36, 64]))
    (.cond (.t 64)
     (.ops [⟨(some 65), none, .move (.t 10)⟩,
       ⟨(some 66), none, .move (.t 12)⟩,
       ⟨(some 67), none, .load true 5 (.t 13)⟩,
       ⟨(some 68), none, .load true 5 (.t 15)⟩,
       ⟨(some 69), none, .build [(.string .empty), (.string .empty), (.bool false), (.bool false), (.string .empty), (.int .u64 0), (.string .empty), (.bool false), (.bool false), (.string .empty), (.int .u64 0)] [(0, 1), (1, 5), (6, 5)] [(0, (.t 66)), (1, (.t 67)), (2, (.t 68))]⟩,
       ⟨(some 70), none, .buildSlice [(.string .empty), (.string .empty), (.bool false), (.bool false), (.string .empty), (.int .u64 0), (.string .empty), (.bool false), (.bool false), (.string .empty), (.int .u64 0)] 11 1 [(0, (.t 69))]⟩,
       ⟨(some 71), none, .append 11 128 [(.string .empty), (.string .empty), (.bool false), (.bool false), (.string .empty), (.int .u64 0), (.string .empty), (.bool false), (.bool false), (.string .empty), (.int .u64 0)] (.t 65) (.t 70)⟩,
       ⟨(some 10), none, .move (.t 71)⟩] (some [0, 1, 2, 9, 10, 13, 34, 35, 36]))
     .skip))
    (.ops [⟨(some 72), none, .move (.t 9)⟩,
      ⟨(some 73), none, .load true 5 (.t 13)⟩,
      ⟨(some 74), none, .buildSlice [(.string .empty), (.bool false), (.bool false), (.string .empty), (.int .u64 0)] 5 1 [(0, (.t 73))]⟩,
      ⟨(some 75), none, .append 5 56 [(.string .empty), (.bool false), (.bool false), (.string .empty), (.int .u64 0)] (.t 72) (.t 74)⟩,
      ⟨(some 9), none, .move (.t 75)⟩] (some [0, 1, 2, 9, 10, 34, 35, 36]))))))))
   (.ops [⟨(some 76), none, .bin .add 3 (.t 36) (.c (.int .i64 1))⟩,
     ⟨(some 36), none, .move (.t 76)⟩] (some [0, 1, 2, 9, 10, 34, 35, 36]))))))))
 (.seq (.ops [⟨(some 77), none, .move (.t 9)⟩,
   ⟨(some 78), none, .move (.t 10)⟩,
   ⟨(some 6), none, .move (.t 77)⟩,
   ⟨(some 7), none, .move (.t 78)⟩,
   ⟨(some 8), none, .move (.c (.int .i64 0))⟩] (some [6, 7, 8]))
 .ret)))))), [.tmp 6, .tmp 7, .tmp 8]⟩

theorem is15 : FnIs Try.prog 15 x15 := ⟨Try.f15, _, Try.func15, by kernel_rfl, rfl, by kernel_rfl, by decide, by kernel_rfl⟩

/-- cloisonne/cloisonneref12.Same -/
def x16 : XDecl := .code ⟨2, 
 (.seq (.ops [⟨(some 4), none, .move (.c (.bool false))⟩] (some [0, 1]))
 (.seq (.seq (.ops [⟨(some 6), none, .move (.t 0)⟩,
   ⟨(some 7), none, .len (.t 6)⟩,
   ⟨(some 8), none, .move (.t 1)⟩,
   ⟨(some 9), none, .len (.t 8)⟩,
   ⟨(some 10), none, .bin .neq 3 (.t 7) (.t 9)⟩] (some [0, 1, 10]))
 (.cond (.t 10)
  (.seq (.ops [⟨(some 4), none, .move (.c (.bool false))⟩] (some [4]))
  .ret)
  .skip))
 (.seq (.seq (.ops [⟨(some 5), none, .move (.c (.int .i64 0))⟩] (some [0, 1, 5]))
 (.block 0
  (.loop
   (.seq (.seq (.ops [⟨(some 11), none, .move (.t 5)⟩,
     ⟨(some 12), none, .move (.t 0)⟩,
     ⟨(some 13), none, .len (.t 12)⟩,
     ⟨(some 14), none, .bin .lss 3 (.t 11) (.t 13)⟩] (some [0, 1, 5, 14]))
   (.cond (.t 14)
    .skip
    (.exit 0)))
   (.seq (.block 1
    (.seq (.opsr [⟨(some 17), none, .move (.t 0)⟩,
      ⟨(some 18), none, .move (.t 5)⟩,
      ⟨(some 19), none, .indexAddr 5 (.t 17) (.t 18)⟩,
      ⟨(some 20), none, .load true 5 (.t 19)⟩,
      ⟨(some 21), none, .move (.t 1)⟩,
      ⟨(some 22), none, .move (.t 5)⟩,
      ⟨(some 23), none, .indexAddr 5 (.t 21) (.t 22)⟩,
      ⟨(some 24), none, .load true 5 (.t 23)⟩,
      ⟨(some 25), none, .bin .neq 36 (.t 20) (.t 24)⟩] (some [0, 1, 5, 25]))
    (.cond (.t 25)
     (.seq (.ops [⟨(some 4), none, .move (.c (.bool false))⟩] (some [4]))
     .ret)
     .skip)))
   (.ops [⟨(some 15), none, .move (.t 5)⟩,
     ⟨(some 16), none, .bin .add 3 (.t 15) (.c (.int .i64 1))⟩,
     ⟨(some 5), none, .move (.t 16)⟩] (some [0, 1, 5])))))))
 (.seq (.ops [⟨(some 4), none, .move (.c (.bool true))⟩] (some [4]))
 .ret)))), [.tmp 4]⟩

theorem is16 : FnIs Try.prog 16 x16 := ⟨Try.f16, _, Try.func16, by kernel_rfl, rfl, by kernel_rfl, by decide, by kernel_rfl⟩

/-- cloisonne/cloisonneref30.Writes -/
def x17 : XDecl := .code ⟨2, 
 (.seq (.ops [⟨(some 4), none, .move (.c (.slice none 0 0))⟩] (some [0, 1]))
 (.seq (.ops [⟨(some 10), none, .buildSlice [(.string .empty)] 1 0 []⟩,
   ⟨(some 11), none, .move (.t 0)⟩,
   ⟨(some 12), none, .call (.c (.func (.func 18) #[] #[])) [(.t 10), (.t 11)]⟩,
   ⟨(some 13), none, .move (.t 1)⟩,
   ⟨(some 14), none, .call (.c (.func (.func 18) #[] #[])) [(.t 12), (.t 13)]⟩,
   ⟨(some 5), none, .move (.t 14)⟩] (some [0, 1, 5]))
 (.seq (.ops [⟨(some 15), none, .buildSlice [(.string .empty), (.bool false), (.bool false), (.string .empty), (.int .u64 0)] 5 0 []⟩,
   ⟨(some 6), none, .move (.t 15)⟩] (some [0, 1, 5, 6]))
 (.seq (.seq (.ops [⟨(some 7), none, .move (.c (.int .i64 0))⟩] (some [0, 1, 5, 6, 7]))
 (.block 0
  (.loop
   (.seq (.seq (.ops [⟨(some 16), none, .move (.t 7)⟩,
     ⟨(some 17), none, .move (.t 5)⟩,
     ⟨(some 18), none, .len (.t 17)⟩,
     ⟨(some 19), none, .bin .lss 3 (.t 16) (.t 18)⟩] (some [0, 1, 5, 6, 7, 19]))
   (.cond (.t 19)
    .skip
    (.exit 0)))
   (.seq (.block 1
    (.seq (.ops [⟨(some 23), none, .move (.t 0)⟩,
      ⟨(some 24), none, .move (.t 1)⟩,
      ⟨(some 25), none, .move (.t 5)⟩,
      ⟨(some 26), none, .move (.t 7)⟩,
      ⟨(some 27), none, .indexAddr 1 (.t 25) (.t 26)⟩,
      ⟨(some 28), none, .load false 1 (.t 27)⟩,
      ⟨(some 29), none, .call (.c (.func (.func 19) #[] #[])) [(.t 23), (.t 24), (.t 28)]⟩,
      ⟨(some 22), none, .move (.t 29)⟩,
      ⟨(some 30), none, .extract (.t 22) 0⟩,
      ⟨(some 31), none, .extract (.t 22) 1⟩,
      ⟨(some 8), none, .alloc [(.string .empty), (.bool false), (.bool false), (.string .empty), (.int .u64 0)]⟩,
      ⟨none, none, .store 5 (.t 8) (.t 30)⟩,
      ⟨(some 9), none, .move (.t 31)⟩] (some [0, 1, 5, 6, 7, 8, 9]))
    (.seq (.ops [⟨(some 32), none, .move (.t 9)⟩] (some [0, 1, 5, 6, 7, 8, 32]))
    (.cond (.t 32)
     (.ops [⟨(some 33), none, .move (.t 6)⟩,
       ⟨(some 34), none, .load true 5 (.t 8)⟩,
       ⟨(some 35), none, .buildSlice [(.string .empty), (.bool false), (.bool false), (.string .empty), (.int .u64 0)] 5 1 [(0, (.t 34))]⟩,
       ⟨(some 36), none, .append 5 56 [(.string .empty), (.bool false), (.bool false), (.string .empty), (.int .u64 0)] (.t 33) (.t 35)⟩,
       ⟨(some 6), none, .move (.t 36)⟩] (some [0, 1, 5, 6, 7]))
     .skip))))
   (.ops [⟨(some 20), none, .move (.t 7)⟩,
     ⟨(some 21), none, .bin .add 3 (.t 20) (.c (.int .i64 1))⟩,
     ⟨(some 7), none, .move (.t 21)⟩] (some [0, 1, 5, 6, 7])))))))
 (.seq (.ops [⟨(some 37), none, .move (.t 6)⟩,
   ⟨(some 4), none, .move (.t 37)⟩] (some [4]))
 .ret))))), [.tmp 4]⟩

theorem is17 : FnIs Try.prog 17 x17 := ⟨Try.f17, _, Try.func17, by kernel_rfl, rfl, by kernel_rfl, by decide, by kernel_rfl⟩

/-- cloisonne/cloisonneref30.Keys -/
def x18 : XDecl := .code ⟨2, 
 (.seq (.ops [⟨(some 4), none, .move (.c (.slice none 0 0))⟩] (some [0, 1]))
 (.seq (.ops [⟨(some 8), none, .buildSlice [(.string .empty)] 1 0 []⟩,
   ⟨(some 5), none, .move (.t 8)⟩] (some [0, 1, 5]))
 (.seq (.ops [⟨(some 6), none, .move (.c (.int .i64 0))⟩,
   ⟨(some 7), none, .move (.c (.int .i64 0))⟩] (some [0, 1, 5, 6, 7]))
 (.seq (.block 0
  (.loop
   (.seq (.seq (.ops [⟨(some 9), none, .move (.t 6)⟩,
     ⟨(some 10), none, .move (.t 0)⟩,
     ⟨(some 11), none, .len (.t 10)⟩,
     ⟨(some 12), none, .bin .lss 3 (.t 9) (.t 11)⟩,
     ⟨(some 13), none, .move (.t 12)⟩,
     ⟨(some 14), (some (13, false)), .move (.t 7)⟩,
     ⟨(some 15), (some (13, false)), .move (.t 1)⟩,
     ⟨(some 16), (some (13, false)), .len (.t 15)⟩,
     ⟨(some 17), (some (13, false)), .bin .lss 3 (.t 14) (.t 16)⟩,
     ⟨(some 18), none, .pick (.t 13) (.c (.bool true)) (.t 17)⟩] (some [0, 1, 5, 6, 7, 18]))
   (.cond (.t 18)
    .skip
    (.exit 0)))
   (.block 1
    (.seq (.opsr [⟨(some 19), none, .move (.t 7)⟩,
      ⟨(some 20), none, .move (.t 1)⟩,
      ⟨(some 21), none, .len (.t 20)⟩,
      ⟨(some 22), none, .bin .geq 3 (.t 19) (.t 21)⟩,
      ⟨(some 23), none, .move (.t 22)⟩,
      ⟨(some 24), (some (23, false)), .move (.t 6)⟩,
      ⟨(some 25), (some (23, false)), .move (.t 0)⟩,
      ⟨(some 26), (some (23, false)), .len (.t 25)⟩,
      ⟨(some 27), (some (23, false)), .bin .lss 3 (.t 24) (.t 26)⟩,
      ⟨(some 28), (some (23, false)), .move (.t 27)⟩,
      ⟨(some 29), (some (28, true)), .move (.t 0)⟩,
      ⟨(some 30), (some (28, true)), .move (.t 6)⟩,
      ⟨(some 31), (some (28, true)), .indexAddr 1 (.t 29) (.t 30)⟩,
      ⟨(some 32), (some (28, true)), .load false 1 (.t 31)⟩,
      ⟨(some 33), (some (28, true)), .move (.t 1)⟩,
      ⟨(some 34), (some (28, true)), .move (.t 7)⟩,
      ⟨(some 35), (some (28, true)), .indexAddr 5 (.t 33) (.t 34)⟩,
      ⟨(some 36), (some (28, true)), .fieldAddr 0 (.t 35)⟩,
      ⟨(some 37), (some (28, true)), .load false 1 (.t 36)⟩,
      ⟨(some 38), (some (28, true)), .bin .lss 9 (.t 32) (.t 37)⟩,
      ⟨(some 39), (some (23, false)), .pick (.t 28) (.t 38) (.c (.bool false))⟩,
      ⟨(some 40), none, .pick (.t 23) (.c (.bool true)) (.t 39)⟩] (some [0, 1, 5, 6, 7, 40]))
    (.cond (.t 40)
     (.seq (.ops [⟨(some 41), none, .move (.t 5)⟩,
       ⟨(some 42), none, .move (.t 0)⟩,
       ⟨(some 43), none, .move (.t 6)⟩,
       ⟨(some 44), none, .indexAddr 1 (.t 42) (.t 43)⟩,
       ⟨(some 45), none, .load false 1 (.t 44)⟩,
       ⟨(some 46), none, .buildSlice [(.string .empty)] 1 1 [(0, (.t 45))]⟩,
       ⟨(some 47), none, .append 1 16 [(.string .empty)] (.t 41) (.t 46)⟩,
       ⟨(some 5), none, .move (.t 47)⟩] (some [0, 1, 5, 6, 7]))
     (.ops [⟨(some 48), none, .move (.t 6)⟩,
       ⟨(some 49), none, .bin .add 3 (.t 48) (.c (.int .i64 1))⟩,
       ⟨(some 6), none, .move (.t 49)⟩] (some [0, 1, 5, 6, 7])))
     (.seq (.opsr [⟨(some 50), none, .move (.t 6)⟩,
       ⟨(some 51), none, .move (.t 0)⟩,
       ⟨(some 52), none, .len (.t 51)⟩,
       ⟨(some 53), none, .bin .lss 3 (.t 50) (.t 52)⟩,
       ⟨(some 54), none, .move (.t 53)⟩,
       ⟨(some 55), (some (54, true)), .move (.t 0)⟩,
       ⟨(some 56), (some (54, true)), .move (.t 6)⟩,
       ⟨(some 57), (some (54, true)), .indexAddr 1 (.t 55) (.t 56)⟩,
       ⟨(some 58), (some (54, true)), .load false 1 (.t 57)⟩,
       ⟨(some 59), (some (54, true)), .move (.t 1)⟩,
       ⟨(some 60), (some (54, true)), .move (.t 7)⟩,
       ⟨(some 61), (some (54, true)), .indexAddr 5 (.t 59) (.t 60)⟩,
       ⟨(some 62), (some (54, true)), .fieldAddr 0 (.t 61)⟩,
       ⟨(some 63), (some (54, true)), .load false 1 (.t 62)⟩,
       ⟨(some 64), (some (54, true)), .bin .eql 9 (.t 58) (.t 63)⟩,
       ⟨(some 65), none, .pick (.t 54) (.t 64) (.c (.bool false))⟩] (some [0, 1, 5, 6, 7, 65]))
     (.cond (.t 65)
      (.ops [⟨(some 66), none, .move (.t 6)⟩,
        ⟨(some 67), none, .bin .add 3 (.t 66) (.c (.int .i64 1))⟩,
        ⟨(some 6), none, .move (.t 67)⟩] (some [0, 1, 5, 6, 7]))
      (.seq (.ops [⟨(some 68), none, .move (.t 5)⟩,
        ⟨(some 69), none, .move (.t 1)⟩,
        ⟨(some 70), none, .move (.t 7)⟩,
        ⟨(some 71), none, .indexAddr 5 (.t 69) (.t 70)⟩,
        ⟨(some 72), none, .fieldAddr 0 (.t 71)⟩,
        ⟨(some 73), none, .load false 1 (.t 72)⟩,
        ⟨(some 74), none, .buildSlice [(.string .empty)] 1 1 [(0, (.t 73))]⟩,
        ⟨(some 75), none, .append 1 16 [(.string .empty)] (.t 68) (.t 74)⟩,
        ⟨(some 5), none, .move (.t 75)⟩] (some [0, 1, 5, 6, 7]))
      (.ops [⟨(some 76), none, .move (.t 7)⟩,
        ⟨(some 77), none, .bin .add 3 (.t 76) (.c (.int .i64 1))⟩,
        ⟨(some 7), none, .move (.t 77)⟩] (some [0, 1, 5, 6, 7])))))))))))
 (.seq (.ops [⟨(some 78), none, .move (.t 5)⟩,
   ⟨(some 4), none, .move (.t 78)⟩] (some [4]))
 .ret))))), [.tmp 4]⟩

theorem is18 : FnIs Try.prog 18 x18 := ⟨Try.f18, _, Try.func18, by kernel_rfl, rfl, by kernel_rfl, by decide, by kernel_rfl⟩

/-- cloisonne/cloisonneref30.Turn -/
def x19 : XDecl := .code ⟨3, 
 (.seq (.ops [⟨(some 6), none, .alloc [(.string .empty), (.bool false), (.bool false), (.string .empty), (.int .u64 0)]⟩,
   ⟨(some 7), none, .move (.c (.bool false))⟩] (some [0, 1, 2, 6]))
 (.seq (.ops [⟨(some 13), none, .move (.t 0)⟩,
   ⟨(some 14), none, .move (.t 2)⟩,
   ⟨(some 15), none, .call (.c (.func (.func 20) #[] #[])) [(.t 13), (.t 14)]⟩,
   ⟨(some 12), none, .move (.t 15)⟩,
   ⟨(some 16), none, .extract (.t 12) 0⟩,
   ⟨(some 17), none, .extract (.t 12) 1⟩,
   ⟨(some 8), none, .alloc [(.bool false), (.string .empty), (.int .u64 0)]⟩,
   ⟨none, none, .store 3 (.t 8) (.t 16)⟩,
   ⟨(some 9), none, .move (.t 17)⟩] (some [1, 2, 6, 8, 9]))
 (.seq (.ops [⟨(some 19), none, .move (.t 1)⟩,
   ⟨(some 20), none, .move (.t 2)⟩,
   ⟨(some 21), none, .call (.c (.func (.func 20) #[] #[])) [(.t 19), (.t 20)]⟩,
   ⟨(some 18), none, .move (.t 21)⟩,
   ⟨(some 22), none, .extract (.t 18) 0⟩,
   ⟨(some 23), none, .extract (.t 18) 1⟩,
   ⟨(some 10), none, .alloc [(.bool false), (.string .empty), (.int .u64 0)]⟩,
   ⟨none, none, .store 3 (.t 10) (.t 22)⟩,
   ⟨(some 11), none, .move (.t 23)⟩] (some [2, 6, 8, 9, 10, 11]))
 (.seq (.seq (.ops [⟨(some 24), none, .move (.t 9)⟩,
   ⟨(some 25), none, .move (.t 11)⟩,
   ⟨(some 26), none, .bin .eql 4 (.t 24) (.t 25)⟩,
   ⟨(some 27), none, .move (.t 26)⟩,
   ⟨(some 28), (some (27, true)), .load true 3 (.t 8)⟩,
   ⟨(some 29), (some (27, true)), .load true 3 (.t 10)⟩,
   ⟨(some 30), (some (27, true)), .bin .eql 34 (.t 28) (.t 29)⟩,
   ⟨(some 31), none, .pick (.t 27) (.t 30) (.c (.bool false))⟩] (some [2, 6, 10, 11, 31]))
 (.cond (.t 31)
  (.seq (.ops [⟨(some 32), none, .build [(.string .empty), (.bool false), (.bool false), (.string .empty), (.int .u64 0)] [(0, 1), (1, 1), (2, 3)] []⟩,
    ⟨none, none, .store 5 (.t 6) (.t 32)⟩,
    ⟨(some 7), none, .move (.c (.bool false))⟩] (some [6, 7]))
  .ret)
  .skip))
 (.seq (.ops [⟨(some 33), none, .move (.t 2)⟩,
   ⟨(some 34), none, .move (.t 11)⟩,
   ⟨(some 35), none, .un .not (.t 34)⟩,
   ⟨(some 36), none, .load true 3 (.t 10)⟩,
   ⟨(some 37), none, .build [(.string .empty), (.bool false), (.bool false), (.string .empty), (.int .u64 0)] [(0, 1), (1, 1), (2, 3)] [(0, (.t 33)), (1, (.t 35)), (2, (.t 36))]⟩,
   ⟨none, none, .store 5 (.t 6) (.t 37)⟩,
   ⟨(some 7), none, .move (.c (.bool true))⟩] (some [6, 7]))
 .ret))))), [.cell true 5 6, .tmp 7]⟩

theorem is19 : FnIs Try.prog 19 x19 := ⟨Try.f19, _, Try.func19, by kernel_rfl, rfl, by kernel_rfl, by decide, by kernel_rfl⟩

/-- cloisonne/cloisonneref30.At -/
def x20 : XDecl := .code ⟨2, 
 (.seq (.ops [⟨(some 4), none, .alloc [(.bool false), (.string .empty), (.int .u64 0)]⟩,
   ⟨(some 5), none, .move (.c (.bool false))⟩] (some [0, 1, 4]))
 (.seq (.seq (.ops [⟨(some 6), none, .move (.c (.int .i64 0))⟩] (some [0, 1, 4, 6]))
 (.block 0
  (.loop
   (.seq (.seq (.ops [⟨(some 7), none, .move (.t 6)⟩,
     ⟨(some 8), none, .move (.t 0)⟩,
     ⟨(some 9), none, .len (.t 8)⟩,
     ⟨(some 10), none, .bin .lss 3 (.t 7) (.t 9)⟩] (some [0, 1, 4, 6, 10]))
   (.cond (.t 10)
    .skip
    (.exit 0)))
   (.seq (.block 1
    (.seq (.ops [⟨(some 13), none, .move (.t 0)⟩,
      ⟨(some 14), none, .move (.t 6)⟩,
      ⟨(some 15), none, .indexAddr 5 (.t 13) (.t 14)⟩,
      ⟨(some 16), none, .fieldAddr 0 (.t 15)⟩,
      ⟨(some 17), none, .load false 1 (.t 16)⟩,
      ⟨(some 18), none, .move (.t 1)⟩,
      ⟨(some 19), none, .bin .eql 9 (.t 17) (.t 18)⟩] (some [0, 1, 4, 6, 19]))
    (.cond (.t 19)
     (.seq (.ops [⟨(some 20), none, .move (.t 0)⟩,
       ⟨(some 21), none, .move (.t 6)⟩,
       ⟨(some 22), none, .indexAddr 5 (.t 20) (.t 21)⟩,
       ⟨(some 23), none, .fieldAddr 2 (.t 22)⟩,
       ⟨(some 24), none, .load true 3 (.t 23)⟩,
       ⟨none, none, .store 3 (.t 4) (.t 24)⟩,
       ⟨(some 5), none, .move (.c (.bool true))⟩] (some [4, 5]))
     .ret)
     .skip)))
   (.ops [⟨(some 11), none, .move (.t 6)⟩,
     ⟨(some 12), none, .bin .add 3 (.t 11) (.c (.int .i64 1))⟩,
     ⟨(some 6), none, .move (.t 12)⟩] (some [0, 1, 4, 6])))))))
 (.seq (.ops [⟨(some 25), none, .build [(.bool false), (.string .empty), (.int .u64 0)] [(0, 1), (1, 1), (2, 1)] []⟩,
   ⟨none, none, .store 3 (.t 4) (.t 25)⟩,
   ⟨(some 5), none, .move (.c (.bool false))⟩] (some [4, 5]))
 .ret))), [.cell true 3 4, .tmp 5]⟩

theorem is20 : FnIs Try.prog 20 x20 := ⟨Try.f20, _, Try.func20, by kernel_rfl, rfl, by kernel_rfl, by decide, by kernel_rfl⟩

/-- cloisonne/cloisonnelaw30.like -/
def x21 : XDecl := .code ⟨2, 
 (.seq (.ops [⟨(some 4), none, .move (.c (.bool false))⟩] (some [0, 1]))
 (.seq (.seq (.ops [⟨(some 6), none, .move (.t 0)⟩,
   ⟨(some 7), none, .len (.t 6)⟩,
   ⟨(some 8), none, .move (.t 1)⟩,
   ⟨(some 9), none, .len (.t 8)⟩,
   ⟨(some 10), none, .bin .neq 3 (.t 7) (.t 9)⟩] (some [0, 1, 10]))
 (.cond (.t 10)
  (.seq (.ops [⟨(some 4), none, .move (.c (.bool false))⟩] (some [4]))
  .ret)
  .skip))
 (.seq (.seq (.ops [⟨(some 5), none, .move (.c (.int .i64 0))⟩] (some [0, 1, 5]))
 (.block 0
  (.loop
   (.seq (.seq (.ops [⟨(some 11), none, .move (.t 5)⟩,
     ⟨(some 12), none, .move (.t 0)⟩,
     ⟨(some 13), none, .len (.t 12)⟩,
     ⟨(some 14), none, .bin .lss 3 (.t 11) (.t 13)⟩] (some [0, 1, 5, 14]))
   (.cond (.t 14)
    .skip
    (.exit 0)))
   (.seq (.block 1
    (.seq (.opsr [⟨(some 17), none, .move (.t 0)⟩,
      ⟨(some 18), none, .move (.t 5)⟩,
      ⟨(some 19), none, .indexAddr 5 (.t 17) (.t 18)⟩,
      ⟨(some 20), none, .fieldAddr 0 (.t 19)⟩,
      ⟨(some 21), none, .load false 1 (.t 20)⟩,
      ⟨(some 22), none, .move (.t 1)⟩,
      ⟨(some 23), none, .move (.t 5)⟩,
      ⟨(some 24), none, .indexAddr 5 (.t 22) (.t 23)⟩,
      ⟨(some 25), none, .fieldAddr 0 (.t 24)⟩,
      ⟨(some 26), none, .load false 1 (.t 25)⟩,
      ⟨(some 27), none, .bin .neq 9 (.t 21) (.t 26)⟩,
      ⟨(some 28), none, .move (.t 27)⟩,
      ⟨(some 29), (some (28, false)), .move (.t 0)⟩,
      ⟨(some 30), (some (28, false)), .move (.t 5)⟩,
      ⟨(some 31), (some (28, false)), .indexAddr 5 (.t 29) (.t 30)⟩,
      ⟨(some 32), (some (28, false)), .fieldAddr 2 (.t 31)⟩,
      ⟨(some 33), (some (28, false)), .load true 3 (.t 32)⟩,
      ⟨(some 34), (some (28, false)), .move (.t 1)⟩,
      ⟨(some 35), (some (28, false)), .move (.t 5)⟩,
      ⟨(some 36), (some (28, false)), .indexAddr 5 (.t 34) (.t 35)⟩,
      ⟨(some 37), (some (28, false)), .fieldAddr 2 (.t 36)⟩,
      ⟨(some 38), (some (28, false)), .load true 3 (.t 37)⟩,
      ⟨(some 39), (some (28, false)), .bin .neq 34 (.t 33) (.t 38)⟩,
      ⟨(some 40), none, .pick (.t 28) (.c (.bool true)) (.t 39)⟩] (some [0, 1, 5, 40]))
    (.cond (.t 40)
     (.seq (.ops [⟨(some 4), none, .move (.c (.bool false))⟩] (some [4]))
     .ret)
     .skip)))
   (.ops [⟨(some 15), none, .move (.t 5)⟩,
     ⟨(some 16), none, .bin .add 3 (.t 15) (.c (.int .i64 1))⟩,
     ⟨(some 5), none, .move (.t 16)⟩] (some [0, 1, 5])))))))
 (.seq (.ops [⟨(some 4), none, .move (.c (.bool true))⟩] (some [4]))
 .ret)))), [.tmp 4]⟩

theorem is21 : FnIs Try.prog 21 x21 := ⟨Try.f21, _, Try.func21, by kernel_rfl, rfl, by kernel_rfl, by decide, by kernel_rfl⟩

/-- cloisonne/diff.Writes -/
def x22 : XDecl := .code ⟨2, 
 (.seq (.ops [⟨(some 4), none, .move (.c (.slice none 0 0))⟩,
   ⟨(some 5), none, .move (.c (.int .i64 0))⟩] (some [0, 1]))
 (.seq (.seq (.ops [⟨(some 11), none, .move (.t 0)⟩,
   ⟨(some 12), none, .call (.c (.func (.func 23) #[] #[])) [(.t 11)]⟩,
   ⟨(some 13), none, .un .not (.t 12)⟩,
   ⟨(some 14), none, .move (.t 13)⟩,
   ⟨(some 15), (some (14, false)), .move (.t 1)⟩,
   ⟨(some 16), (some (14, false)), .call (.c (.func (.func 23) #[] #[])) [(.t 15)]⟩,
   ⟨(some 17), (some (14, false)), .un .not (.t 16)⟩,
   ⟨(some 18), none, .pick (.t 14) (.c (.bool true)) (.t 17)⟩] (some [0, 1, 18]))
 (.cond (.t 18)
  (.seq (.ops [⟨(some 4), none, .move (.c (.slice none 0 0))⟩,
    ⟨(some 5), none, .move (.c (.int .i64 1))⟩] (some [4, 5]))
  .ret)
  .skip))
 (.seq (.ops [⟨(some 6), none, .move (.c (.slice none 0 0))⟩] (some [0, 1, 6]))
 (.seq (.seq (.ops [⟨(some 19), none, .move (.t 0)⟩,
   ⟨(some 20), none, .move (.t 1)⟩,
   ⟨(some 21), none, .buildSlice [(.slice none 0 0)] 1 2 [(0, (.t 19)), (1, (.t 20))]⟩,
   ⟨(some 22), none, .call (.c (.func (.func 30) #[] #[])) [(.t 21)]⟩,
   ⟨(some 23), none, .len (.t 22)⟩,
   ⟨(some 24), none, .move (.c (.int .i64 0))⟩] (some [0, 1, 6, 22, 23, 24]))
 (.block 0
  (.loop
   (.seq (.ops [⟨(some 25), none, .bin .lss 3 (.t 24) (.t 23)⟩] (some [0, 1, 6, 22, 23, 24, 25]))
   (.seq (.cond (.t 25)
    .skip
    (.exit 0))
   (.seq (.block 1
    (.seq (.ops [⟨(some 26), none, .indexAddr 1 (.t 22) (.t 24)⟩,
      ⟨(some 27), none, .load false 1 (.t 26)⟩,
      ⟨(some 8), none, .move (.t 27)⟩] (some [0, 1, 6, 8, 22, 23, 24]))
    (.seq (.ops [⟨(some 29), none, .move (.t 0)⟩,
      ⟨(some 30), none, .move (.t 1)⟩,
      ⟨(some 31), none, .move (.t 8)⟩,
      ⟨(some 32), none, .call (.c (.func (.func 31) #[] #[])) [(.t 29), (.t 30), (.t 31)]⟩,
      ⟨(some 28), none, .move (.t 32)⟩,
      ⟨(some 33), none, .extract (.t 28) 0⟩,
      ⟨(some 34), none, .extract (.t 28) 1⟩,
      ⟨(some 9), none, .alloc [(.string .empty), (.bool false), (.bool false), (.string .empty), (.int .u64 0)]⟩,
      ⟨none, none, .store 5 (.t 9) (.t 33)⟩,
      ⟨(some 10), none, .move (.t 34)⟩] (some [0, 1, 6, 9, 10, 22, 23, 24]))
    (.seq (.ops [⟨(some 35), none, .move (.t 10)⟩] (some [0, 1, 6, 9, 22, 23, 24, 35]))
    (.cond (.t 35)
     (.ops [⟨(some 36), none, .move (.t 6)⟩,
       ⟨(some 37), none, .load true 5 (.t 9)⟩,
       ⟨(some 38), none, .buildSlice [(.string .empty), (.bool false), (.bool false), (.string .empty), (.int .u64 0)] 5 1 [(0, (.t 37))]⟩,
       ⟨(some 39), none, .append 5 56 [(.string .empty), (.bool false), (.bool false), (.string .empty), (.int .u64 0)] (.t 36) (.t 38)⟩,
       ⟨(some 6), none, .move (.t 39)⟩] (some [0, 1, 6, 22, 23, 24]))
     .skip)))))
   (.ops [⟨(some 40), none, .bin .add 3 (.t 24) (.c (.int .i64 1))⟩,
     ⟨(some 24), none, .move (.t 40)⟩] (some [0, 1, 6, 22, 23, 24]))))))))
 (.seq (.ops [⟨(some 41), none, .move (.t 6)⟩,
   ⟨(some 4), none, .move (.t 41)⟩,
   ⟨(some 5), none, .move (.c (.int .i64 0))⟩] (some [4, 5]))
 .ret))))), [.tmp 4, .tmp 5]⟩

theorem is22 : FnIs Try.prog 22 x22 := ⟨Try.f22, _, Try.func22, by kernel_rfl, rfl, by kernel_rfl, by decide, by kernel_rfl⟩

/-- cloisonne/diff.Right -/
def x23 : XDecl := .code ⟨1, 
 (.seq (.ops [⟨(some 2), none, .move (.c (.bool false))⟩] (some [0]))
 (.seq (.seq (.ops [⟨(some 5), none, .move (.t 0)⟩,
   ⟨(some 6), none, .len (.t 5)⟩,
   ⟨(some 7), none, .move (.c (.int .i64 0))⟩] (some [0, 5, 6, 7]))
 (.block 0
  (.loop
   (.seq (.ops [⟨(some 8), none, .bin .lss 3 (.t 7) (.t 6)⟩] (some [0, 5, 6, 7, 8]))
   (.seq (.cond (.t 8)
    .skip
    (.exit 0))
   (.seq (.block 1
    (.seq (.ops [⟨(some 9), none, .move (.t 7)⟩,
      ⟨(some 10), none, .indexAddr 5 (.t 5) (.t 7)⟩,
      ⟨(some 11), none, .load true 5 (.t 10)⟩,
      ⟨(some 4), none, .alloc [(.string .empty), (.int .i64 0), (.bool false), (.string .empty), (.int .u64 0)]⟩,
      ⟨(some 3), none, .move (.t 9)⟩,
      ⟨none, none, .store 5 (.t 4) (.t 11)⟩] (some [0, 3, 4, 5, 6, 7]))
    (.seq (.opsd [(0, 0, ⟨(some 12), none, .fieldAddr 0 (.t 4)⟩),
      (1, 1, ⟨(some 13), none, .load false 1 (.t 12)⟩),
      (2, 3, ⟨(some 14), none, .call (.c (.func (.func 32) #[] #[])) [(.t 13)]⟩),
      (3, 7, ⟨(some 15), none, .un .not (.t 14)⟩),
      (4, 15, ⟨(some 16), none, .move (.t 15)⟩),
      (5, 31, ⟨(some 17), (some (16, false)), .fieldAddr 2 (.t 4)⟩),
      (6, 63, ⟨(some 18), (some (16, false)), .load true 3 (.t 17)⟩),
      (7, 127, ⟨(some 19), (some (16, false)), .call (.c (.func (.func 33) #[] #[])) [(.t 18)]⟩),
      (8, 255, ⟨(some 20), (some (16, false)), .un .not (.t 19)⟩),
      (9, 511, ⟨(some 21), none, .pick (.t 16) (.c (.bool true)) (.t 20)⟩),
      (10, 1023, ⟨(some 22), none, .move (.t 21)⟩),
      (11, 2047, ⟨(some 23), (some (22, false)), .fieldAddr 1 (.t 4)⟩),
      (12, 4095, ⟨(some 24), (some (22, false)), .load false 1 (.t 23)⟩),
      (13, 8191, ⟨(some 25), (some (22, false)), .bin .lss 3 (.t 24) (.c (.int .i64 1))⟩),
      (14, 16383, ⟨(some 26), none, .pick (.t 22) (.c (.bool true)) (.t 25)⟩),
      (15, 32767, ⟨(some 27), none, .move (.t 26)⟩),
      (16, 65535, ⟨(some 28), (some (27, false)), .move (.t 3)⟩),
      (17, 131071, ⟨(some 29), (some (27, false)), .bin .gtr 3 (.t 28) (.c (.int .i64 0))⟩),
      (18, 262143, ⟨(some 30), (some (27, false)), .move (.t 29)⟩),
      (19, 524287, ⟨(some 31), (some (30, true)), .move (.t 0)⟩),
      (20, 524287, ⟨(some 32), (some (30, true)), .move (.t 3)⟩),
      (21, 1572863, ⟨(some 33), (some (30, true)), .bin .sub 3 (.t 32) (.c (.int .i64 1))⟩),
      (22, 4194303, ⟨(some 34), (some (30, true)), .indexAddr 5 (.t 31) (.t 33)⟩),
      (23, 8388607, ⟨(some 35), (some (30, true)), .fieldAddr 0 (.t 34)⟩),
      (24, 16777215, ⟨(some 36), (some (30, true)), .load false 1 (.t 35)⟩),
      (25, 524287, ⟨(some 37), (some (30, true)), .fieldAddr 0 (.t 4)⟩),
      (26, 34078719, ⟨(some 38), (some (30, true)), .load false 1 (.t 37)⟩),
      (27, 134217727, ⟨(some 39), (some (30, true)), .bin .geq 9 (.t 36) (.t 38)⟩),
      (28, 268435455, ⟨(some 40), (some (27, false)), .pick (.t 30) (.t 39) (.c (.bool false))⟩),
      (29, 536870911, ⟨(some 41), none, .pick (.t 27) (.c (.bool true)) (.t 40)⟩)] (some [0, 5, 6, 7, 41]))
    (.cond (.t 41)
     (.seq (.ops [⟨(some 2), none, .move (.c (.bool false))⟩] (some [2]))
     .ret)
     .skip))))
   (.ops [⟨(some 42), none, .bin .add 3 (.t 7) (.c (.int .i64 1))⟩,
     ⟨(some 7), none, .move (.t 42)⟩] (some [0, 5, 6, 7]))))))))
 (.seq (.ops [⟨(some 2), none, .move (.c (.bool true))⟩] (some [2]))
 .ret))), [.tmp 2]⟩

theorem is23 : FnIs Try.prog 23 x23 := ⟨Try.f23, _, Try.func23, by kernel_rfl, rfl, by kernel_rfl, by decide, by kernel_rfl⟩

/-- cloisonne/cloisonneref04.Pack -/
def x24 : XDecl := .code ⟨1, 
 (.seq (.ops [⟨(some 1), none, .box (.t 0)⟩,
   ⟨(some 2), none, .move (.c (.string .empty))⟩] (some [1]))
 (.seq (.seq (.ops [⟨(some 3), none, .fieldAddr 0 (.t 1)⟩,
   ⟨(some 4), none, .load false 1 (.t 3)⟩] (some [1, 4]))
 (.cond (.t 4)
  (.seq (.opsd [(0, 0, ⟨(some 5), none, .buildSlice [(.int .u8 0)] 1 1 [(0, (.c (.int .u8 1)))]⟩),
    (1, 1, ⟨(some 6), none, .bstr (.t 5)⟩),
    (2, 0, ⟨(some 7), none, .fieldAddr 2 (.t 1)⟩),
    (3, 4, ⟨(some 8), none, .load false 1 (.t 7)⟩),
    (4, 12, ⟨(some 9), none, .call (.c (.func (.func 35) #[] #[])) [(.t 8)]⟩),
    (5, 28, ⟨(some 10), none, .call (.c (.func (.func 34) #[] #[])) [(.t 9)]⟩),
    (6, 63, ⟨(some 11), none, .bin .add 9 (.t 6) (.t 10)⟩),
    (7, 127, ⟨(some 2), none, .move (.t 11)⟩)] (some [2]))
  .ret)
  .skip))
 (.seq (.ops [⟨(some 12), none, .buildSlice [(.int .u8 0)] 1 1 [(0, (.c (.int .u8 0)))]⟩,
   ⟨(some 13), none, .bstr (.t 12)⟩,
   ⟨(some 14), none, .fieldAddr 1 (.t 1)⟩,
   ⟨(some 15), none, .load false 1 (.t 14)⟩,
   ⟨(some 16), none, .bin .add 9 (.t 13) (.t 15)⟩,
   ⟨(some 2), none, .move (.t 16)⟩] (some [2]))
 .ret))), [.tmp 2]⟩

theorem is24 : FnIs Try.prog 24 x24 := ⟨Try.f24, _, Try.func24, by kernel_rfl, rfl, by kernel_rfl, by decide, by kernel_rfl⟩

/-- cloisonne/diff.Weigh -/
def x25 : XDecl := .code ⟨1, 
 (.seq (.ops [⟨(some 2), none, .move (.c (.int .i64 0))⟩] (some [0]))
 (.seq (.seq (.ops [⟨(some 6), none, .move (.t 0)⟩,
   ⟨(some 7), none, .call (.c (.func (.func 23) #[] #[])) [(.t 6)]⟩,
   ⟨(some 8), none, .un .not (.t 7)⟩] (some [0, 8]))
 (.cond (.t 8)
  (.seq (.ops [⟨(some 2), none, .move (.c (.int .i64 0))⟩] (some [2]))
  .ret)
  .skip))
 (.seq (.ops [⟨(some 3), none, .move (.c (.int .i64 0))⟩] (some [0, 3]))
 (.seq (.seq (.ops [⟨(some 9), none, .move (.t 0)⟩,
   ⟨(some 10), none, .len (.t 9)⟩,
   ⟨(some 11), none, .move (.c (.int .i64 0))⟩] (some [3, 9, 10, 11]))
 (.block 0
  (.loop
   (.seq (.ops [⟨(some 12), none, .bin .lss 3 (.t 11) (.t 10)⟩] (some [3, 9, 10, 11, 12]))
   (.seq (.cond (.t 12)
    .skip
    (.exit 0))
   (.seq (.block 1
    (.seq (.ops [⟨(some 13), none, .indexAddr 5 (.t 9) (.t 11)⟩,
      ⟨(some 14), none, .load true 5 (.t 13)⟩,
      ⟨(some 5), none, .alloc [(.string .empty), (.int .i64 0), (.bool false), (.string .empty), (.int .u64 0)]⟩,
      ⟨none, none, .store 5 (.t 5) (.t 14)⟩] (some [3, 5, 9, 10, 11]))
    (.opsd [(0, 0, ⟨(some 15), none, .move (.t 3)⟩),
      (1, 0, ⟨(some 16), none, .fieldAddr 0 (.t 5)⟩),
      (2, 2, ⟨(some 17), none, .load false 1 (.t 16)⟩),
      (3, 6, ⟨(some 18), none, .calcB .len [9] 3 [(.t 17)]⟩),
      (4, 0, ⟨(some 19), none, .fieldAddr 2 (.t 5)⟩),
      (5, 16, ⟨(some 20), none, .load true 3 (.t 19)⟩),
      (6, 48, ⟨(some 21), none, .call (.c (.func (.func 36) #[] #[])) [(.t 20)]⟩),
      (7, 126, ⟨(some 22), none, .bin .add 3 (.t 18) (.t 21)⟩),
      (8, 255, ⟨(some 23), none, .bin .add 3 (.t 15) (.t 22)⟩),
      (9, 511, ⟨(some 3), none, .move (.t 23)⟩)] (some [3, 9, 10, 11]))))
   (.ops [⟨(some 24), none, .bin .add 3 (.t 11) (.c (.int .i64 1))⟩,
     ⟨(some 11), none, .move (.t 24)⟩] (some [3, 9, 10, 11]))))))))
 (.seq (.ops [⟨(some 25), none, .move (.t 3)⟩,
   ⟨(some 2), none, .move (.t 25)⟩] (some [2]))
 .ret))))), [.tmp 2]⟩

theorem is25 : FnIs Try.prog 25 x25 := ⟨Try.f25, _, Try.func25, by kernel_rfl, rfl, by kernel_rfl, by decide, by kernel_rfl⟩

/-- cloisonne/diff.done -/
def x26 : XDecl := .code ⟨1, 
 (.seq (.ops [⟨(some 2), none, .move (.c (.bool false))⟩] (some [0]))
 (.seq (.seq (.ops [⟨(some 5), none, .move (.t 0)⟩,
   ⟨(some 6), none, .len (.t 5)⟩,
   ⟨(some 7), none, .move (.c (.int .i64 0))⟩] (some [0, 5, 6, 7]))
 (.block 0
  (.loop
   (.seq (.ops [⟨(some 8), none, .bin .lss 3 (.t 7) (.t 6)⟩] (some [0, 5, 6, 7, 8]))
   (.seq (.cond (.t 8)
    .skip
    (.exit 0))
   (.seq (.block 1
    (.seq (.ops [⟨(some 9), none, .move (.t 7)⟩,
      ⟨(some 10), none, .indexAddr 5 (.t 5) (.t 7)⟩,
      ⟨(some 11), none, .load true 5 (.t 10)⟩,
      ⟨(some 4), none, .alloc [(.string .empty), (.bool false), (.bool false), (.string .empty), (.int .u64 0)]⟩,
      ⟨(some 3), none, .move (.t 9)⟩,
      ⟨none, none, .store 5 (.t 4) (.t 11)⟩] (some [0, 3, 4, 5, 6, 7]))
    (.seq (.opsd [(0, 0, ⟨(some 12), none, .fieldAddr 0 (.t 4)⟩),
      (1, 1, ⟨(some 13), none, .load false 1 (.t 12)⟩),
      (2, 3, ⟨(some 14), none, .call (.c (.func (.func 32) #[] #[])) [(.t 13)]⟩),
      (3, 7, ⟨(some 15), none, .un .not (.t 14)⟩),
      (4, 15, ⟨(some 16), none, .move (.t 15)⟩),
      (5, 31, ⟨(some 17), (some (16, false)), .fieldAddr 2 (.t 4)⟩),
      (6, 63, ⟨(some 18), (some (16, false)), .load true 3 (.t 17)⟩),
      (7, 127, ⟨(some 19), (some (16, false)), .call (.c (.func (.func 33) #[] #[])) [(.t 18)]⟩),
      (8, 255, ⟨(some 20), (some (16, false)), .un .not (.t 19)⟩),
      (9, 511, ⟨(some 21), none, .pick (.t 16) (.c (.bool true)) (.t 20)⟩),
      (10, 1023, ⟨(some 22), none, .move (.t 21)⟩),
      (11, 2047, ⟨(some 23), (some (22, false)), .fieldAddr 1 (.t 4)⟩),
      (12, 4095, ⟨(some 24), (some (22, false)), .load false 1 (.t 23)⟩),
      (13, 8191, ⟨(some 25), (some (22, false)), .move (.t 24)⟩),
      (14, 16383, ⟨(some 26), (some (25, true)), .fieldAddr 2 (.t 4)⟩),
      (15, 32767, ⟨(some 27), (some (25, true)), .load true 3 (.t 26)⟩),
      (16, 16383, ⟨(some 28), (some (25, true)), .build [(.bool false), (.string .empty), (.int .u64 0)] [(0, 1), (1, 1), (2, 1)] []⟩),
      (17, 131071, ⟨(some 29), (some (25, true)), .bin .neq 34 (.t 27) (.t 28)⟩),
      (18, 262143, ⟨(some 30), (some (22, false)), .pick (.t 25) (.t 29) (.c (.bool false))⟩),
      (19, 524287, ⟨(some 31), none, .pick (.t 22) (.c (.bool true)) (.t 30)⟩),
      (20, 1048575, ⟨(some 32), none, .move (.t 31)⟩),
      (21, 2097151, ⟨(some 33), (some (32, false)), .move (.t 3)⟩),
      (22, 4194303, ⟨(some 34), (some (32, false)), .bin .gtr 3 (.t 33) (.c (.int .i64 0))⟩),
      (23, 8388607, ⟨(some 35), (some (32, false)), .move (.t 34)⟩),
      (24, 16777215, ⟨(some 36), (some (35, true)), .move (.t 0)⟩),
      (25, 16777215, ⟨(some 37), (some (35, true)), .move (.t 3)⟩),
      (26, 50331647, ⟨(some 38), (some (35, true)), .bin .sub 3 (.t 37) (.c (.int .i64 1))⟩),
      (27, 134217727, ⟨(some 39), (some (35, true)), .indexAddr 5 (.t 36) (.t 38)⟩),
      (28, 268435455, ⟨(some 40), (some (35, true)), .fieldAddr 0 (.t 39)⟩),
      (29, 536870911, ⟨(some 41), (some (35, true)), .load false 1 (.t 40)⟩),
      (30, 16777215, ⟨(some 42), (some (35, true)), .fieldAddr 0 (.t 4)⟩),
      (31, 1090519039, ⟨(some 43), (some (35, true)), .load false 1 (.t 42)⟩),
      (32, 4294967295, ⟨(some 44), (some (35, true)), .bin .geq 9 (.t 41) (.t 43)⟩),
      (33, 8589934591, ⟨(some 45), (some (32, false)), .pick (.t 35) (.t 44) (.c (.bool false))⟩),
      (34, 17179869183, ⟨(some 46), none, .pick (.t 32) (.c (.bool true)) (.t 45)⟩)] (some [0, 5, 6, 7, 46]))
    (.cond (.t 46)
     (.seq (.ops [⟨(some 2), none, .move (.c (.bool false))⟩] (some [2]))
     .ret)
     .skip))))
   (.ops [⟨(some 47), none, .bin .add 3 (.t 7) (.c (.int .i64 1))⟩,
     ⟨(some 7), none, .move (.t 47)⟩] (some [0, 5, 6, 7]))))))))
 (.seq (.ops [⟨(some 2), none, .move (.c (.bool true))⟩] (some [2]))
 .ret))), [.tmp 2]⟩

theorem is26 : FnIs Try.prog 26 x26 := ⟨Try.f26, _, Try.func26, by kernel_rfl, rfl, by kernel_rfl, by decide, by kernel_rfl⟩

/-- cloisonne/cloisonneref11.Key -/
def x27 : XDecl := .code ⟨1, 
 (.seq (.ops [⟨(some 2), none, .move (.c (.bool false))⟩] (some [0]))
 (.seq (.ops [⟨(some 3), none, .move (.t 0)⟩,
   ⟨(some 4), none, .calcB .len [9] 3 [(.t 3)]⟩,
   ⟨(some 5), none, .bin .geq 3 (.t 4) (.c (.int .i64 1))⟩,
   ⟨(some 6), none, .move (.t 5)⟩,
   ⟨(some 7), (some (6, true)), .move (.t 0)⟩,
   ⟨(some 8), (some (6, true)), .calcB .len [9] 3 [(.t 7)]⟩,
   ⟨(some 9), (some (6, true)), .bin .leq 3 (.t 8) (.c (.int .i64 32))⟩,
   ⟨(some 10), none, .pick (.t 6) (.t 9) (.c (.bool false))⟩,
   ⟨(some 2), none, .move (.t 10)⟩] (some [2]))
 .ret)), [.tmp 2]⟩

theorem is27 : FnIs Try.prog 27 x27 := ⟨Try.f27, _, Try.func27, by kernel_rfl, rfl, by kernel_rfl, by decide, by kernel_rfl⟩

/-- cloisonne/cloisonneref04.Right -/
def x28 : XDecl := .code ⟨1, 
 (.seq (.ops [⟨(some 1), none, .box (.t 0)⟩,
   ⟨(some 2), none, .move (.c (.bool false))⟩] (some [1]))
 (.seq (.seq (.ops [⟨(some 3), none, .fieldAddr 0 (.t 1)⟩,
   ⟨(some 4), none, .load false 1 (.t 3)⟩,
   ⟨(some 5), none, .un .not (.t 4)⟩] (some [1, 5]))
 (.cond (.t 5)
  (.seq (.ops [⟨(some 6), none, .fieldAddr 2 (.t 1)⟩,
    ⟨(some 7), none, .load false 1 (.t 6)⟩,
    ⟨(some 8), none, .bin .eql 32 (.t 7) (.c (.int .u64 0))⟩,
    ⟨(some 9), none, .move (.t 8)⟩,
    ⟨(some 10), (some (9, true)), .fieldAddr 1 (.t 1)⟩,
    ⟨(some 11), (some (9, true)), .load false 1 (.t 10)⟩,
    ⟨(some 12), (some (9, true)), .calcB .len [9] 3 [(.t 11)]⟩,
    ⟨(some 13), (some (9, true)), .bin .leq 3 (.t 12) (.c (.int .i64 64))⟩,
    ⟨(some 14), none, .pick (.t 9) (.t 13) (.c (.bool false))⟩,
    ⟨(some 2), none, .move (.t 14)⟩] (some [2]))
  .ret)
  .skip))
 (.seq (.opsd [(0, 0, ⟨(some 15), none, .fieldAddr 1 (.t 1)⟩),
   (1, 1, ⟨(some 16), none, .load false 1 (.t 15)⟩),
   (2, 3, ⟨(some 17), none, .calcB .len [9] 3 [(.t 16)]⟩),
   (3, 7, ⟨(some 18), none, .bin .eql 3 (.t 17) (.c (.int .i64 0))⟩),
   (4, 15, ⟨(some 19), none, .move (.t 18)⟩),
   (5, 31, ⟨(some 20), (some (19, true)), .fieldAddr 2 (.t 1)⟩),
   (6, 63, ⟨(some 21), (some (19, true)), .load false 1 (.t 20)⟩),
   (9, 31, ⟨(some 24), (some (19, true)), .fieldAddr 2 (.t 1)⟩),
   (10, 543, ⟨(some 25), (some (19, true)), .load false 1 (.t 24)⟩),
   (7, 127, ⟨(some 22), (some (19, true)), .call (.c (.func (.func 35) #[] #[])) [(.t 21)]⟩),
   (8, 255, ⟨(some 23), (some (19, true)), .call (.c (.func (.func 37) #[] #[])) [(.t 22)]⟩),
   (11, 2047, ⟨(some 26), (some (19, true)), .bin .eql 32 (.t 23) (.t 25)⟩),
   (12, 4095, ⟨(some 27), none, .pick (.t 19) (.t 26) (.c (.bool false))⟩),
   (13, 8191, ⟨(some 2), none, .move (.t 27)⟩)] (some [2]))
 .ret))), [.tmp 2]⟩

theorem is28 : FnIs Try.prog 28 x28 := ⟨Try.f28, _, Try.func28, by kernel_rfl, rfl, by kernel_rfl, by decide, by kernel_rfl⟩

/-- cloisonne/cloisonneref11.May -/
def x29 : XDecl := .code ⟨1, 
 (.seq (.ops [⟨(some 2), none, .move (.c (.bool false))⟩] (some [0]))
 (.seq (.seq (.ops [⟨(some 4), none, .move (.t 0)⟩,
   ⟨(some 5), none, .len (.t 4)⟩,
   ⟨(some 6), none, .bin .lss 3 (.t 5) (.c (.int .i64 1))⟩,
   ⟨(some 7), none, .move (.t 6)⟩,
   ⟨(some 8), (some (7, false)), .move (.t 0)⟩,
   ⟨(some 9), (some (7, false)), .len (.t 8)⟩,
   ⟨(some 10), (some (7, false)), .bin .gtr 3 (.t 9) (.c (.int .i64 16))⟩,
   ⟨(some 11), none, .pick (.t 7) (.c (.bool true)) (.t 10)⟩] (some [0, 11]))
 (.cond (.t 11)
  (.seq (.ops [⟨(some 2), none, .move (.c (.bool false))⟩] (some [2]))
  .ret)
  .skip))
 (.seq (.seq (.ops [⟨(some 3), none, .move (.c (.int .i64 0))⟩] (some [0, 3]))
 (.block 0
  (.loop
   (.seq (.seq (.ops [⟨(some 12), none, .move (.t 3)⟩,
     ⟨(some 13), none, .move (.t 0)⟩,
     ⟨(some 14), none, .len (.t 13)⟩,
     ⟨(some 15), none, .bin .lss 3 (.t 12) (.t 14)⟩] (some [0, 3, 15]))
   (.cond (.t 15)
    .skip
    (.exit 0)))
   (.seq (.block 1
    (.seq (.opsd [(0, 0, ⟨(some 18), none, .move (.t 0)⟩),
      (1, 0, ⟨(some 19), none, .move (.t 3)⟩),
      (2, 3, ⟨(some 20), none, .indexAddr 5 (.t 18) (.t 19)⟩),
      (3, 7, ⟨(some 21), none, .fieldAddr 0 (.t 20)⟩),
      (4, 15, ⟨(some 22), none, .load false 1 (.t 21)⟩),
      (5, 31, ⟨(some 23), none, .call (.c (.func (.func 27) #[] #[])) [(.t 22)]⟩),
      (6, 63, ⟨(some 24), none, .un .not (.t 23)⟩),
      (7, 127, ⟨(some 25), none, .move (.t 24)⟩),
      (8, 255, ⟨(some 26), (some (25, false)), .move (.t 0)⟩),
      (9, 255, ⟨(some 27), (some (25, false)), .move (.t 3)⟩),
      (10, 1023, ⟨(some 28), (some (25, false)), .indexAddr 5 (.t 26) (.t 27)⟩),
      (11, 2047, ⟨(some 29), (some (25, false)), .fieldAddr 2 (.t 28)⟩),
      (12, 4095, ⟨(some 30), (some (25, false)), .load true 3 (.t 29)⟩),
      (13, 8191, ⟨(some 31), (some (25, false)), .call (.c (.func (.func 28) #[] #[])) [(.t 30)]⟩),
      (14, 16383, ⟨(some 32), (some (25, false)), .un .not (.t 31)⟩),
      (15, 32767, ⟨(some 33), none, .pick (.t 25) (.c (.bool true)) (.t 32)⟩),
      (16, 65535, ⟨(some 34), none, .move (.t 33)⟩),
      (17, 131071, ⟨(some 35), (some (34, false)), .move (.t 0)⟩),
      (18, 131071, ⟨(some 36), (some (34, false)), .move (.t 3)⟩),
      (19, 524287, ⟨(some 37), (some (34, false)), .indexAddr 5 (.t 35) (.t 36)⟩),
      (20, 1048575, ⟨(some 38), (some (34, false)), .fieldAddr 1 (.t 37)⟩),
      (21, 2097151, ⟨(some 39), (some (34, false)), .load false 1 (.t 38)⟩),
      (22, 4194303, ⟨(some 40), (some (34, false)), .move (.t 39)⟩),
      (23, 8388607, ⟨(some 41), (some (40, true)), .move (.t 0)⟩),
      (24, 8388607, ⟨(some 42), (some (40, true)), .move (.t 3)⟩),
      (25, 33554431, ⟨(some 43), (some (40, true)), .indexAddr 5 (.t 41) (.t 42)⟩),
      (26, 67108863, ⟨(some 44), (some (40, true)), .fieldAddr 2 (.t 43)⟩),
      (27, 134217727, ⟨(some 45), (some (40, true)), .load true 3 (.t 44)⟩),
      (28, 8388607, ⟨(some 46), (some (40, true)), .build [(.bool false), (.string .empty), (.int .u64 0)] [(0, 1), (1, 1), (2, 1)] []⟩),
      (29, 536870911, ⟨(some 47), (some (40, true)), .bin .neq 34 (.t 45) (.t 46)⟩),
      (30, 1073741823, ⟨(some 48), (some (34, false)), .pick (.t 40) (.t 47) (.c (.bool false))⟩),
      (31, 2147483647, ⟨(some 49), none, .pick (.t 34) (.c (.bool true)) (.t 48)⟩),
      (32, 4294967295, ⟨(some 50), none, .move (.t 49)⟩),
      (33, 8589934591, ⟨(some 51), (some (50, false)), .move (.t 3)⟩),
      (34, 17179869183, ⟨(some 52), (some (50, false)), .bin .gtr 3 (.t 51) (.c (.int .i64 0))⟩),
      (35, 34359738367, ⟨(some 53), (some (50, false)), .move (.t 52)⟩),
      (36, 68719476735, ⟨(some 54), (some (53, true)), .move (.t 0)⟩),
      (37, 68719476735, ⟨(some 55), (some (53, true)), .move (.t 3)⟩),
      (38, 206158430207, ⟨(some 56), (some (53, true)), .bin .sub 3 (.t 55) (.c (.int .i64 1))⟩),
      (39, 549755813887, ⟨(some 57), (some (53, true)), .indexAddr 5 (.t 54) (.t 56)⟩),
      (40, 1099511627775, ⟨(some 58), (some (53, true)), .fieldAddr 0 (.t 57)⟩),
      (41, 2199023255551, ⟨(some 59), (some (53, true)), .load false 1 (.t 58)⟩),
      (42, 68719476735, ⟨(some 60), (some (53, true)), .move (.t 0)⟩),
      (43, 68719476735, ⟨(some 61), (some (53, true)), .move (.t 3)⟩),
      (44, 13262859010047, ⟨(some 62), (some (53, true)), .indexAddr 5 (.t 60) (.t 61)⟩),
      (45, 30855045054463, ⟨(some 63), (some (53, true)), .fieldAddr 0 (.t 62)⟩),
      (46, 66039417143295, ⟨(some 64), (some (53, true)), .load false 1 (.t 63)⟩),
      (47, 140737488355327, ⟨(some 65), (some (53, true)), .bin .geq 9 (.t 59) (.t 64)⟩),
      (48, 281474976710655, ⟨(some 66), (some (50, false)), .pick (.t 53) (.t 65) (.c (.bool false))⟩),
      (49, 562949953421311, ⟨(some 67), none, .pick (.t 50) (.c (.bool true)) (.t 66)⟩)] (some [0, 3, 67]))
    (.cond (.t 67)
     (.seq (.ops [⟨(some 2), none, .move (.c (.bool false))⟩] (some [2]))
     .ret)
     .skip)))
   (.ops [⟨(some 16), none, .move (.t 3)⟩,
     ⟨(some 17), none, .bin .add 3 (.t 16) (.c (.int .i64 1))⟩,
     ⟨(some 3), none, .move (.t 17)⟩] (some [0, 3])))))))
 (.seq (.ops [⟨(some 2), none, .move (.c (.bool true))⟩] (some [2]))
 .ret)))), [.tmp 2]⟩

theorem is29 : FnIs Try.prog 29 x29 := ⟨Try.f29, _, Try.func29, by kernel_rfl, rfl, by kernel_rfl, by decide, by kernel_rfl⟩

/-- cloisonne/diff.keys -/
def x30 : XDecl := .code ⟨1, 
 (.seq (.ops [⟨(some 2), none, .move (.c (.slice none 0 0))⟩] (some [0]))
 (.seq (.ops [⟨(some 3), none, .move (.c (.slice none 0 0))⟩] (some [0, 3]))
 (.seq (.seq (.ops [⟨(some 8), none, .move (.t 0)⟩,
   ⟨(some 9), none, .len (.t 8)⟩,
   ⟨(some 10), none, .move (.c (.int .i64 0))⟩] (some [3, 8, 9, 10]))
 (.block 0
  (.loop
   (.seq (.ops [⟨(some 11), none, .bin .lss 3 (.t 10) (.t 9)⟩] (some [3, 8, 9, 10, 11]))
   (.seq (.cond (.t 11)
    .skip
    (.exit 0))
   (.seq (.block 1
    (.seq (.ops [⟨(some 12), none, .indexAddr 1 (.t 8) (.t 10)⟩,
      ⟨(some 13), none, .load false 1 (.t 12)⟩,
      ⟨(some 5), none, .move (.t 13)⟩] (some [3, 5, 8, 9, 10]))
    (.seq (.ops [⟨(some 14), none, .move (.t 5)⟩,
      ⟨(some 15), none, .len (.t 14)⟩,
      ⟨(some 16), none, .move (.c (.int .i64 0))⟩] (some [3, 8, 9, 10, 14, 15, 16]))
    (.block 2
     (.loop
      (.seq (.ops [⟨(some 17), none, .bin .lss 3 (.t 16) (.t 15)⟩] (some [3, 8, 9, 10, 14, 15, 16, 17]))
      (.seq (.cond (.t 17)
       .skip
       (.exit 2))
      (.seq (.block 3
       (.seq (.ops [⟨(some 18), none, .indexAddr 5 (.t 14) (.t 16)⟩,
         ⟨(some 19), none, .load true 5 (.t 18)⟩,
         ⟨(some 7), none, .alloc [(.string .empty), (.int .i64 0), (.bool false), (.string .empty), (.int .u64 0)]⟩,
         ⟨none, none, .store 5 (.t 7) (.t 19)⟩] (some [3, 7, 8, 9, 10, 14, 15, 16]))
       (.ops [⟨(some 20), none, .move (.t 3)⟩,
         ⟨(some 21), none, .fieldAddr 0 (.t 7)⟩,
         ⟨(some 22), none, .load false 1 (.t 21)⟩,
         ⟨(some 23), none, .buildSlice [(.string .empty)] 1 1 [(0, (.t 22))]⟩,
         ⟨(some 24), none, .append 1 16 [(.string .empty)] (.t 20) (.t 23)⟩,
         ⟨(some 3), none, .move (.t 24)⟩] (some [3, 8, 9, 10, 14, 15, 16]))))
      (.ops [⟨(some 25), none, .bin .add 3 (.t 16) (.c (.int .i64 1))⟩,
        ⟨(some 16), none, .move (.t 25)⟩] (some [3, 8, 9, 10, 14, 15, 16]))))))))))
   (.ops [⟨(some 26), none, .bin .add 3 (.t 10) (.c (.int .i64 1))⟩,
     ⟨(some 10), none, .move (.t 26)⟩] (some [3, 8, 9, 10]))))))))
 (.seq (.ops [⟨(some 27), none, .move (.t 3)⟩,
   ⟨(some 28), none, .call (.c (.func (.func 38) #[] #[])) [(.t 27)]⟩] (some [3]))
 (.seq (.ops [⟨(some 29), none, .move (.t 3)⟩,
   ⟨(some 30), none, .call (.c (.func (.func 39) #[] #[])) [(.t 29)]⟩,
   ⟨(some 2), none, .move (.t 30)⟩] (some [2]))
 .ret))))), [.tmp 2]⟩

theorem is30 : FnIs Try.prog 30 x30 := ⟨Try.f30, _, Try.func30, by kernel_rfl, rfl, by kernel_rfl, by decide, by kernel_rfl⟩

/-- cloisonne/diff.turn -/
def x31 : XDecl := .code ⟨3, 
 (.seq (.ops [⟨(some 6), none, .alloc [(.string .empty), (.bool false), (.bool false), (.string .empty), (.int .u64 0)]⟩,
   ⟨(some 7), none, .move (.c (.bool false))⟩] (some [0, 1, 2, 6]))
 (.seq (.ops [⟨(some 13), none, .move (.t 0)⟩,
   ⟨(some 14), none, .move (.t 2)⟩,
   ⟨(some 15), none, .call (.c (.func (.func 40) #[] #[])) [(.t 13), (.t 14)]⟩,
   ⟨(some 12), none, .move (.t 15)⟩,
   ⟨(some 16), none, .extract (.t 12) 0⟩,
   ⟨(some 17), none, .extract (.t 12) 1⟩,
   ⟨(some 8), none, .alloc [(.string .empty), (.int .i64 0), (.bool false), (.string .empty), (.int .u64 0)]⟩,
   ⟨none, none, .store 5 (.t 8) (.t 16)⟩,
   ⟨(some 9), none, .move (.t 17)⟩] (some [1, 2, 6, 8, 9]))
 (.seq (.ops [⟨(some 19), none, .move (.t 1)⟩,
   ⟨(some 20), none, .move (.t 2)⟩,
   ⟨(some 21), none, .call (.c (.func (.func 40) #[] #[])) [(.t 19), (.t 20)]⟩,
   ⟨(some 18), none, .move (.t 21)⟩,
   ⟨(some 22), none, .extract (.t 18) 0⟩,
   ⟨(some 23), none, .extract (.t 18) 1⟩,
   ⟨(some 10), none, .alloc [(.string .empty), (.int .i64 0), (.bool false), (.string .empty), (.int .u64 0)]⟩,
   ⟨none, none, .store 5 (.t 10) (.t 22)⟩,
   ⟨(some 11), none, .move (.t 23)⟩] (some [2, 6, 8, 9, 10, 11]))
 (.seq (.block 0
  (.seq (.ops [⟨(some 25), none, .move (.t 11)⟩,
    ⟨(some 26), none, .move (.t 25)⟩,
    ⟨(some 27), (some (26, true)), .move (.t 9)⟩,
    ⟨(some 28), (some (26, true)), .un .not (.t 27)⟩,
    ⟨(some 29), (some (26, true)), .move (.t 28)⟩,
    ⟨(some 30), (some (29, false)), .fieldAddr 2 (.t 8)⟩,
    ⟨(some 31), (some (29, false)), .load true 3 (.t 30)⟩,
    ⟨(some 32), (some (29, false)), .fieldAddr 2 (.t 10)⟩,
    ⟨(some 33), (some (29, false)), .load true 3 (.t 32)⟩,
    ⟨(some 34), (some (29, false)), .bin .neq 34 (.t 31) (.t 33)⟩,
    ⟨(some 35), (some (26, true)), .pick (.t 29) (.c (.bool true)) (.t 34)⟩,
    ⟨(some 36), none, .pick (.t 26) (.t 35) (.c (.bool false))⟩,
    ⟨(some 24), none, .move (.t 36)⟩] (some [2, 6, 9, 10, 11, 24]))
  (.cond (.t 24)
   (.seq (.ops [⟨(some 37), none, .move (.t 2)⟩,
     ⟨(some 38), none, .fieldAddr 2 (.t 10)⟩,
     ⟨(some 39), none, .load true 3 (.t 38)⟩,
     ⟨(some 40), none, .build [(.string .empty), (.bool false), (.bool false), (.string .empty), (.int .u64 0)] [(0, 1), (1, 1), (2, 3)] [(0, (.t 37)), (2, (.t 39))]⟩,
     ⟨none, none, .store 5 (.t 6) (.t 40)⟩,
     ⟨(some 7), none, .move (.c (.bool true))⟩] (some [6, 7]))
   .ret)
   (.seq (.ops [⟨(some 42), none, .move (.t 9)⟩,
     ⟨(some 43), none, .move (.t 42)⟩,
     ⟨(some 44), (some (43, true)), .move (.t 11)⟩,
     ⟨(some 45), (some (43, true)), .un .not (.t 44)⟩,
     ⟨(some 46), none, .pick (.t 43) (.t 45) (.c (.bool false))⟩,
     ⟨(some 41), none, .move (.t 46)⟩] (some [2, 6, 41]))
   (.cond (.t 41)
    (.seq (.ops [⟨(some 47), none, .move (.t 2)⟩,
      ⟨(some 48), none, .build [(.string .empty), (.bool false), (.bool false), (.string .empty), (.int .u64 0)] [(0, 1), (1, 1), (2, 3)] [(0, (.t 47)), (1, (.c (.bool true)))]⟩,
      ⟨none, none, .store 5 (.t 6) (.t 48)⟩,
      ⟨(some 7), none, .move (.c (.bool true))⟩] (some [6, 7]))
    .ret)
    .skip)))))
 (.seq (.ops [⟨(some 49), none, .build [(.string .empty), (.bool false), (.bool false), (.string .empty), (.int .u64 0)] [(0, 1), (1, 1), (2, 3)] []⟩,
   ⟨none, none, .store 5 (.t 6) (.t 49)⟩,
   ⟨(some 7), none, .move (.c (.bool false))⟩] (some [6, 7]))
 .ret))))), [.cell true 5 6, .tmp 7]⟩

theorem is31 : FnIs Try.prog 31 x31 := ⟨Try.f31, _, Try.func31, by kernel_rfl, rfl, by kernel_rfl, by decide, by kernel_rfl⟩

/-- cloisonne/diff.key -/
def x32 : XDecl := .code ⟨1, 
 (.seq (.ops [⟨(some 2), none, .move (.c (.bool false))⟩] (some [0]))
 (.seq (.ops [⟨(some 3), none, .move (.t 0)⟩,
   ⟨(some 4), none, .bin .neq 9 (.t 3) (.c (.string .empty))⟩,
   ⟨(some 5), none, .move (.t 4)⟩,
   ⟨(some 6), (some (5, true)), .move (.t 0)⟩,
   ⟨(some 7), (some (5, true)), .calcB .len [9] 3 [(.t 6)]⟩,
   ⟨(some 8), (some (5, true)), .bin .leq 3 (.t 7) (.c (.int .i64 32))⟩,
   ⟨(some 9), none, .pick (.t 5) (.t 8) (.c (.bool false))⟩,
   ⟨(some 2), none, .move (.t 9)⟩] (some [2]))
 .ret)), [.tmp 2]⟩

theorem is32 : FnIs Try.prog 32 x32 := ⟨Try.f32, _, Try.func32, by kernel_rfl, rfl, by kernel_rfl, by decide, by kernel_rfl⟩

/-- cloisonne/value.Right -/
def x33 : XDecl := .code ⟨1, 
 (.seq (.ops [⟨(some 1), none, .box (.t 0)⟩,
   ⟨(some 2), none, .move (.c (.bool false))⟩] (some [1]))
 (.seq (.seq (.ops [⟨(some 3), none, .fieldAddr 0 (.t 1)⟩,
   ⟨(some 4), none, .load false 1 (.t 3)⟩] (some [1, 4]))
 (.cond (.t 4)
  (.seq (.opsd [(0, 0, ⟨(some 5), none, .fieldAddr 1 (.t 1)⟩),
    (1, 1, ⟨(some 6), none, .load false 1 (.t 5)⟩),
    (2, 3, ⟨(some 7), none, .bin .eql 9 (.t 6) (.c (.string .empty))⟩),
    (3, 7, ⟨(some 8), none, .move (.t 7)⟩),
    (4, 15, ⟨(some 9), (some (8, true)), .fieldAddr 2 (.t 1)⟩),
    (5, 31, ⟨(some 10), (some (8, true)), .load false 1 (.t 9)⟩),
    (8, 15, ⟨(some 13), (some (8, true)), .fieldAddr 2 (.t 1)⟩),
    (9, 271, ⟨(some 14), (some (8, true)), .load false 1 (.t 13)⟩),
    (6, 63, ⟨(some 11), (some (8, true)), .call (.c (.func (.func 42) #[] #[])) [(.t 10)]⟩),
    (7, 127, ⟨(some 12), (some (8, true)), .call (.c (.func (.func 41) #[] #[])) [(.t 11)]⟩),
    (10, 1023, ⟨(some 15), (some (8, true)), .bin .eql 32 (.t 12) (.t 14)⟩),
    (11, 2047, ⟨(some 16), none, .pick (.t 8) (.t 15) (.c (.bool false))⟩),
    (12, 4095, ⟨(some 2), none, .move (.t 16)⟩)] (some [2]))
  .ret)
  .skip))
 (.seq (.ops [⟨(some 17), none, .fieldAddr 2 (.t 1)⟩,
   ⟨(some 18), none, .load false 1 (.t 17)⟩,
   ⟨(some 19), none, .bin .eql 32 (.t 18) (.c (.int .u64 0))⟩,
   ⟨(some 20), none, .move (.t 19)⟩,
   ⟨(some 21), (some (20, true)), .fieldAddr 1 (.t 1)⟩,
   ⟨(some 22), (some (20, true)), .load false 1 (.t 21)⟩,
   ⟨(some 23), (some (20, true)), .calcB .len [9] 3 [(.t 22)]⟩,
   ⟨(some 24), (some (20, true)), .bin .leq 3 (.t 23) (.c (.int .i64 64))⟩,
   ⟨(some 25), none, .pick (.t 20) (.t 24) (.c (.bool false))⟩,
   ⟨(some 2), none, .move (.t 25)⟩] (some [2]))
 .ret))), [.tmp 2]⟩

theorem is33 : FnIs Try.prog 33 x33 := ⟨Try.f33, _, Try.func33, by kernel_rfl, rfl, by kernel_rfl, by decide, by kernel_rfl⟩


end Go.Proofs.Ytlldfkapaeidoaa.X
