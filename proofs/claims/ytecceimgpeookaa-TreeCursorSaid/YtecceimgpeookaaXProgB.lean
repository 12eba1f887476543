/-
  Own work, printed by a program of ours (mkprog.py): the functions of this seat as code of the abstract run, and that each is the model's.
-/
import Derived.Test.YtecceimgpeookaaXLaw
import Derived.Test.YtecceimgpeookaaChecked
set_option maxRecDepth 100000
namespace Go.Proofs.Ytecceimgpeookaa.X
open Go

/-- slices.BinarySearch[[]string,string] -/
def x69 : XDecl := .code ⟨2, 
 (.seq (.ops [⟨(some 4), none, .move (.c (.int .i64 0))⟩,
   ⟨(some 5), none, .move (.c (.bool false))⟩] (some [0, 1]))
 (.seq (.ops [⟨(some 10), none, .move (.t 0)⟩,
   ⟨(some 11), none, .len (.t 10)⟩,
   ⟨(some 6), none, .move (.t 11)⟩] (some [0, 1, 6]))
 (.seq (.ops [⟨(some 12), none, .move (.t 6)⟩,
   ⟨(some 7), none, .move (.c (.int .i64 0))⟩,
   ⟨(some 8), none, .move (.t 12)⟩] (some [0, 1, 6, 7, 8]))
 (.seq (.block 0
  (.loop
   (.seq (.seq (.ops [⟨(some 13), none, .move (.t 7)⟩,
     ⟨(some 14), none, .move (.t 8)⟩,
     ⟨(some 15), none, .bin .lss 3 (.t 13) (.t 14)⟩] (some [0, 1, 6, 7, 8, 15]))
   (.cond (.t 15)
    .skip
    (.exit 0)))
   (.block 1
    (.seq (.ops [⟨(some 16), none, .move (.t 7)⟩,
      ⟨(some 17), none, .move (.t 8)⟩,
      ⟨(some 18), none, .bin .add 3 (.t 16) (.t 17)⟩,
      ⟨(some 19), none, .conv 3 124 (.t 18)⟩,
      ⟨(some 20), none, .bin .shr 124 (.t 19) (.c (.int .u64 1))⟩,
      ⟨(some 21), none, .conv 124 3 (.t 20)⟩,
      ⟨(some 9), none, .move (.t 21)⟩] (some [0, 1, 6, 7, 8, 9]))
    (.seq (.ops [⟨(some 22), none, .move (.t 0)⟩,
      ⟨(some 23), none, .move (.t 9)⟩,
      ⟨(some 24), none, .indexAddr 1 (.t 22) (.t 23)⟩,
      ⟨(some 25), none, .load false 1 (.t 24)⟩,
      ⟨(some 26), none, .move (.t 1)⟩,
      ⟨(some 27), none, .call (.c (.func (.func 86) #[] #[])) [(.t 25), (.t 26)]⟩] (some [0, 1, 6, 7, 8, 9, 27]))
    (.cond (.t 27)
     (.ops [⟨(some 28), none, .move (.t 9)⟩,
       ⟨(some 29), none, .bin .add 3 (.t 28) (.c (.int .i64 1))⟩,
       ⟨(some 7), none, .move (.t 29)⟩] (some [0, 1, 6, 7, 8]))
     (.ops [⟨(some 30), none, .move (.t 9)⟩,
       ⟨(some 8), none, .move (.t 30)⟩] (some [0, 1, 6, 7, 8])))))))))
 (.seq (.ops [⟨(some 31), none, .move (.t 7)⟩,
   ⟨(some 32), none, .move (.t 7)⟩,
   ⟨(some 33), none, .move (.t 6)⟩,
   ⟨(some 34), none, .bin .lss 3 (.t 32) (.t 33)⟩,
   ⟨(some 35), none, .move (.t 34)⟩,
   ⟨(some 36), (some (35, true)), .move (.t 0)⟩,
   ⟨(some 37), (some (35, true)), .move (.t 7)⟩,
   ⟨(some 38), (some (35, true)), .indexAddr 1 (.t 36) (.t 37)⟩,
   ⟨(some 39), (some (35, true)), .load false 1 (.t 38)⟩,
   ⟨(some 40), (some (35, true)), .move (.t 1)⟩,
   ⟨(some 41), (some (35, true)), .bin .eql 9 (.t 39) (.t 40)⟩,
   ⟨(some 42), (some (35, true)), .move (.t 41)⟩,
   ⟨(some 43), (some (42, false)), .move (.t 0)⟩,
   ⟨(some 44), (some (42, false)), .move (.t 7)⟩,
   ⟨(some 45), (some (42, false)), .indexAddr 1 (.t 43) (.t 44)⟩,
   ⟨(some 46), (some (42, false)), .load false 1 (.t 45)⟩,
   ⟨(some 47), (some (42, false)), .call (.c (.func (.func 87) #[] #[])) [(.t 46)]⟩,
   ⟨(some 48), (some (42, false)), .move (.t 47)⟩,
   ⟨(some 49), (some (48, true)), .move (.t 1)⟩,
   ⟨(some 50), (some (48, true)), .call (.c (.func (.func 87) #[] #[])) [(.t 49)]⟩,
   ⟨(some 51), (some (42, false)), .pick (.t 48) (.t 50) (.c (.bool false))⟩,
   ⟨(some 52), (some (35, true)), .pick (.t 42) (.c (.bool true)) (.t 51)⟩,
   ⟨(some 53), none, .pick (.t 35) (.t 52) (.c (.bool false))⟩,
   ⟨(some 4), none, .move (.t 31)⟩,
   ⟨(some 5), none, .move (.t 53)⟩] (some [4, 5]))
 .ret))))), [.tmp 4, .tmp 5]⟩

theorem is69 : FnIs Try.prog 69 x69 := ⟨Try.f69, _, Try.func69, by kernel_rfl, rfl, by kernel_rfl, by decide, by kernel_rfl⟩

/-- slices.Insert[[]string,string] -/
def x70 : XDecl := .code ⟨3, 
 (.seq (.ops [⟨(some 6), none, .move (.c (.slice none 0 0))⟩] (some [0, 1, 2]))
 (.seq (.ops [⟨(some 10), none, .move (.t 0)⟩,
   ⟨(some 11), none, .move (.t 1)⟩,
   ⟨(some 12), none, .slice 1 (.t 10) (some (.t 11)) none none⟩] (some [0, 1, 2]))
 (.seq (.ops [⟨(some 13), none, .move (.t 2)⟩,
   ⟨(some 14), none, .len (.t 13)⟩,
   ⟨(some 7), none, .move (.t 14)⟩] (some [0, 1, 2, 7]))
 (.seq (.seq (.ops [⟨(some 15), none, .move (.t 7)⟩,
   ⟨(some 16), none, .bin .eql 3 (.t 15) (.c (.int .i64 0))⟩] (some [0, 1, 2, 7, 16]))
 (.cond (.t 16)
  (.seq (.ops [⟨(some 17), none, .move (.t 0)⟩,
    ⟨(some 6), none, .move (.t 17)⟩] (some [6]))
  .ret)
  .skip))
 (.seq (.ops [⟨(some 18), none, .move (.t 0)⟩,
   ⟨(some 19), none, .len (.t 18)⟩,
   ⟨(some 8), none, .move (.t 19)⟩] (some [0, 1, 2, 7, 8]))
 (.seq (.seq (.ops [⟨(some 20), none, .move (.t 1)⟩,
   ⟨(some 21), none, .move (.t 8)⟩,
   ⟨(some 22), none, .bin .eql 3 (.t 20) (.t 21)⟩] (some [0, 1, 2, 7, 8, 22]))
 (.cond (.t 22)
  (.seq (.ops [⟨(some 23), none, .move (.t 0)⟩,
    ⟨(some 24), none, .move (.t 2)⟩,
    ⟨(some 25), none, .append 1 16 [(.string .empty)] (.t 23) (.t 24)⟩,
    ⟨(some 6), none, .move (.t 25)⟩] (some [6]))
  .ret)
  .skip))
 (.seq (.seq (.ops [⟨(some 26), none, .move (.t 8)⟩,
   ⟨(some 27), none, .move (.t 7)⟩,
   ⟨(some 28), none, .bin .add 3 (.t 26) (.t 27)⟩,
   ⟨(some 29), none, .move (.t 0)⟩,
   ⟨(some 30), none, .cap (.t 29)⟩,
   ⟨(some 31), none, .bin .gtr 3 (.t 28) (.t 30)⟩] (some [0, 1, 2, 7, 8, 31]))
 (.cond (.t 31)
  (.seq (.ops [⟨(some 32), none, .move (.t 0)⟩,
    ⟨(some 33), none, .move (.t 1)⟩,
    ⟨(some 34), none, .slice 1 (.t 32) none (some (.t 33)) none⟩,
    ⟨(some 35), none, .move (.t 8)⟩,
    ⟨(some 36), none, .move (.t 7)⟩,
    ⟨(some 37), none, .bin .add 3 (.t 35) (.t 36)⟩,
    ⟨(some 38), none, .move (.t 1)⟩,
    ⟨(some 39), none, .bin .sub 3 (.t 37) (.t 38)⟩,
    ⟨(some 40), none, .appendZeros 1 16 [(.string .empty)] (.t 34) (.t 39)⟩,
    ⟨(some 9), none, .move (.t 40)⟩] (some [0, 1, 2, 7, 9]))
  (.seq (.ops [⟨(some 41), none, .move (.t 9)⟩,
    ⟨(some 42), none, .move (.t 1)⟩,
    ⟨(some 43), none, .slice 1 (.t 41) (some (.t 42)) none none⟩,
    ⟨(some 44), none, .move (.t 2)⟩,
    ⟨(some 45), none, .copy 1 (.t 43) (.t 44)⟩] (some [0, 1, 7, 9]))
  (.seq (.opsd [(0, 0, ⟨(some 46), none, .move (.t 9)⟩),
    (1, 0, ⟨(some 47), none, .move (.t 1)⟩),
    (2, 0, ⟨(some 48), none, .move (.t 7)⟩),
    (3, 6, ⟨(some 49), none, .bin .add 3 (.t 47) (.t 48)⟩),
    (4, 15, ⟨(some 50), none, .slice 1 (.t 46) (some (.t 49)) none none⟩),
    (5, 0, ⟨(some 51), none, .move (.t 0)⟩),
    (6, 0, ⟨(some 52), none, .move (.t 1)⟩),
    (7, 96, ⟨(some 53), none, .slice 1 (.t 51) (some (.t 52)) none none⟩),
    (8, 255, ⟨(some 54), none, .copy 1 (.t 50) (.t 53)⟩)] (some [9]))
  (.seq (.ops [⟨(some 55), none, .move (.t 9)⟩,
    ⟨(some 6), none, .move (.t 55)⟩] (some [6]))
  .ret))))
  .skip))
 (.seq (.ops [⟨(some 56), none, .move (.t 0)⟩,
   ⟨(some 57), none, .move (.t 8)⟩,
   ⟨(some 58), none, .move (.t 7)⟩,
   ⟨(some 59), none, .bin .add 3 (.t 57) (.t 58)⟩,
   ⟨(some 60), none, .slice 1 (.t 56) none (some (.t 59)) none⟩,
   ⟨(some 0), none, .move (.t 60)⟩] (some [0, 1, 2, 7, 8]))
 (.seq (.seq (.ops [⟨(some 61), none, .move (.t 2)⟩,
   ⟨(some 62), none, .move (.t 0)⟩,
   ⟨(some 63), none, .move (.t 1)⟩,
   ⟨(some 64), none, .move (.t 7)⟩,
   ⟨(some 65), none, .bin .add 3 (.t 63) (.t 64)⟩,
   ⟨(some 66), none, .slice 1 (.t 62) (some (.t 65)) none none⟩,
   ⟨(some 67), none, .call (.c (.func (.func 88) #[] #[])) [(.t 61), (.t 66)]⟩,
   ⟨(some 68), none, .un .not (.t 67)⟩] (some [0, 1, 2, 7, 8, 68]))
 (.cond (.t 68)
  (.seq (.opsd [(0, 0, ⟨(some 69), none, .move (.t 0)⟩),
    (1, 0, ⟨(some 70), none, .move (.t 1)⟩),
    (2, 0, ⟨(some 71), none, .move (.t 7)⟩),
    (3, 6, ⟨(some 72), none, .bin .add 3 (.t 70) (.t 71)⟩),
    (4, 15, ⟨(some 73), none, .slice 1 (.t 69) (some (.t 72)) none none⟩),
    (5, 0, ⟨(some 74), none, .move (.t 0)⟩),
    (6, 0, ⟨(some 75), none, .move (.t 1)⟩),
    (7, 96, ⟨(some 76), none, .slice 1 (.t 74) (some (.t 75)) none none⟩),
    (8, 255, ⟨(some 77), none, .copy 1 (.t 73) (.t 76)⟩)] (some [0, 1, 2]))
  (.seq (.ops [⟨(some 78), none, .move (.t 0)⟩,
    ⟨(some 79), none, .move (.t 1)⟩,
    ⟨(some 80), none, .slice 1 (.t 78) (some (.t 79)) none none⟩,
    ⟨(some 81), none, .move (.t 2)⟩,
    ⟨(some 82), none, .copy 1 (.t 80) (.t 81)⟩] (some [0]))
  (.seq (.ops [⟨(some 83), none, .move (.t 0)⟩,
    ⟨(some 6), none, .move (.t 83)⟩] (some [6]))
  .ret)))
  .skip))
 (.seq (.ops [⟨(some 84), none, .move (.t 0)⟩,
   ⟨(some 85), none, .move (.t 8)⟩,
   ⟨(some 86), none, .slice 1 (.t 84) (some (.t 85)) none none⟩,
   ⟨(some 87), none, .move (.t 2)⟩,
   ⟨(some 88), none, .copy 1 (.t 86) (.t 87)⟩] (some [0, 1, 7]))
 (.seq (.ops [⟨(some 89), none, .move (.t 0)⟩,
   ⟨(some 90), none, .move (.t 1)⟩,
   ⟨(some 91), none, .slice 1 (.t 89) (some (.t 90)) none none⟩,
   ⟨(some 92), none, .move (.t 7)⟩,
   ⟨(some 93), none, .call (.c (.func (.func 89) #[] #[])) [(.t 91), (.t 92)]⟩] (some [0]))
 (.seq (.ops [⟨(some 94), none, .move (.t 0)⟩,
   ⟨(some 6), none, .move (.t 94)⟩] (some [6]))
 .ret)))))))))))), [.tmp 6]⟩

theorem is70 : FnIs Try.prog 70 x70 := ⟨Try.f70, _, Try.func70, by kernel_rfl, rfl, by kernel_rfl, by decide, by kernel_rfl⟩

/-- slices.Insert[[]int,int] -/
def x71 : XDecl := .code ⟨3, 
 (.seq (.ops [⟨(some 6), none, .move (.c (.slice none 0 0))⟩] (some [0, 1, 2]))
 (.seq (.ops [⟨(some 10), none, .move (.t 0)⟩,
   ⟨(some 11), none, .move (.t 1)⟩,
   ⟨(some 12), none, .slice 1 (.t 10) (some (.t 11)) none none⟩] (some [0, 1, 2]))
 (.seq (.ops [⟨(some 13), none, .move (.t 2)⟩,
   ⟨(some 14), none, .len (.t 13)⟩,
   ⟨(some 7), none, .move (.t 14)⟩] (some [0, 1, 2, 7]))
 (.seq (.seq (.ops [⟨(some 15), none, .move (.t 7)⟩,
   ⟨(some 16), none, .bin .eql 3 (.t 15) (.c (.int .i64 0))⟩] (some [0, 1, 2, 7, 16]))
 (.cond (.t 16)
  (.seq (.ops [⟨(some 17), none, .move (.t 0)⟩,
    ⟨(some 6), none, .move (.t 17)⟩] (some [6]))
  .ret)
  .skip))
 (.seq (.ops [⟨(some 18), none, .move (.t 0)⟩,
   ⟨(some 19), none, .len (.t 18)⟩,
   ⟨(some 8), none, .move (.t 19)⟩] (some [0, 1, 2, 7, 8]))
 (.seq (.seq (.ops [⟨(some 20), none, .move (.t 1)⟩,
   ⟨(some 21), none, .move (.t 8)⟩,
   ⟨(some 22), none, .bin .eql 3 (.t 20) (.t 21)⟩] (some [0, 1, 2, 7, 8, 22]))
 (.cond (.t 22)
  (.seq (.ops [⟨(some 23), none, .move (.t 0)⟩,
    ⟨(some 24), none, .move (.t 2)⟩,
    ⟨(some 25), none, .append 1 8 [(.int .i64 0)] (.t 23) (.t 24)⟩,
    ⟨(some 6), none, .move (.t 25)⟩] (some [6]))
  .ret)
  .skip))
 (.seq (.seq (.ops [⟨(some 26), none, .move (.t 8)⟩,
   ⟨(some 27), none, .move (.t 7)⟩,
   ⟨(some 28), none, .bin .add 3 (.t 26) (.t 27)⟩,
   ⟨(some 29), none, .move (.t 0)⟩,
   ⟨(some 30), none, .cap (.t 29)⟩,
   ⟨(some 31), none, .bin .gtr 3 (.t 28) (.t 30)⟩] (some [0, 1, 2, 7, 8, 31]))
 (.cond (.t 31)
  (.seq (.ops [⟨(some 32), none, .move (.t 0)⟩,
    ⟨(some 33), none, .move (.t 1)⟩,
    ⟨(some 34), none, .slice 1 (.t 32) none (some (.t 33)) none⟩,
    ⟨(some 35), none, .move (.t 8)⟩,
    ⟨(some 36), none, .move (.t 7)⟩,
    ⟨(some 37), none, .bin .add 3 (.t 35) (.t 36)⟩,
    ⟨(some 38), none, .move (.t 1)⟩,
    ⟨(some 39), none, .bin .sub 3 (.t 37) (.t 38)⟩,
    ⟨(some 40), none, .appendZeros 1 8 [(.int .i64 0)] (.t 34) (.t 39)⟩,
    ⟨(some 9), none, .move (.t 40)⟩] (some [0, 1, 2, 7, 9]))
  (.seq (.ops [⟨(some 41), none, .move (.t 9)⟩,
    ⟨(some 42), none, .move (.t 1)⟩,
    ⟨(some 43), none, .slice 1 (.t 41) (some (.t 42)) none none⟩,
    ⟨(some 44), none, .move (.t 2)⟩,
    ⟨(some 45), none, .copy 1 (.t 43) (.t 44)⟩] (some [0, 1, 7, 9]))
  (.seq (.opsd [(0, 0, ⟨(some 46), none, .move (.t 9)⟩),
    (1, 0, ⟨(some 47), none, .move (.t 1)⟩),
    (2, 0, ⟨(some 48), none, .move (.t 7)⟩),
    (3, 6, ⟨(some 49), none, .bin .add 3 (.t 47) (.t 48)⟩),
    (4, 15, ⟨(some 50), none, .slice 1 (.t 46) (some (.t 49)) none none⟩),
    (5, 0, ⟨(some 51), none, .move (.t 0)⟩),
    (6, 0, ⟨(some 52), none, .move (.t 1)⟩),
    (7, 96, ⟨(some 53), none, .slice 1 (.t 51) (some (.t 52)) none none⟩),
    (8, 255, ⟨(some 54), none, .copy 1 (.t 50) (.t 53)⟩)] (some [9]))
  (.seq (.ops [⟨(some 55), none, .move (.t 9)⟩,
    ⟨(some 6), none, .move (.t 55)⟩] (some [6]))
  .ret))))
  .skip))
 (.seq (.ops [⟨(some 56), none, .move (.t 0)⟩,
   ⟨(some 57), none, .move (.t 8)⟩,
   ⟨(some 58), none, .move (.t 7)⟩,
   ⟨(some 59), none, .bin .add 3 (.t 57) (.t 58)⟩,
   ⟨(some 60), none, .slice 1 (.t 56) none (some (.t 59)) none⟩,
   ⟨(some 0), none, .move (.t 60)⟩] (some [0, 1, 2, 7, 8]))
 (.seq (.seq (.ops [⟨(some 61), none, .move (.t 2)⟩,
   ⟨(some 62), none, .move (.t 0)⟩,
   ⟨(some 63), none, .move (.t 1)⟩,
   ⟨(some 64), none, .move (.t 7)⟩,
   ⟨(some 65), none, .bin .add 3 (.t 63) (.t 64)⟩,
   ⟨(some 66), none, .slice 1 (.t 62) (some (.t 65)) none none⟩,
   ⟨(some 67), none, .call (.c (.func (.func 90) #[] #[])) [(.t 61), (.t 66)]⟩,
   ⟨(some 68), none, .un .not (.t 67)⟩] (some [0, 1, 2, 7, 8, 68]))
 (.cond (.t 68)
  (.seq (.opsd [(0, 0, ⟨(some 69), none, .move (.t 0)⟩),
    (1, 0, ⟨(some 70), none, .move (.t 1)⟩),
    (2, 0, ⟨(some 71), none, .move (.t 7)⟩),
    (3, 6, ⟨(some 72), none, .bin .add 3 (.t 70) (.t 71)⟩),
    (4, 15, ⟨(some 73), none, .slice 1 (.t 69) (some (.t 72)) none none⟩),
    (5, 0, ⟨(some 74), none, .move (.t 0)⟩),
    (6, 0, ⟨(some 75), none, .move (.t 1)⟩),
    (7, 96, ⟨(some 76), none, .slice 1 (.t 74) (some (.t 75)) none none⟩),
    (8, 255, ⟨(some 77), none, .copy 1 (.t 73) (.t 76)⟩)] (some [0, 1, 2]))
  (.seq (.ops [⟨(some 78), none, .move (.t 0)⟩,
    ⟨(some 79), none, .move (.t 1)⟩,
    ⟨(some 80), none, .slice 1 (.t 78) (some (.t 79)) none none⟩,
    ⟨(some 81), none, .move (.t 2)⟩,
    ⟨(some 82), none, .copy 1 (.t 80) (.t 81)⟩] (some [0]))
  (.seq (.ops [⟨(some 83), none, .move (.t 0)⟩,
    ⟨(some 6), none, .move (.t 83)⟩] (some [6]))
  .ret)))
  .skip))
 (.seq (.ops [⟨(some 84), none, .move (.t 0)⟩,
   ⟨(some 85), none, .move (.t 8)⟩,
   ⟨(some 86), none, .slice 1 (.t 84) (some (.t 85)) none none⟩,
   ⟨(some 87), none, .move (.t 2)⟩,
   ⟨(some 88), none, .copy 1 (.t 86) (.t 87)⟩] (some [0, 1, 7]))
 (.seq (.ops [⟨(some 89), none, .move (.t 0)⟩,
   ⟨(some 90), none, .move (.t 1)⟩,
   ⟨(some 91), none, .slice 1 (.t 89) (some (.t 90)) none none⟩,
   ⟨(some 92), none, .move (.t 7)⟩,
   ⟨(some 93), none, .call (.c (.func (.func 91) #[] #[])) [(.t 91), (.t 92)]⟩] (some [0]))
 (.seq (.ops [⟨(some 94), none, .move (.t 0)⟩,
   ⟨(some 6), none, .move (.t 94)⟩] (some [6]))
 .ret)))))))))))), [.tmp 6]⟩

theorem is71 : FnIs Try.prog 71 x71 := ⟨Try.f71, _, Try.func71, by kernel_rfl, rfl, by kernel_rfl, by decide, by kernel_rfl⟩

/-- slices.Clone[[]string,string] -/
def x72 : XDecl := .code ⟨1, 
 (.seq (.ops [⟨(some 2), none, .move (.c (.slice none 0 0))⟩] (some [0]))
 (.seq (.seq (.ops [⟨(some 3), none, .move (.t 0)⟩,
   ⟨(some 4), none, .isNil .slice false (.t 3)⟩] (some [0, 4]))
 (.cond (.t 4)
  (.seq (.ops [⟨(some 2), none, .move (.c (.slice none 0 0))⟩] (some [2]))
  .ret)
  .skip))
 (.seq (.ops [⟨(some 5), none, .buildSlice [(.string .empty)] 1 0 []⟩,
   ⟨(some 6), none, .move (.t 0)⟩,
   ⟨(some 7), none, .append 1 16 [(.string .empty)] (.t 5) (.t 6)⟩,
   ⟨(some 2), none, .move (.t 7)⟩] (some [2]))
 .ret))), [.tmp 2]⟩

theorem is72 : FnIs Try.prog 72 x72 := ⟨Try.f72, _, Try.func72, by kernel_rfl, rfl, by kernel_rfl, by decide, by kernel_rfl⟩

/-- slices.Clone[[]int,int] -/
def x73 : XDecl := .code ⟨1, 
 (.seq (.ops [⟨(some 2), none, .move (.c (.slice none 0 0))⟩] (some [0]))
 (.seq (.seq (.ops [⟨(some 3), none, .move (.t 0)⟩,
   ⟨(some 4), none, .isNil .slice false (.t 3)⟩] (some [0, 4]))
 (.cond (.t 4)
  (.seq (.ops [⟨(some 2), none, .move (.c (.slice none 0 0))⟩] (some [2]))
  .ret)
  .skip))
 (.seq (.ops [⟨(some 5), none, .buildSlice [(.int .i64 0)] 1 0 []⟩,
   ⟨(some 6), none, .move (.t 0)⟩,
   ⟨(some 7), none, .append 1 8 [(.int .i64 0)] (.t 5) (.t 6)⟩,
   ⟨(some 2), none, .move (.t 7)⟩] (some [2]))
 .ret))), [.tmp 2]⟩

theorem is73 : FnIs Try.prog 73 x73 := ⟨Try.f73, _, Try.func73, by kernel_rfl, rfl, by kernel_rfl, by decide, by kernel_rfl⟩

/-- (*cloisonne/tree.Tree).edge -/
def x74 : XDecl := .code ⟨3, 
 (.seq (.ops [⟨(some 6), none, .move (.c (.string .empty))⟩,
   ⟨(some 7), none, .move (.c (.int .i64 0))⟩,
   ⟨(some 8), none, .move (.c (.bool false))⟩] (some [0, 1, 2]))
 (.seq (.ops [⟨(some 12), none, .move (.t 0)⟩,
   ⟨(some 13), none, .nilCheck (.t 12)⟩,
   ⟨(some 14), none, .fieldAddr 0 (.t 13)⟩,
   ⟨(some 15), none, .load false 1 (.t 14)⟩,
   ⟨(some 16), none, .move (.t 1)⟩,
   ⟨(some 17), none, .indexAddr 3 (.t 15) (.t 16)⟩,
   ⟨(some 9), none, .move (.t 17)⟩] (some [0, 2, 9]))
 (.seq (.block 0
  (.loop
   (.seq (.seq (.ops [⟨(some 18), none, .move (.t 9)⟩,
     ⟨(some 19), none, .call (.c (.func (.func 56) #[] #[])) [(.t 18)]⟩,
     ⟨(some 20), none, .un .not (.t 19)⟩] (some [0, 2, 9, 20]))
   (.cond (.t 20)
    .skip
    (.exit 0)))
   (.block 1
    (.seq (.ops [⟨(some 10), none, .move (.c (.int .i64 0))⟩] (some [0, 2, 9, 10]))
    (.seq (.seq (.ops [⟨(some 21), none, .move (.t 2)⟩] (some [0, 2, 9, 10, 21]))
    (.cond (.t 21)
     (.ops [⟨(some 22), none, .move (.t 9)⟩,
       ⟨(some 23), none, .nilCheck (.t 22)⟩,
       ⟨(some 24), none, .fieldAddr 2 (.t 23)⟩,
       ⟨(some 25), none, .load false 1 (.t 24)⟩,
       ⟨(some 26), none, .len (.t 25)⟩,
       ⟨(some 27), none, .bin .sub 3 (.t 26) (.c (.int .i64 1))⟩,
       ⟨(some 10), none, .move (.t 27)⟩] (some [0, 2, 9, 10]))
     .skip))
    (.opsr [⟨(some 28), none, .move (.t 0)⟩,
      ⟨(some 29), none, .nilCheck (.t 28)⟩,
      ⟨(some 30), none, .fieldAddr 0 (.t 29)⟩,
      ⟨(some 31), none, .load false 1 (.t 30)⟩,
      ⟨(some 32), none, .move (.t 9)⟩,
      ⟨(some 33), none, .nilCheck (.t 32)⟩,
      ⟨(some 34), none, .fieldAddr 2 (.t 33)⟩,
      ⟨(some 35), none, .load false 1 (.t 34)⟩,
      ⟨(some 36), none, .move (.t 10)⟩,
      ⟨(some 37), none, .indexAddr 1 (.t 35) (.t 36)⟩,
      ⟨(some 38), none, .load false 1 (.t 37)⟩,
      ⟨(some 39), none, .indexAddr 3 (.t 31) (.t 38)⟩,
      ⟨(some 9), none, .move (.t 39)⟩] (some [0, 2, 9]))))))))
 (.seq (.ops [⟨(some 11), none, .move (.c (.int .i64 0))⟩] (some [2, 9, 11]))
 (.seq (.seq (.ops [⟨(some 40), none, .move (.t 2)⟩] (some [9, 11, 40]))
 (.cond (.t 40)
  (.ops [⟨(some 41), none, .move (.t 9)⟩,
    ⟨(some 42), none, .nilCheck (.t 41)⟩,
    ⟨(some 43), none, .fieldAddr 0 (.t 42)⟩,
    ⟨(some 44), none, .load false 1 (.t 43)⟩,
    ⟨(some 45), none, .len (.t 44)⟩,
    ⟨(some 46), none, .bin .sub 3 (.t 45) (.c (.int .i64 1))⟩,
    ⟨(some 11), none, .move (.t 46)⟩] (some [9, 11]))
  .skip))
 (.seq (.opsr [⟨(some 47), none, .move (.t 9)⟩,
   ⟨(some 48), none, .nilCheck (.t 47)⟩,
   ⟨(some 49), none, .fieldAddr 0 (.t 48)⟩,
   ⟨(some 50), none, .load false 1 (.t 49)⟩,
   ⟨(some 51), none, .move (.t 11)⟩,
   ⟨(some 52), none, .indexAddr 1 (.t 50) (.t 51)⟩,
   ⟨(some 53), none, .load false 1 (.t 52)⟩,
   ⟨(some 54), none, .move (.t 9)⟩,
   ⟨(some 55), none, .nilCheck (.t 54)⟩,
   ⟨(some 56), none, .fieldAddr 1 (.t 55)⟩,
   ⟨(some 57), none, .load false 1 (.t 56)⟩,
   ⟨(some 58), none, .move (.t 11)⟩,
   ⟨(some 59), none, .indexAddr 1 (.t 57) (.t 58)⟩,
   ⟨(some 60), none, .load false 1 (.t 59)⟩,
   ⟨(some 6), none, .move (.t 53)⟩,
   ⟨(some 7), none, .move (.t 60)⟩,
   ⟨(some 8), none, .move (.c (.bool true))⟩] (some [6, 7, 8]))
 .ret)))))), [.tmp 6, .tmp 7, .tmp 8]⟩

theorem is74 : FnIs Try.prog 74 x74 := ⟨Try.f74, _, Try.func74, by kernel_rfl, rfl, by kernel_rfl, by decide, by kernel_rfl⟩

/-- slices.Delete[[]string,string] -/
def x75 : XDecl := .code ⟨3, 
 (.seq (.ops [⟨(some 6), none, .move (.c (.slice none 0 0))⟩] (some [0, 1, 2]))
 (.seq (.ops [⟨(some 8), none, .move (.t 0)⟩,
   ⟨(some 9), none, .move (.t 1)⟩,
   ⟨(some 10), none, .move (.t 2)⟩,
   ⟨(some 11), none, .move (.t 0)⟩,
   ⟨(some 12), none, .len (.t 11)⟩,
   ⟨(some 13), none, .slice 1 (.t 8) (some (.t 9)) (some (.t 10)) (some (.t 12))⟩] (some [0, 1, 2]))
 (.seq (.seq (.ops [⟨(some 14), none, .move (.t 1)⟩,
   ⟨(some 15), none, .move (.t 2)⟩,
   ⟨(some 16), none, .bin .eql 3 (.t 14) (.t 15)⟩] (some [0, 1, 2, 16]))
 (.cond (.t 16)
  (.seq (.ops [⟨(some 17), none, .move (.t 0)⟩,
    ⟨(some 6), none, .move (.t 17)⟩] (some [6]))
  .ret)
  .skip))
 (.seq (.ops [⟨(some 18), none, .move (.t 0)⟩,
   ⟨(some 19), none, .len (.t 18)⟩,
   ⟨(some 7), none, .move (.t 19)⟩] (some [0, 1, 2, 7]))
 (.seq (.opsd [(0, 0, ⟨(some 20), none, .move (.t 0)⟩),
   (1, 0, ⟨(some 21), none, .move (.t 1)⟩),
   (2, 3, ⟨(some 22), none, .slice 1 (.t 20) none (some (.t 21)) none⟩),
   (3, 0, ⟨(some 23), none, .move (.t 0)⟩),
   (4, 0, ⟨(some 24), none, .move (.t 2)⟩),
   (5, 24, ⟨(some 25), none, .slice 1 (.t 23) (some (.t 24)) none none⟩),
   (6, 63, ⟨(some 26), none, .append 1 16 [(.string .empty)] (.t 22) (.t 25)⟩),
   (7, 127, ⟨(some 0), none, .move (.t 26)⟩)] (some [0, 7]))
 (.seq (.ops [⟨(some 27), none, .move (.t 0)⟩,
   ⟨(some 28), none, .move (.t 0)⟩,
   ⟨(some 29), none, .len (.t 28)⟩,
   ⟨(some 30), none, .move (.t 7)⟩,
   ⟨(some 31), none, .slice 1 (.t 27) (some (.t 29)) (some (.t 30)) none⟩,
   ⟨none, none, .clear [(.string .empty)] (.t 31)⟩] (some [0]))
 (.seq (.ops [⟨(some 32), none, .move (.t 0)⟩,
   ⟨(some 6), none, .move (.t 32)⟩] (some [6]))
 .ret))))))), [.tmp 6]⟩

theorem is75 : FnIs Try.prog 75 x75 := ⟨Try.f75, _, Try.func75, by kernel_rfl, rfl, by kernel_rfl, by decide, by kernel_rfl⟩

/-- slices.Delete[[]int,int] -/
def x76 : XDecl := .code ⟨3, 
 (.seq (.ops [⟨(some 6), none, .move (.c (.slice none 0 0))⟩] (some [0, 1, 2]))
 (.seq (.ops [⟨(some 8), none, .move (.t 0)⟩,
   ⟨(some 9), none, .move (.t 1)⟩,
   ⟨(some 10), none, .move (.t 2)⟩,
   ⟨(some 11), none, .move (.t 0)⟩,
   ⟨(some 12), none, .len (.t 11)⟩,
   ⟨(some 13), none, .slice 1 (.t 8) (some (.t 9)) (some (.t 10)) (some (.t 12))⟩] (some [0, 1, 2]))
 (.seq (.seq (.ops [⟨(some 14), none, .move (.t 1)⟩,
   ⟨(some 15), none, .move (.t 2)⟩,
   ⟨(some 16), none, .bin .eql 3 (.t 14) (.t 15)⟩] (some [0, 1, 2, 16]))
 (.cond (.t 16)
  (.seq (.ops [⟨(some 17), none, .move (.t 0)⟩,
    ⟨(some 6), none, .move (.t 17)⟩] (some [6]))
  .ret)
  .skip))
 (.seq (.ops [⟨(some 18), none, .move (.t 0)⟩,
   ⟨(some 19), none, .len (.t 18)⟩,
   ⟨(some 7), none, .move (.t 19)⟩] (some [0, 1, 2, 7]))
 (.seq (.opsd [(0, 0, ⟨(some 20), none, .move (.t 0)⟩),
   (1, 0, ⟨(some 21), none, .move (.t 1)⟩),
   (2, 3, ⟨(some 22), none, .slice 1 (.t 20) none (some (.t 21)) none⟩),
   (3, 0, ⟨(some 23), none, .move (.t 0)⟩),
   (4, 0, ⟨(some 24), none, .move (.t 2)⟩),
   (5, 24, ⟨(some 25), none, .slice 1 (.t 23) (some (.t 24)) none none⟩),
   (6, 63, ⟨(some 26), none, .append 1 8 [(.int .i64 0)] (.t 22) (.t 25)⟩),
   (7, 127, ⟨(some 0), none, .move (.t 26)⟩)] (some [0, 7]))
 (.seq (.ops [⟨(some 27), none, .move (.t 0)⟩,
   ⟨(some 28), none, .move (.t 0)⟩,
   ⟨(some 29), none, .len (.t 28)⟩,
   ⟨(some 30), none, .move (.t 7)⟩,
   ⟨(some 31), none, .slice 1 (.t 27) (some (.t 29)) (some (.t 30)) none⟩,
   ⟨none, none, .clear [(.int .i64 0)] (.t 31)⟩] (some [0]))
 (.seq (.ops [⟨(some 32), none, .move (.t 0)⟩,
   ⟨(some 6), none, .move (.t 32)⟩] (some [6]))
 .ret))))))), [.tmp 6]⟩

theorem is76 : FnIs Try.prog 76 x76 := ⟨Try.f76, _, Try.func76, by kernel_rfl, rfl, by kernel_rfl, by decide, by kernel_rfl⟩

/-- (*cloisonne/tree.Tree).mend -/
def x77 : XDecl := .code ⟨3, 
 (.seq (.opsr [⟨(some 12), none, .move (.t 0)⟩,
   ⟨(some 13), none, .nilCheck (.t 12)⟩,
   ⟨(some 14), none, .fieldAddr 0 (.t 13)⟩,
   ⟨(some 15), none, .load false 1 (.t 14)⟩,
   ⟨(some 16), none, .move (.t 1)⟩,
   ⟨(some 17), none, .nilCheck (.t 16)⟩,
   ⟨(some 18), none, .fieldAddr 2 (.t 17)⟩,
   ⟨(some 19), none, .load false 1 (.t 18)⟩,
   ⟨(some 20), none, .move (.t 2)⟩,
   ⟨(some 21), none, .bin .sub 3 (.t 20) (.c (.int .i64 1))⟩,
   ⟨(some 22), none, .indexAddr 1 (.t 19) (.t 21)⟩,
   ⟨(some 23), none, .load false 1 (.t 22)⟩,
   ⟨(some 24), none, .indexAddr 3 (.t 15) (.t 23)⟩,
   ⟨(some 25), none, .move (.t 0)⟩,
   ⟨(some 26), none, .nilCheck (.t 25)⟩,
   ⟨(some 27), none, .fieldAddr 0 (.t 26)⟩,
   ⟨(some 28), none, .load false 1 (.t 27)⟩,
   ⟨(some 29), none, .move (.t 1)⟩,
   ⟨(some 30), none, .nilCheck (.t 29)⟩,
   ⟨(some 31), none, .fieldAddr 2 (.t 30)⟩,
   ⟨(some 32), none, .load false 1 (.t 31)⟩,
   ⟨(some 33), none, .move (.t 2)⟩,
   ⟨(some 34), none, .indexAddr 1 (.t 32) (.t 33)⟩,
   ⟨(some 35), none, .load false 1 (.t 34)⟩,
   ⟨(some 36), none, .indexAddr 3 (.t 28) (.t 35)⟩,
   ⟨(some 6), none, .move (.t 24)⟩,
   ⟨(some 7), none, .move (.t 36)⟩] (some [0, 1, 2, 6, 7]))
 (.seq (.seq (.ops [⟨(some 37), none, .move (.t 6)⟩,
   ⟨(some 38), none, .call (.c (.func (.func 49) #[] #[])) [(.t 37)]⟩,
   ⟨(some 39), none, .move (.t 7)⟩,
   ⟨(some 40), none, .call (.c (.func (.func 49) #[] #[])) [(.t 39)]⟩,
   ⟨(some 41), none, .bin .add 3 (.t 38) (.t 40)⟩,
   ⟨(some 42), none, .bin .leq 3 (.t 41) (.c (.int .i64 4))⟩] (some [0, 1, 2, 6, 7, 42]))
 (.cond (.t 42)
  (.seq (.ops [⟨(some 43), none, .move (.t 0)⟩,
    ⟨(some 44), none, .move (.t 1)⟩,
    ⟨(some 45), none, .move (.t 2)⟩,
    ⟨(some 46), none, .call (.c (.func (.func 92) #[] #[])) [(.t 43), (.t 44), (.t 45)]⟩] (some []))
  .ret)
  .skip))
 (.seq (.seq (.ops [⟨(some 47), none, .move (.t 6)⟩,
   ⟨(some 48), none, .call (.c (.func (.func 56) #[] #[])) [(.t 47)]⟩,
   ⟨(some 49), none, .un .not (.t 48)⟩] (some [1, 2, 6, 7, 49]))
 (.cond (.t 49)
  (.opsd [(0, 0, ⟨(some 50), none, .move (.t 6)⟩),
    (1, 0, ⟨(some 51), none, .move (.t 6)⟩),
    (2, 2, ⟨(some 52), none, .nilCheck (.t 51)⟩),
    (3, 6, ⟨(some 53), none, .fieldAddr 0 (.t 52)⟩),
    (4, 14, ⟨(some 54), none, .load false 1 (.t 53)⟩),
    (5, 0, ⟨(some 55), none, .move (.t 1)⟩),
    (6, 32, ⟨(some 56), none, .nilCheck (.t 55)⟩),
    (7, 96, ⟨(some 57), none, .fieldAddr 0 (.t 56)⟩),
    (8, 224, ⟨(some 58), none, .load false 1 (.t 57)⟩),
    (9, 0, ⟨(some 59), none, .move (.t 2)⟩),
    (10, 512, ⟨(some 60), none, .bin .sub 3 (.t 59) (.c (.int .i64 1))⟩),
    (11, 2016, ⟨(some 61), none, .indexAddr 1 (.t 58) (.t 60)⟩),
    (12, 4064, ⟨(some 62), none, .load false 1 (.t 61)⟩),
    (13, 8160, ⟨(some 63), none, .buildSlice [(.string .empty)] 1 1 [(0, (.t 62))]⟩),
    (14, 16382, ⟨(some 64), none, .append 1 16 [(.string .empty)] (.t 54) (.t 63)⟩),
    (15, 32767, ⟨(some 65), none, .nilCheck (.t 50)⟩),
    (16, 65535, ⟨(some 66), none, .fieldAddr 0 (.t 65)⟩),
    (17, 131071, ⟨none, none, .store 1 (.t 66) (.t 64)⟩)] (some [1, 2, 6, 7]))
  .skip))
 (.seq (.opsd [(0, 0, ⟨(some 67), none, .move (.t 6)⟩),
   (1, 1, ⟨(some 68), none, .nilCheck (.t 67)⟩),
   (2, 3, ⟨(some 69), none, .fieldAddr 0 (.t 68)⟩),
   (3, 7, ⟨(some 70), none, .load false 1 (.t 69)⟩),
   (4, 0, ⟨(some 71), none, .move (.t 7)⟩),
   (5, 16, ⟨(some 72), none, .nilCheck (.t 71)⟩),
   (6, 48, ⟨(some 73), none, .fieldAddr 0 (.t 72)⟩),
   (7, 112, ⟨(some 74), none, .load false 1 (.t 73)⟩),
   (8, 255, ⟨(some 75), none, .buildSlice [(.slice none 0 0)] 1 2 [(0, (.t 70)), (1, (.t 74))]⟩),
   (9, 511, ⟨(some 76), none, .call (.c (.func (.func 93) #[] #[])) [(.t 75)]⟩),
   (10, 1023, ⟨(some 8), none, .move (.t 76)⟩)] (some [1, 2, 6, 7, 8]))
 (.seq (.opsd [(0, 0, ⟨(some 77), none, .move (.t 6)⟩),
   (1, 1, ⟨(some 78), none, .nilCheck (.t 77)⟩),
   (2, 3, ⟨(some 79), none, .fieldAddr 1 (.t 78)⟩),
   (3, 7, ⟨(some 80), none, .load false 1 (.t 79)⟩),
   (4, 0, ⟨(some 81), none, .move (.t 7)⟩),
   (5, 16, ⟨(some 82), none, .nilCheck (.t 81)⟩),
   (6, 48, ⟨(some 83), none, .fieldAddr 1 (.t 82)⟩),
   (7, 112, ⟨(some 84), none, .load false 1 (.t 83)⟩),
   (8, 255, ⟨(some 85), none, .buildSlice [(.slice none 0 0)] 1 2 [(0, (.t 80)), (1, (.t 84))]⟩),
   (10, 0, ⟨(some 87), none, .move (.t 6)⟩),
   (11, 1024, ⟨(some 88), none, .nilCheck (.t 87)⟩),
   (12, 3072, ⟨(some 89), none, .fieldAddr 2 (.t 88)⟩),
   (13, 7168, ⟨(some 90), none, .load false 1 (.t 89)⟩),
   (14, 0, ⟨(some 91), none, .move (.t 7)⟩),
   (15, 16384, ⟨(some 92), none, .nilCheck (.t 91)⟩),
   (16, 49152, ⟨(some 93), none, .fieldAddr 2 (.t 92)⟩),
   (17, 114688, ⟨(some 94), none, .load false 1 (.t 93)⟩),
   (18, 261120, ⟨(some 95), none, .buildSlice [(.slice none 0 0)] 1 2 [(0, (.t 90)), (1, (.t 94))]⟩),
   (9, 511, ⟨(some 86), none, .call (.c (.func (.func 94) #[] #[])) [(.t 85)]⟩),
   (19, 524287, ⟨(some 96), none, .call (.c (.func (.func 94) #[] #[])) [(.t 95)]⟩),
   (20, 1048575, ⟨(some 9), none, .move (.t 86)⟩),
   (21, 2097151, ⟨(some 10), none, .move (.t 96)⟩)] (some [1, 2, 6, 7, 8, 9, 10]))
 (.seq (.ops [⟨(some 97), none, .move (.t 6)⟩,
   ⟨(some 98), none, .call (.c (.func (.func 49) #[] #[])) [(.t 97)]⟩,
   ⟨(some 99), none, .move (.t 7)⟩,
   ⟨(some 100), none, .call (.c (.func (.func 49) #[] #[])) [(.t 99)]⟩,
   ⟨(some 101), none, .bin .add 3 (.t 98) (.t 100)⟩,
   ⟨(some 102), none, .bin .quo 3 (.t 101) (.c (.int .i64 2))⟩,
   ⟨(some 11), none, .move (.t 102)⟩] (some [1, 2, 6, 7, 8, 9, 10, 11]))
 (.seq (.seq (.ops [⟨(some 103), none, .move (.t 6)⟩,
   ⟨(some 104), none, .call (.c (.func (.func 56) #[] #[])) [(.t 103)]⟩] (some [1, 2, 6, 7, 8, 9, 10, 11, 104]))
 (.cond (.t 104)
  (.seq (.opsd [(0, 0, ⟨(some 105), none, .move (.t 6)⟩),
    (1, 0, ⟨(some 106), none, .move (.t 8)⟩),
    (2, 0, ⟨(some 107), none, .move (.t 11)⟩),
    (3, 6, ⟨(some 108), none, .slice 1 (.t 106) none (some (.t 107)) none⟩),
    (5, 0, ⟨(some 110), none, .move (.t 9)⟩),
    (6, 0, ⟨(some 111), none, .move (.t 11)⟩),
    (7, 96, ⟨(some 112), none, .slice 1 (.t 110) none (some (.t 111)) none⟩),
    (4, 14, ⟨(some 109), none, .call (.c (.func (.func 72) #[] #[])) [(.t 108)]⟩),
    (8, 254, ⟨(some 113), none, .call (.c (.func (.func 73) #[] #[])) [(.t 112)]⟩),
    (9, 510, ⟨(some 114), none, .build [(.slice none 0 0), (.slice none 0 0), (.slice none 0 0)] [(0, 1), (1, 1), (2, 1)] [(0, (.t 109)), (1, (.t 113))]⟩),
    (10, 1023, ⟨(some 115), none, .nilCheck (.t 105)⟩),
    (11, 2047, ⟨none, none, .store 3 (.t 115) (.t 114)⟩)] (some [1, 2, 7, 8, 9, 11]))
  (.seq (.opsd [(0, 0, ⟨(some 116), none, .move (.t 7)⟩),
    (1, 0, ⟨(some 117), none, .move (.t 8)⟩),
    (2, 0, ⟨(some 118), none, .move (.t 11)⟩),
    (3, 6, ⟨(some 119), none, .slice 1 (.t 117) (some (.t 118)) none none⟩),
    (5, 0, ⟨(some 121), none, .move (.t 9)⟩),
    (6, 0, ⟨(some 122), none, .move (.t 11)⟩),
    (7, 96, ⟨(some 123), none, .slice 1 (.t 121) (some (.t 122)) none none⟩),
    (4, 14, ⟨(some 120), none, .call (.c (.func (.func 72) #[] #[])) [(.t 119)]⟩),
    (8, 254, ⟨(some 124), none, .call (.c (.func (.func 73) #[] #[])) [(.t 123)]⟩),
    (9, 510, ⟨(some 125), none, .build [(.slice none 0 0), (.slice none 0 0), (.slice none 0 0)] [(0, 1), (1, 1), (2, 1)] [(0, (.t 120)), (1, (.t 124))]⟩),
    (10, 1023, ⟨(some 126), none, .nilCheck (.t 116)⟩),
    (11, 2047, ⟨none, none, .store 3 (.t 126) (.t 125)⟩)] (some [1, 2, 8, 11]))
  (.seq (.opsd [(0, 0, ⟨(some 127), none, .move (.t 1)⟩),
    (1, 1, ⟨(some 128), none, .nilCheck (.t 127)⟩),
    (2, 3, ⟨(some 129), none, .fieldAddr 0 (.t 128)⟩),
    (3, 7, ⟨(some 130), none, .load false 1 (.t 129)⟩),
    (4, 0, ⟨(some 131), none, .move (.t 2)⟩),
    (5, 16, ⟨(some 132), none, .bin .sub 3 (.t 131) (.c (.int .i64 1))⟩),
    (6, 0, ⟨(some 133), none, .move (.t 8)⟩),
    (7, 0, ⟨(some 134), none, .move (.t 11)⟩),
    (8, 192, ⟨(some 135), none, .indexAddr 1 (.t 133) (.t 134)⟩),
    (9, 448, ⟨(some 136), none, .load false 1 (.t 135)⟩),
    (10, 1023, ⟨(some 137), none, .indexAddr 1 (.t 130) (.t 132)⟩),
    (11, 2047, ⟨none, none, .store 1 (.t 137) (.t 136)⟩)] (some []))
  .ret)))
  .skip))
 (.seq (.opsd [(0, 0, ⟨(some 138), none, .move (.t 6)⟩),
   (1, 0, ⟨(some 139), none, .move (.t 8)⟩),
   (2, 0, ⟨(some 140), none, .move (.t 11)⟩),
   (3, 4, ⟨(some 141), none, .bin .sub 3 (.t 140) (.c (.int .i64 1))⟩),
   (4, 14, ⟨(some 142), none, .slice 1 (.t 139) none (some (.t 141)) none⟩),
   (6, 0, ⟨(some 144), none, .move (.t 10)⟩),
   (7, 0, ⟨(some 145), none, .move (.t 11)⟩),
   (8, 192, ⟨(some 146), none, .slice 1 (.t 144) none (some (.t 145)) none⟩),
   (5, 30, ⟨(some 143), none, .call (.c (.func (.func 72) #[] #[])) [(.t 142)]⟩),
   (9, 510, ⟨(some 147), none, .call (.c (.func (.func 73) #[] #[])) [(.t 146)]⟩),
   (10, 1022, ⟨(some 148), none, .build [(.slice none 0 0), (.slice none 0 0), (.slice none 0 0)] [(0, 1), (1, 1), (2, 1)] [(0, (.t 143)), (2, (.t 147))]⟩),
   (11, 2047, ⟨(some 149), none, .nilCheck (.t 138)⟩),
   (12, 4095, ⟨none, none, .store 3 (.t 149) (.t 148)⟩)] (some [1, 2, 7, 8, 10, 11]))
 (.seq (.opsd [(0, 0, ⟨(some 150), none, .move (.t 7)⟩),
   (1, 0, ⟨(some 151), none, .move (.t 8)⟩),
   (2, 0, ⟨(some 152), none, .move (.t 11)⟩),
   (3, 6, ⟨(some 153), none, .slice 1 (.t 151) (some (.t 152)) none none⟩),
   (5, 0, ⟨(some 155), none, .move (.t 10)⟩),
   (6, 0, ⟨(some 156), none, .move (.t 11)⟩),
   (7, 96, ⟨(some 157), none, .slice 1 (.t 155) (some (.t 156)) none none⟩),
   (4, 14, ⟨(some 154), none, .call (.c (.func (.func 72) #[] #[])) [(.t 153)]⟩),
   (8, 254, ⟨(some 158), none, .call (.c (.func (.func 73) #[] #[])) [(.t 157)]⟩),
   (9, 510, ⟨(some 159), none, .build [(.slice none 0 0), (.slice none 0 0), (.slice none 0 0)] [(0, 1), (1, 1), (2, 1)] [(0, (.t 154)), (2, (.t 158))]⟩),
   (10, 1023, ⟨(some 160), none, .nilCheck (.t 150)⟩),
   (11, 2047, ⟨none, none, .store 3 (.t 160) (.t 159)⟩)] (some [1, 2, 8, 11]))
 (.opsd [(0, 0, ⟨(some 161), none, .move (.t 1)⟩),
   (1, 1, ⟨(some 162), none, .nilCheck (.t 161)⟩),
   (2, 3, ⟨(some 163), none, .fieldAddr 0 (.t 162)⟩),
   (3, 7, ⟨(some 164), none, .load false 1 (.t 163)⟩),
   (4, 0, ⟨(some 165), none, .move (.t 2)⟩),
   (5, 16, ⟨(some 166), none, .bin .sub 3 (.t 165) (.c (.int .i64 1))⟩),
   (6, 0, ⟨(some 167), none, .move (.t 8)⟩),
   (7, 0, ⟨(some 168), none, .move (.t 11)⟩),
   (8, 128, ⟨(some 169), none, .bin .sub 3 (.t 168) (.c (.int .i64 1))⟩),
   (9, 448, ⟨(some 170), none, .indexAddr 1 (.t 167) (.t 169)⟩),
   (10, 960, ⟨(some 171), none, .load false 1 (.t 170)⟩),
   (11, 2047, ⟨(some 172), none, .indexAddr 1 (.t 164) (.t 166)⟩),
   (12, 4095, ⟨none, none, .store 1 (.t 172) (.t 171)⟩)] (some []))))))))))), []⟩

theorem is77 : FnIs Try.prog 77 x77 := ⟨Try.f77, _, Try.func77, by kernel_rfl, rfl, by kernel_rfl, by decide, by kernel_rfl⟩

/-- (*cloisonne/tree.Tree).last -/
def x78 : XDecl := .code ⟨3, 
 (.seq (.ops [⟨(some 6), none, .move (.c (.string .empty))⟩,
   ⟨(some 7), none, .move (.c (.int .i64 0))⟩,
   ⟨(some 8), none, .move (.c (.bool false))⟩] (some [0, 1, 2]))
 (.seq (.ops [⟨(some 16), none, .move (.t 0)⟩,
   ⟨(some 17), none, .nilCheck (.t 16)⟩,
   ⟨(some 18), none, .fieldAddr 0 (.t 17)⟩,
   ⟨(some 19), none, .load false 1 (.t 18)⟩,
   ⟨(some 20), none, .move (.t 1)⟩,
   ⟨(some 21), none, .indexAddr 3 (.t 19) (.t 20)⟩,
   ⟨(some 9), none, .move (.t 21)⟩] (some [0, 2, 9]))
 (.seq (.seq (.ops [⟨(some 22), none, .move (.t 9)⟩,
   ⟨(some 23), none, .call (.c (.func (.func 56) #[] #[])) [(.t 22)]⟩] (some [0, 2, 9, 23]))
 (.cond (.t 23)
  (.seq (.ops [⟨(some 25), none, .move (.t 9)⟩,
    ⟨(some 26), none, .nilCheck (.t 25)⟩,
    ⟨(some 27), none, .fieldAddr 0 (.t 26)⟩,
    ⟨(some 28), none, .load false 1 (.t 27)⟩,
    ⟨(some 29), none, .move (.t 2)⟩,
    ⟨(some 30), none, .call (.c (.func (.func 69) #[] #[])) [(.t 28), (.t 29)]⟩,
    ⟨(some 24), none, .move (.t 30)⟩,
    ⟨(some 31), none, .extract (.t 24) 0⟩,
    ⟨(some 32), none, .extract (.t 24) 1⟩,
    ⟨(some 10), none, .move (.t 31)⟩,
    ⟨(some 11), none, .move (.t 32)⟩] (some [9, 10]))
  (.seq (.seq (.ops [⟨(some 33), none, .move (.t 10)⟩,
    ⟨(some 34), none, .bin .eql 3 (.t 33) (.c (.int .i64 0))⟩] (some [9, 10, 34]))
  (.cond (.t 34)
   (.seq (.ops [⟨(some 6), none, .move (.c (.string .empty))⟩,
     ⟨(some 7), none, .move (.c (.int .i64 0))⟩,
     ⟨(some 8), none, .move (.c (.bool false))⟩] (some [6, 7, 8]))
   .ret)
   .skip))
  (.seq (.opsr [⟨(some 35), none, .move (.t 9)⟩,
    ⟨(some 36), none, .nilCheck (.t 35)⟩,
    ⟨(some 37), none, .fieldAddr 0 (.t 36)⟩,
    ⟨(some 38), none, .load false 1 (.t 37)⟩,
    ⟨(some 39), none, .move (.t 10)⟩,
    ⟨(some 40), none, .bin .sub 3 (.t 39) (.c (.int .i64 1))⟩,
    ⟨(some 41), none, .indexAddr 1 (.t 38) (.t 40)⟩,
    ⟨(some 42), none, .load false 1 (.t 41)⟩,
    ⟨(some 43), none, .move (.t 9)⟩,
    ⟨(some 44), none, .nilCheck (.t 43)⟩,
    ⟨(some 45), none, .fieldAddr 1 (.t 44)⟩,
    ⟨(some 46), none, .load false 1 (.t 45)⟩,
    ⟨(some 47), none, .move (.t 10)⟩,
    ⟨(some 48), none, .bin .sub 3 (.t 47) (.c (.int .i64 1))⟩,
    ⟨(some 49), none, .indexAddr 1 (.t 46) (.t 48)⟩,
    ⟨(some 50), none, .load false 1 (.t 49)⟩,
    ⟨(some 6), none, .move (.t 42)⟩,
    ⟨(some 7), none, .move (.t 50)⟩,
    ⟨(some 8), none, .move (.c (.bool true))⟩] (some [6, 7, 8]))
  .ret)))
  .skip))
 (.seq (.ops [⟨(some 51), none, .move (.t 9)⟩,
   ⟨(some 52), none, .move (.t 2)⟩,
   ⟨(some 53), none, .call (.c (.func (.func 68) #[] #[])) [(.t 51), (.t 52)]⟩,
   ⟨(some 12), none, .move (.t 53)⟩] (some [0, 2, 9, 12]))
 (.seq (.seq (.ops [⟨(some 55), none, .move (.t 0)⟩,
   ⟨(some 56), none, .move (.t 9)⟩,
   ⟨(some 57), none, .nilCheck (.t 56)⟩,
   ⟨(some 58), none, .fieldAddr 2 (.t 57)⟩,
   ⟨(some 59), none, .load false 1 (.t 58)⟩,
   ⟨(some 60), none, .move (.t 12)⟩,
   ⟨(some 61), none, .indexAddr 1 (.t 59) (.t 60)⟩,
   ⟨(some 62), none, .load false 1 (.t 61)⟩,
   ⟨(some 63), none, .move (.t 2)⟩,
   ⟨(some 64), none, .call (.c (.func (.func 78) #[] #[])) [(.t 55), (.t 62), (.t 63)]⟩,
   ⟨(some 54), none, .move (.t 64)⟩,
   ⟨(some 65), none, .extract (.t 54) 0⟩,
   ⟨(some 66), none, .extract (.t 54) 1⟩,
   ⟨(some 67), none, .extract (.t 54) 2⟩,
   ⟨(some 13), none, .move (.t 65)⟩,
   ⟨(some 14), none, .move (.t 66)⟩,
   ⟨(some 15), none, .move (.t 67)⟩] (some [0, 9, 12, 13, 14, 15]))
 (.seq (.ops [⟨(some 68), none, .move (.t 15)⟩] (some [0, 9, 12, 13, 14, 68]))
 (.cond (.t 68)
  (.seq (.ops [⟨(some 69), none, .move (.t 13)⟩,
    ⟨(some 70), none, .move (.t 14)⟩,
    ⟨(some 6), none, .move (.t 69)⟩,
    ⟨(some 7), none, .move (.t 70)⟩,
    ⟨(some 8), none, .move (.c (.bool true))⟩] (some [6, 7, 8]))
  .ret)
  .skip)))
 (.seq (.seq (.ops [⟨(some 71), none, .move (.t 12)⟩,
   ⟨(some 72), none, .bin .gtr 3 (.t 71) (.c (.int .i64 0))⟩] (some [0, 9, 12, 72]))
 (.cond (.t 72)
  (.seq (.ops [⟨(some 73), none, .move (.t 0)⟩,
    ⟨(some 74), none, .move (.t 9)⟩,
    ⟨(some 75), none, .nilCheck (.t 74)⟩,
    ⟨(some 76), none, .fieldAddr 2 (.t 75)⟩,
    ⟨(some 77), none, .load false 1 (.t 76)⟩,
    ⟨(some 78), none, .move (.t 12)⟩,
    ⟨(some 79), none, .bin .sub 3 (.t 78) (.c (.int .i64 1))⟩,
    ⟨(some 80), none, .indexAddr 1 (.t 77) (.t 79)⟩,
    ⟨(some 81), none, .load false 1 (.t 80)⟩,
    ⟨(some 82), none, .call (.c (.func (.func 74) #[] #[])) [(.t 73), (.t 81), (.c (.bool true))]⟩,
    ⟨(some 83), none, .extract (.t 82) 0⟩,
    ⟨(some 84), none, .extract (.t 82) 1⟩,
    ⟨(some 85), none, .extract (.t 82) 2⟩,
    ⟨(some 6), none, .move (.t 83)⟩,
    ⟨(some 7), none, .move (.t 84)⟩,
    ⟨(some 8), none, .move (.t 85)⟩] (some [6, 7, 8]))
  .ret)
  .skip))
 (.seq (.ops [⟨(some 6), none, .move (.c (.string .empty))⟩,
   ⟨(some 7), none, .move (.c (.int .i64 0))⟩,
   ⟨(some 8), none, .move (.c (.bool false))⟩] (some [6, 7, 8]))
 .ret))))))), [.tmp 6, .tmp 7, .tmp 8]⟩

theorem is78 : FnIs Try.prog 78 x78 := ⟨Try.f78, _, Try.func78, by kernel_rfl, rfl, by kernel_rfl, by decide, by kernel_rfl⟩

/-- cmp.Less[string] -/
def x86 : XDecl := .code ⟨2, 
 (.seq (.ops [⟨(some 4), none, .move (.c (.bool false))⟩] (some [0, 1]))
 (.seq (.ops [⟨(some 5), none, .move (.t 0)⟩,
   ⟨(some 6), none, .call (.c (.func (.func 100) #[] #[])) [(.t 5)]⟩,
   ⟨(some 7), none, .move (.t 6)⟩,
   ⟨(some 8), (some (7, true)), .move (.t 1)⟩,
   ⟨(some 9), (some (7, true)), .call (.c (.func (.func 100) #[] #[])) [(.t 8)]⟩,
   ⟨(some 10), (some (7, true)), .un .not (.t 9)⟩,
   ⟨(some 11), none, .pick (.t 7) (.t 10) (.c (.bool false))⟩,
   ⟨(some 12), none, .move (.t 11)⟩,
   ⟨(some 13), (some (12, false)), .move (.t 0)⟩,
   ⟨(some 14), (some (12, false)), .move (.t 1)⟩,
   ⟨(some 15), (some (12, false)), .bin .lss 9 (.t 13) (.t 14)⟩,
   ⟨(some 16), none, .pick (.t 12) (.c (.bool true)) (.t 15)⟩,
   ⟨(some 4), none, .move (.t 16)⟩] (some [4]))
 .ret)), [.tmp 4]⟩

theorem is86 : FnIs Try.prog 86 x86 := ⟨Try.f86, _, Try.func86, by kernel_rfl, rfl, by kernel_rfl, by decide, by kernel_rfl⟩

/-- slices.isNaN[string] -/
def x87 : XDecl := .code ⟨1, 
 (.seq (.ops [⟨(some 2), none, .move (.c (.bool false))⟩] (some [0]))
 (.seq (.ops [⟨(some 3), none, .move (.t 0)⟩,
   ⟨(some 4), none, .move (.t 0)⟩,
   ⟨(some 5), none, .bin .neq 9 (.t 3) (.t 4)⟩,
   ⟨(some 2), none, .move (.t 5)⟩] (some [2]))
 .ret)), [.tmp 2]⟩

theorem is87 : FnIs Try.prog 87 x87 := ⟨Try.f87, _, Try.func87, by kernel_rfl, rfl, by kernel_rfl, by decide, by kernel_rfl⟩

-- 88 slices.overlaps[string]: no body
def x88 : XDecl := .ext 88

theorem is88 : FnIs Try.prog 88 x88 := rfl

/-- slices.rotateRight[string] -/
def x89 : XDecl := .code ⟨2, 
 (.ops [⟨(some 4), none, .move (.t 0)⟩,
   ⟨(some 5), none, .move (.t 0)⟩,
   ⟨(some 6), none, .len (.t 5)⟩,
   ⟨(some 7), none, .move (.t 1)⟩,
   ⟨(some 8), none, .bin .sub 3 (.t 6) (.t 7)⟩,
   ⟨(some 9), none, .call (.c (.func (.func 101) #[] #[])) [(.t 4), (.t 8)]⟩] (some [])), []⟩

theorem is89 : FnIs Try.prog 89 x89 := ⟨Try.f89, _, Try.func89, by kernel_rfl, rfl, by kernel_rfl, by decide, by kernel_rfl⟩

-- 90 slices.overlaps[int]: no body
def x90 : XDecl := .ext 90

theorem is90 : FnIs Try.prog 90 x90 := rfl

/-- slices.rotateRight[int] -/
def x91 : XDecl := .code ⟨2, 
 (.ops [⟨(some 4), none, .move (.t 0)⟩,
   ⟨(some 5), none, .move (.t 0)⟩,
   ⟨(some 6), none, .len (.t 5)⟩,
   ⟨(some 7), none, .move (.t 1)⟩,
   ⟨(some 8), none, .bin .sub 3 (.t 6) (.t 7)⟩,
   ⟨(some 9), none, .call (.c (.func (.func 102) #[] #[])) [(.t 4), (.t 8)]⟩] (some [])), []⟩

theorem is91 : FnIs Try.prog 91 x91 := ⟨Try.f91, _, Try.func91, by kernel_rfl, rfl, by kernel_rfl, by decide, by kernel_rfl⟩

/-- (*cloisonne/tree.Tree).join -/
def x92 : XDecl := .code ⟨3, 
 (.seq (.ops [⟨(some 9), none, .move (.t 1)⟩,
   ⟨(some 10), none, .nilCheck (.t 9)⟩,
   ⟨(some 11), none, .fieldAddr 2 (.t 10)⟩,
   ⟨(some 12), none, .load false 1 (.t 11)⟩,
   ⟨(some 13), none, .move (.t 2)⟩,
   ⟨(some 14), none, .indexAddr 1 (.t 12) (.t 13)⟩,
   ⟨(some 15), none, .load false 1 (.t 14)⟩,
   ⟨(some 6), none, .move (.t 15)⟩] (some [0, 1, 2, 6]))
 (.seq (.opsd [(0, 0, ⟨(some 16), none, .move (.t 0)⟩),
   (1, 1, ⟨(some 17), none, .nilCheck (.t 16)⟩),
   (2, 3, ⟨(some 18), none, .fieldAddr 0 (.t 17)⟩),
   (3, 7, ⟨(some 19), none, .load false 1 (.t 18)⟩),
   (4, 0, ⟨(some 20), none, .move (.t 1)⟩),
   (5, 16, ⟨(some 21), none, .nilCheck (.t 20)⟩),
   (6, 48, ⟨(some 22), none, .fieldAddr 2 (.t 21)⟩),
   (7, 112, ⟨(some 23), none, .load false 1 (.t 22)⟩),
   (8, 0, ⟨(some 24), none, .move (.t 2)⟩),
   (9, 256, ⟨(some 25), none, .bin .sub 3 (.t 24) (.c (.int .i64 1))⟩),
   (10, 1008, ⟨(some 26), none, .indexAddr 1 (.t 23) (.t 25)⟩),
   (11, 2032, ⟨(some 27), none, .load false 1 (.t 26)⟩),
   (12, 4095, ⟨(some 28), none, .indexAddr 3 (.t 19) (.t 27)⟩),
   (13, 0, ⟨(some 29), none, .move (.t 0)⟩),
   (14, 8192, ⟨(some 30), none, .nilCheck (.t 29)⟩),
   (15, 24576, ⟨(some 31), none, .fieldAddr 0 (.t 30)⟩),
   (16, 57344, ⟨(some 32), none, .load false 1 (.t 31)⟩),
   (17, 0, ⟨(some 33), none, .move (.t 6)⟩),
   (18, 253952, ⟨(some 34), none, .indexAddr 3 (.t 32) (.t 33)⟩),
   (19, 516096, ⟨(some 35), none, .load true 3 (.t 34)⟩),
   (20, 0, ⟨(some 8), none, .alloc [(.slice none 0 0), (.slice none 0 0), (.slice none 0 0)]⟩),
   (21, 1056767, ⟨(some 7), none, .move (.t 28)⟩),
   (22, 4194303, ⟨none, none, .store 3 (.t 8) (.t 35)⟩)] (some [0, 1, 2, 6, 7, 8]))
 (.seq (.seq (.ops [⟨(some 36), none, .move (.t 7)⟩,
   ⟨(some 37), none, .call (.c (.func (.func 56) #[] #[])) [(.t 36)]⟩,
   ⟨(some 38), none, .un .not (.t 37)⟩] (some [0, 1, 2, 6, 7, 8, 38]))
 (.cond (.t 38)
  (.opsd [(0, 0, ⟨(some 39), none, .move (.t 7)⟩),
    (1, 0, ⟨(some 40), none, .move (.t 7)⟩),
    (2, 2, ⟨(some 41), none, .nilCheck (.t 40)⟩),
    (3, 6, ⟨(some 42), none, .fieldAddr 0 (.t 41)⟩),
    (4, 14, ⟨(some 43), none, .load false 1 (.t 42)⟩),
    (5, 0, ⟨(some 44), none, .move (.t 1)⟩),
    (6, 32, ⟨(some 45), none, .nilCheck (.t 44)⟩),
    (7, 96, ⟨(some 46), none, .fieldAddr 0 (.t 45)⟩),
    (8, 224, ⟨(some 47), none, .load false 1 (.t 46)⟩),
    (9, 0, ⟨(some 48), none, .move (.t 2)⟩),
    (10, 512, ⟨(some 49), none, .bin .sub 3 (.t 48) (.c (.int .i64 1))⟩),
    (11, 2016, ⟨(some 50), none, .indexAddr 1 (.t 47) (.t 49)⟩),
    (12, 4064, ⟨(some 51), none, .load false 1 (.t 50)⟩),
    (13, 8160, ⟨(some 52), none, .buildSlice [(.string .empty)] 1 1 [(0, (.t 51))]⟩),
    (14, 16382, ⟨(some 53), none, .append 1 16 [(.string .empty)] (.t 43) (.t 52)⟩),
    (15, 32767, ⟨(some 54), none, .nilCheck (.t 39)⟩),
    (16, 65535, ⟨(some 55), none, .fieldAddr 0 (.t 54)⟩),
    (17, 131071, ⟨none, none, .store 1 (.t 55) (.t 53)⟩)] (some [0, 1, 2, 6, 7, 8]))
  .skip))
 (.seq (.opsd [(0, 0, ⟨(some 56), none, .move (.t 7)⟩),
   (1, 0, ⟨(some 57), none, .move (.t 7)⟩),
   (2, 0, ⟨(some 58), none, .move (.t 7)⟩),
   (3, 0, ⟨(some 59), none, .move (.t 7)⟩),
   (4, 8, ⟨(some 60), none, .nilCheck (.t 59)⟩),
   (5, 24, ⟨(some 61), none, .fieldAddr 0 (.t 60)⟩),
   (6, 56, ⟨(some 62), none, .load false 1 (.t 61)⟩),
   (7, 0, ⟨(some 63), none, .fieldAddr 0 (.t 8)⟩),
   (8, 128, ⟨(some 64), none, .load false 1 (.t 63)⟩),
   (10, 0, ⟨(some 66), none, .move (.t 7)⟩),
   (11, 1024, ⟨(some 67), none, .nilCheck (.t 66)⟩),
   (12, 3072, ⟨(some 68), none, .fieldAddr 1 (.t 67)⟩),
   (13, 7168, ⟨(some 69), none, .load false 1 (.t 68)⟩),
   (14, 0, ⟨(some 70), none, .fieldAddr 1 (.t 8)⟩),
   (15, 16384, ⟨(some 71), none, .load false 1 (.t 70)⟩),
   (17, 0, ⟨(some 73), none, .move (.t 7)⟩),
   (18, 131072, ⟨(some 74), none, .nilCheck (.t 73)⟩),
   (19, 393216, ⟨(some 75), none, .fieldAddr 2 (.t 74)⟩),
   (20, 917504, ⟨(some 76), none, .load false 1 (.t 75)⟩),
   (21, 0, ⟨(some 77), none, .fieldAddr 2 (.t 8)⟩),
   (22, 2097152, ⟨(some 78), none, .load false 1 (.t 77)⟩),
   (9, 504, ⟨(some 65), none, .append 1 16 [(.string .empty)] (.t 62) (.t 64)⟩),
   (16, 65528, ⟨(some 72), none, .append 1 8 [(.int .i64 0)] (.t 69) (.t 71)⟩),
   (23, 8388600, ⟨(some 79), none, .append 1 8 [(.int .i64 0)] (.t 76) (.t 78)⟩),
   (24, 16777209, ⟨(some 80), none, .nilCheck (.t 56)⟩),
   (25, 33554425, ⟨(some 81), none, .fieldAddr 0 (.t 80)⟩),
   (26, 67108857, ⟨none, none, .store 1 (.t 81) (.t 65)⟩),
   (27, 134217723, ⟨(some 82), none, .nilCheck (.t 57)⟩),
   (28, 268435451, ⟨(some 83), none, .fieldAddr 1 (.t 82)⟩),
   (29, 536870907, ⟨none, none, .store 1 (.t 83) (.t 72)⟩),
   (30, 1073741823, ⟨(some 84), none, .nilCheck (.t 58)⟩),
   (31, 2147483647, ⟨(some 85), none, .fieldAddr 2 (.t 84)⟩),
   (32, 4294967295, ⟨none, none, .store 1 (.t 85) (.t 79)⟩)] (some [0, 1, 2, 6]))
 (.seq (.opsd [(0, 0, ⟨(some 86), none, .move (.t 1)⟩),
   (1, 0, ⟨(some 87), none, .move (.t 1)⟩),
   (2, 0, ⟨(some 88), none, .move (.t 1)⟩),
   (3, 4, ⟨(some 89), none, .nilCheck (.t 88)⟩),
   (4, 12, ⟨(some 90), none, .fieldAddr 0 (.t 89)⟩),
   (5, 28, ⟨(some 91), none, .load false 1 (.t 90)⟩),
   (6, 0, ⟨(some 92), none, .move (.t 2)⟩),
   (7, 64, ⟨(some 93), none, .bin .sub 3 (.t 92) (.c (.int .i64 1))⟩),
   (8, 0, ⟨(some 94), none, .move (.t 2)⟩),
   (10, 0, ⟨(some 96), none, .move (.t 1)⟩),
   (11, 1024, ⟨(some 97), none, .nilCheck (.t 96)⟩),
   (12, 3072, ⟨(some 98), none, .fieldAddr 2 (.t 97)⟩),
   (13, 7168, ⟨(some 99), none, .load false 1 (.t 98)⟩),
   (14, 0, ⟨(some 100), none, .move (.t 2)⟩),
   (15, 0, ⟨(some 101), none, .move (.t 2)⟩),
   (16, 32768, ⟨(some 102), none, .bin .add 3 (.t 101) (.c (.int .i64 1))⟩),
   (9, 508, ⟨(some 95), none, .call (.c (.func (.func 75) #[] #[])) [(.t 91), (.t 93), (.t 94)]⟩),
   (17, 131068, ⟨(some 103), none, .call (.c (.func (.func 76) #[] #[])) [(.t 99), (.t 100), (.t 102)]⟩),
   (18, 262141, ⟨(some 104), none, .nilCheck (.t 86)⟩),
   (19, 524285, ⟨(some 105), none, .fieldAddr 0 (.t 104)⟩),
   (20, 1048573, ⟨none, none, .store 1 (.t 105) (.t 95)⟩),
   (21, 2097151, ⟨(some 106), none, .nilCheck (.t 87)⟩),
   (22, 4194303, ⟨(some 107), none, .fieldAddr 2 (.t 106)⟩),
   (23, 8388607, ⟨none, none, .store 1 (.t 107) (.t 103)⟩)] (some [0, 6]))
 (.ops [⟨(some 108), none, .move (.t 0)⟩,
   ⟨(some 109), none, .move (.t 6)⟩,
   ⟨(some 110), none, .call (.c (.func (.func 55) #[] #[])) [(.t 108), (.t 109)]⟩] (some []))))))), []⟩

theorem is92 : FnIs Try.prog 92 x92 := ⟨Try.f92, _, Try.func92, by kernel_rfl, rfl, by kernel_rfl, by decide, by kernel_rfl⟩

/-- slices.Concat[[]string,string] -/
def x93 : XDecl := .code ⟨1, 
 (.seq (.ops [⟨(some 2), none, .move (.c (.slice none 0 0))⟩] (some [0]))
 (.seq (.ops [⟨(some 3), none, .move (.c (.int .i64 0))⟩] (some [0, 3]))
 (.seq (.seq (.ops [⟨(some 9), none, .move (.t 0)⟩,
   ⟨(some 10), none, .len (.t 9)⟩,
   ⟨(some 11), none, .move (.c (.int .i64 0))⟩] (some [0, 3, 9, 10, 11]))
 (.block 0
  (.loop
   (.seq (.ops [⟨(some 12), none, .bin .lss 3 (.t 11) (.t 10)⟩] (some [0, 3, 9, 10, 11, 12]))
   (.seq (.cond (.t 12)
    .skip
    (.exit 0))
   (.seq (.block 1
    (.seq (.ops [⟨(some 13), none, .indexAddr 1 (.t 9) (.t 11)⟩,
      ⟨(some 14), none, .load false 1 (.t 13)⟩,
      ⟨(some 5), none, .move (.t 14)⟩] (some [0, 3, 5, 9, 10, 11]))
    (.seq (.ops [⟨(some 15), none, .move (.t 3)⟩,
      ⟨(some 16), none, .move (.t 5)⟩,
      ⟨(some 17), none, .len (.t 16)⟩,
      ⟨(some 18), none, .bin .add 3 (.t 15) (.t 17)⟩,
      ⟨(some 3), none, .move (.t 18)⟩] (some [0, 3, 9, 10, 11]))
    (.seq (.ops [⟨(some 19), none, .move (.t 3)⟩,
      ⟨(some 20), none, .bin .lss 3 (.t 19) (.c (.int .i64 0))⟩] (some [0, 3, 9, 10, 11, 20]))
    (.cond (.t 20)
     (.ops [⟨(some 21), none, .makeIface 9 (.c (.string ⟨#[108, 101, 110, 32, 111, 117, 116, 32, 111, 102, 32, 114, 97, 110, 103, 101]⟩))⟩,
       ⟨none, none, .fail⟩] (some [0, 3, 9, 10, 11]))
     .skip)))))
   (.ops [⟨(some 22), none, .bin .add 3 (.t 11) (.c (.int .i64 1))⟩,
     ⟨(some 11), none, .move (.t 22)⟩] (some [0, 3, 9, 10, 11]))))))))
 (.seq (.ops [⟨(some 23), none, .move (.t 3)⟩,
   ⟨(some 24), none, .call (.c (.func (.func 103) #[] #[])) [(.c (.slice none 0 0)), (.t 23)]⟩,
   ⟨(some 6), none, .move (.t 24)⟩] (some [0, 6]))
 (.seq (.seq (.ops [⟨(some 25), none, .move (.t 0)⟩,
   ⟨(some 26), none, .len (.t 25)⟩,
   ⟨(some 27), none, .move (.c (.int .i64 0))⟩] (some [6, 25, 26, 27]))
 (.block 2
  (.loop
   (.seq (.ops [⟨(some 28), none, .bin .lss 3 (.t 27) (.t 26)⟩] (some [6, 25, 26, 27, 28]))
   (.seq (.cond (.t 28)
    .skip
    (.exit 2))
   (.seq (.block 3
    (.seq (.ops [⟨(some 29), none, .indexAddr 1 (.t 25) (.t 27)⟩,
      ⟨(some 30), none, .load false 1 (.t 29)⟩,
      ⟨(some 8), none, .move (.t 30)⟩] (some [6, 8, 25, 26, 27]))
    (.ops [⟨(some 31), none, .move (.t 6)⟩,
      ⟨(some 32), none, .move (.t 8)⟩,
      ⟨(some 33), none, .append 1 16 [(.string .empty)] (.t 31) (.t 32)⟩,
      ⟨(some 6), none, .move (.t 33)⟩] (some [6, 25, 26, 27]))))
   (.ops [⟨(some 34), none, .bin .add 3 (.t 27) (.c (.int .i64 1))⟩,
     ⟨(some 27), none, .move (.t 34)⟩] (some [6, 25, 26, 27]))))))))
 (.seq (.ops [⟨(some 35), none, .move (.t 6)⟩,
   ⟨(some 2), none, .move (.t 35)⟩] (some [2]))
 .ret)))))), [.tmp 2]⟩

theorem is93 : FnIs Try.prog 93 x93 := ⟨Try.f93, _, Try.func93, by kernel_rfl, rfl, by kernel_rfl, by decide, by kernel_rfl⟩

/-- slices.Concat[[]int,int] -/
def x94 : XDecl := .code ⟨1, 
 (.seq (.ops [⟨(some 2), none, .move (.c (.slice none 0 0))⟩] (some [0]))
 (.seq (.ops [⟨(some 3), none, .move (.c (.int .i64 0))⟩] (some [0, 3]))
 (.seq (.seq (.ops [⟨(some 9), none, .move (.t 0)⟩,
   ⟨(some 10), none, .len (.t 9)⟩,
   ⟨(some 11), none, .move (.c (.int .i64 0))⟩] (some [0, 3, 9, 10, 11]))
 (.block 0
  (.loop
   (.seq (.ops [⟨(some 12), none, .bin .lss 3 (.t 11) (.t 10)⟩] (some [0, 3, 9, 10, 11, 12]))
   (.seq (.cond (.t 12)
    .skip
    (.exit 0))
   (.seq (.block 1
    (.seq (.ops [⟨(some 13), none, .indexAddr 1 (.t 9) (.t 11)⟩,
      ⟨(some 14), none, .load false 1 (.t 13)⟩,
      ⟨(some 5), none, .move (.t 14)⟩] (some [0, 3, 5, 9, 10, 11]))
    (.seq (.ops [⟨(some 15), none, .move (.t 3)⟩,
      ⟨(some 16), none, .move (.t 5)⟩,
      ⟨(some 17), none, .len (.t 16)⟩,
      ⟨(some 18), none, .bin .add 3 (.t 15) (.t 17)⟩,
      ⟨(some 3), none, .move (.t 18)⟩] (some [0, 3, 9, 10, 11]))
    (.seq (.ops [⟨(some 19), none, .move (.t 3)⟩,
      ⟨(some 20), none, .bin .lss 3 (.t 19) (.c (.int .i64 0))⟩] (some [0, 3, 9, 10, 11, 20]))
    (.cond (.t 20)
     (.ops [⟨(some 21), none, .makeIface 9 (.c (.string ⟨#[108, 101, 110, 32, 111, 117, 116, 32, 111, 102, 32, 114, 97, 110, 103, 101]⟩))⟩,
       ⟨none, none, .fail⟩] (some [0, 3, 9, 10, 11]))
     .skip)))))
   (.ops [⟨(some 22), none, .bin .add 3 (.t 11) (.c (.int .i64 1))⟩,
     ⟨(some 11), none, .move (.t 22)⟩] (some [0, 3, 9, 10, 11]))))))))
 (.seq (.ops [⟨(some 23), none, .move (.t 3)⟩,
   ⟨(some 24), none, .call (.c (.func (.func 104) #[] #[])) [(.c (.slice none 0 0)), (.t 23)]⟩,
   ⟨(some 6), none, .move (.t 24)⟩] (some [0, 6]))
 (.seq (.seq (.ops [⟨(some 25), none, .move (.t 0)⟩,
   ⟨(some 26), none, .len (.t 25)⟩,
   ⟨(some 27), none, .move (.c (.int .i64 0))⟩] (some [6, 25, 26, 27]))
 (.block 2
  (.loop
   (.seq (.ops [⟨(some 28), none, .bin .lss 3 (.t 27) (.t 26)⟩] (some [6, 25, 26, 27, 28]))
   (.seq (.cond (.t 28)
    .skip
    (.exit 2))
   (.seq (.block 3
    (.seq (.ops [⟨(some 29), none, .indexAddr 1 (.t 25) (.t 27)⟩,
      ⟨(some 30), none, .load false 1 (.t 29)⟩,
      ⟨(some 8), none, .move (.t 30)⟩] (some [6, 8, 25, 26, 27]))
    (.ops [⟨(some 31), none, .move (.t 6)⟩,
      ⟨(some 32), none, .move (.t 8)⟩,
      ⟨(some 33), none, .append 1 8 [(.int .i64 0)] (.t 31) (.t 32)⟩,
      ⟨(some 6), none, .move (.t 33)⟩] (some [6, 25, 26, 27]))))
   (.ops [⟨(some 34), none, .bin .add 3 (.t 27) (.c (.int .i64 1))⟩,
     ⟨(some 27), none, .move (.t 34)⟩] (some [6, 25, 26, 27]))))))))
 (.seq (.ops [⟨(some 35), none, .move (.t 6)⟩,
   ⟨(some 2), none, .move (.t 35)⟩] (some [2]))
 .ret)))))), [.tmp 2]⟩

theorem is94 : FnIs Try.prog 94 x94 := ⟨Try.f94, _, Try.func94, by kernel_rfl, rfl, by kernel_rfl, by decide, by kernel_rfl⟩

/-- cmp.isNaN[string] -/
def x100 : XDecl := .code ⟨1, 
 (.seq (.ops [⟨(some 2), none, .move (.c (.bool false))⟩] (some [0]))
 (.seq (.ops [⟨(some 3), none, .move (.t 0)⟩,
   ⟨(some 4), none, .move (.t 0)⟩,
   ⟨(some 5), none, .bin .neq 9 (.t 3) (.t 4)⟩,
   ⟨(some 2), none, .move (.t 5)⟩] (some [2]))
 .ret)), [.tmp 2]⟩

theorem is100 : FnIs Try.prog 100 x100 := ⟨Try.f100, _, Try.func100, by kernel_rfl, rfl, by kernel_rfl, by decide, by kernel_rfl⟩

/-- slices.rotateLeft[string] -/
def x101 : XDecl := .code ⟨2, 
 (.seq (.ops [⟨(some 4), none, .move (.t 0)⟩,
   ⟨(some 5), none, .move (.t 1)⟩,
   ⟨(some 6), none, .slice 1 (.t 4) none (some (.t 5)) none⟩,
   ⟨(some 7), none, .call (.c (.func (.func 107) #[] #[])) [(.t 6)]⟩] (some [0, 1]))
 (.seq (.ops [⟨(some 8), none, .move (.t 0)⟩,
   ⟨(some 9), none, .move (.t 1)⟩,
   ⟨(some 10), none, .slice 1 (.t 8) (some (.t 9)) none none⟩,
   ⟨(some 11), none, .call (.c (.func (.func 107) #[] #[])) [(.t 10)]⟩] (some [0]))
 (.ops [⟨(some 12), none, .move (.t 0)⟩,
   ⟨(some 13), none, .call (.c (.func (.func 107) #[] #[])) [(.t 12)]⟩] (some [])))), []⟩

theorem is101 : FnIs Try.prog 101 x101 := ⟨Try.f101, _, Try.func101, by kernel_rfl, rfl, by kernel_rfl, by decide, by kernel_rfl⟩

/-- slices.rotateLeft[int] -/
def x102 : XDecl := .code ⟨2, 
 (.seq (.ops [⟨(some 4), none, .move (.t 0)⟩,
   ⟨(some 5), none, .move (.t 1)⟩,
   ⟨(some 6), none, .slice 1 (.t 4) none (some (.t 5)) none⟩,
   ⟨(some 7), none, .call (.c (.func (.func 108) #[] #[])) [(.t 6)]⟩] (some [0, 1]))
 (.seq (.ops [⟨(some 8), none, .move (.t 0)⟩,
   ⟨(some 9), none, .move (.t 1)⟩,
   ⟨(some 10), none, .slice 1 (.t 8) (some (.t 9)) none none⟩,
   ⟨(some 11), none, .call (.c (.func (.func 108) #[] #[])) [(.t 10)]⟩] (some [0]))
 (.ops [⟨(some 12), none, .move (.t 0)⟩,
   ⟨(some 13), none, .call (.c (.func (.func 108) #[] #[])) [(.t 12)]⟩] (some [])))), []⟩

theorem is102 : FnIs Try.prog 102 x102 := ⟨Try.f102, _, Try.func102, by kernel_rfl, rfl, by kernel_rfl, by decide, by kernel_rfl⟩

/-- slices.Grow[[]string,string] -/
def x103 : XDecl := .code ⟨2, 
 (.seq (.ops [⟨(some 4), none, .move (.c (.slice none 0 0))⟩] (some [0, 1]))
 (.seq (.seq (.ops [⟨(some 5), none, .move (.t 1)⟩,
   ⟨(some 6), none, .bin .lss 3 (.t 5) (.c (.int .i64 0))⟩] (some [0, 1, 6]))
 (.cond (.t 6)
  (.ops [⟨(some 7), none, .makeIface 9 (.c (.string ⟨#[99, 97, 110, 110, 111, 116, 32, 98, 101, 32, 110, 101, 103, 97, 116, 105, 118, 101]⟩))⟩,
    ⟨none, none, .fail⟩] (some [0, 1]))
  .skip))
 (.seq (.seq (.ops [⟨(some 8), none, .move (.t 1)⟩,
   ⟨(some 9), none, .move (.t 0)⟩,
   ⟨(some 10), none, .cap (.t 9)⟩,
   ⟨(some 11), none, .move (.t 0)⟩,
   ⟨(some 12), none, .len (.t 11)⟩,
   ⟨(some 13), none, .bin .sub 3 (.t 10) (.t 12)⟩,
   ⟨(some 14), none, .bin .sub 3 (.t 8) (.t 13)⟩,
   ⟨(some 1), none, .move (.t 14)⟩] (some [0, 1]))
 (.seq (.ops [⟨(some 15), none, .move (.t 1)⟩,
   ⟨(some 16), none, .bin .gtr 3 (.t 15) (.c (.int .i64 0))⟩] (some [0, 1, 16]))
 (.cond (.t 16)
  (.ops [⟨(some 17), none, .move (.t 0)⟩,
    ⟨(some 18), none, .move (.t 0)⟩,
    ⟨(some 19), none, .cap (.t 18)⟩,
    ⟨(some 20), none, .slice 1 (.t 17) none (some (.t 19)) none⟩,
    ⟨(some 21), none, .move (.t 1)⟩,
    ⟨(some 22), none, .appendZeros 1 16 [(.string .empty)] (.t 20) (.t 21)⟩,
    ⟨(some 23), none, .move (.t 0)⟩,
    ⟨(some 24), none, .len (.t 23)⟩,
    ⟨(some 25), none, .slice 1 (.t 22) none (some (.t 24)) none⟩,
    ⟨(some 0), none, .move (.t 25)⟩] (some [0]))
  .skip)))
 (.seq (.ops [⟨(some 26), none, .move (.t 0)⟩,
   ⟨(some 4), none, .move (.t 26)⟩] (some [4]))
 .ret)))), [.tmp 4]⟩

theorem is103 : FnIs Try.prog 103 x103 := ⟨Try.f103, _, Try.func103, by kernel_rfl, rfl, by kernel_rfl, by decide, by kernel_rfl⟩

/-- slices.Grow[[]int,int] -/
def x104 : XDecl := .code ⟨2, 
 (.seq (.ops [⟨(some 4), none, .move (.c (.slice none 0 0))⟩] (some [0, 1]))
 (.seq (.seq (.ops [⟨(some 5), none, .move (.t 1)⟩,
   ⟨(some 6), none, .bin .lss 3 (.t 5) (.c (.int .i64 0))⟩] (some [0, 1, 6]))
 (.cond (.t 6)
  (.ops [⟨(some 7), none, .makeIface 9 (.c (.string ⟨#[99, 97, 110, 110, 111, 116, 32, 98, 101, 32, 110, 101, 103, 97, 116, 105, 118, 101]⟩))⟩,
    ⟨none, none, .fail⟩] (some [0, 1]))
  .skip))
 (.seq (.seq (.ops [⟨(some 8), none, .move (.t 1)⟩,
   ⟨(some 9), none, .move (.t 0)⟩,
   ⟨(some 10), none, .cap (.t 9)⟩,
   ⟨(some 11), none, .move (.t 0)⟩,
   ⟨(some 12), none, .len (.t 11)⟩,
   ⟨(some 13), none, .bin .sub 3 (.t 10) (.t 12)⟩,
   ⟨(some 14), none, .bin .sub 3 (.t 8) (.t 13)⟩,
   ⟨(some 1), none, .move (.t 14)⟩] (some [0, 1]))
 (.seq (.ops [⟨(some 15), none, .move (.t 1)⟩,
   ⟨(some 16), none, .bin .gtr 3 (.t 15) (.c (.int .i64 0))⟩] (some [0, 1, 16]))
 (.cond (.t 16)
  (.ops [⟨(some 17), none, .move (.t 0)⟩,
    ⟨(some 18), none, .move (.t 0)⟩,
    ⟨(some 19), none, .cap (.t 18)⟩,
    ⟨(some 20), none, .slice 1 (.t 17) none (some (.t 19)) none⟩,
    ⟨(some 21), none, .move (.t 1)⟩,
    ⟨(some 22), none, .appendZeros 1 8 [(.int .i64 0)] (.t 20) (.t 21)⟩,
    ⟨(some 23), none, .move (.t 0)⟩,
    ⟨(some 24), none, .len (.t 23)⟩,
    ⟨(some 25), none, .slice 1 (.t 22) none (some (.t 24)) none⟩,
    ⟨(some 0), none, .move (.t 25)⟩] (some [0]))
  .skip)))
 (.seq (.ops [⟨(some 26), none, .move (.t 0)⟩,
   ⟨(some 4), none, .move (.t 26)⟩] (some [4]))
 .ret)))), [.tmp 4]⟩

theorem is104 : FnIs Try.prog 104 x104 := ⟨Try.f104, _, Try.func104, by kernel_rfl, rfl, by kernel_rfl, by decide, by kernel_rfl⟩

/-- slices.Reverse[[]string,string] -/
def x107 : XDecl := .code ⟨1, 
 (.seq (.ops [⟨(some 4), none, .move (.t 0)⟩,
   ⟨(some 5), none, .len (.t 4)⟩,
   ⟨(some 6), none, .bin .sub 3 (.t 5) (.c (.int .i64 1))⟩,
   ⟨(some 2), none, .move (.c (.int .i64 0))⟩,
   ⟨(some 3), none, .move (.t 6)⟩] (some [0, 2, 3]))
 (.block 0
  (.loop
   (.seq (.seq (.ops [⟨(some 7), none, .move (.t 2)⟩,
     ⟨(some 8), none, .move (.t 3)⟩,
     ⟨(some 9), none, .bin .lss 3 (.t 7) (.t 8)⟩] (some [0, 2, 3, 9]))
   (.cond (.t 9)
    .skip
    (.exit 0)))
   (.seq (.block 1
    (.opsd [(0, 0, ⟨(some 14), none, .move (.t 0)⟩),
      (1, 0, ⟨(some 15), none, .move (.t 2)⟩),
      (2, 0, ⟨(some 16), none, .move (.t 0)⟩),
      (3, 0, ⟨(some 17), none, .move (.t 3)⟩),
      (4, 0, ⟨(some 18), none, .move (.t 0)⟩),
      (5, 0, ⟨(some 19), none, .move (.t 3)⟩),
      (6, 48, ⟨(some 20), none, .indexAddr 1 (.t 18) (.t 19)⟩),
      (7, 112, ⟨(some 21), none, .load false 1 (.t 20)⟩),
      (8, 0, ⟨(some 22), none, .move (.t 0)⟩),
      (9, 0, ⟨(some 23), none, .move (.t 2)⟩),
      (10, 768, ⟨(some 24), none, .indexAddr 1 (.t 22) (.t 23)⟩),
      (11, 1792, ⟨(some 25), none, .load false 1 (.t 24)⟩),
      (12, 4083, ⟨(some 26), none, .indexAddr 1 (.t 14) (.t 15)⟩),
      (13, 8179, ⟨none, none, .store 1 (.t 26) (.t 21)⟩),
      (14, 16383, ⟨(some 27), none, .indexAddr 1 (.t 16) (.t 17)⟩),
      (15, 32767, ⟨none, none, .store 1 (.t 27) (.t 25)⟩)] (some [0, 2, 3])))
   (.ops [⟨(some 10), none, .move (.t 2)⟩,
     ⟨(some 11), none, .bin .add 3 (.t 10) (.c (.int .i64 1))⟩,
     ⟨(some 12), none, .move (.t 3)⟩,
     ⟨(some 13), none, .bin .sub 3 (.t 12) (.c (.int .i64 1))⟩,
     ⟨(some 2), none, .move (.t 11)⟩,
     ⟨(some 3), none, .move (.t 13)⟩] (some [0, 2, 3]))))))), []⟩

theorem is107 : FnIs Try.prog 107 x107 := ⟨Try.f107, _, Try.func107, by kernel_rfl, rfl, by kernel_rfl, by decide, by kernel_rfl⟩

/-- slices.Reverse[[]int,int] -/
def x108 : XDecl := .code ⟨1, 
 (.seq (.ops [⟨(some 4), none, .move (.t 0)⟩,
   ⟨(some 5), none, .len (.t 4)⟩,
   ⟨(some 6), none, .bin .sub 3 (.t 5) (.c (.int .i64 1))⟩,
   ⟨(some 2), none, .move (.c (.int .i64 0))⟩,
   ⟨(some 3), none, .move (.t 6)⟩] (some [0, 2, 3]))
 (.block 0
  (.loop
   (.seq (.seq (.ops [⟨(some 7), none, .move (.t 2)⟩,
     ⟨(some 8), none, .move (.t 3)⟩,
     ⟨(some 9), none, .bin .lss 3 (.t 7) (.t 8)⟩] (some [0, 2, 3, 9]))
   (.cond (.t 9)
    .skip
    (.exit 0)))
   (.seq (.block 1
    (.opsd [(0, 0, ⟨(some 14), none, .move (.t 0)⟩),
      (1, 0, ⟨(some 15), none, .move (.t 2)⟩),
      (2, 0, ⟨(some 16), none, .move (.t 0)⟩),
      (3, 0, ⟨(some 17), none, .move (.t 3)⟩),
      (4, 0, ⟨(some 18), none, .move (.t 0)⟩),
      (5, 0, ⟨(some 19), none, .move (.t 3)⟩),
      (6, 48, ⟨(some 20), none, .indexAddr 1 (.t 18) (.t 19)⟩),
      (7, 112, ⟨(some 21), none, .load false 1 (.t 20)⟩),
      (8, 0, ⟨(some 22), none, .move (.t 0)⟩),
      (9, 0, ⟨(some 23), none, .move (.t 2)⟩),
      (10, 768, ⟨(some 24), none, .indexAddr 1 (.t 22) (.t 23)⟩),
      (11, 1792, ⟨(some 25), none, .load false 1 (.t 24)⟩),
      (12, 4083, ⟨(some 26), none, .indexAddr 1 (.t 14) (.t 15)⟩),
      (13, 8179, ⟨none, none, .store 1 (.t 26) (.t 21)⟩),
      (14, 16383, ⟨(some 27), none, .indexAddr 1 (.t 16) (.t 17)⟩),
      (15, 32767, ⟨none, none, .store 1 (.t 27) (.t 25)⟩)] (some [0, 2, 3])))
   (.ops [⟨(some 10), none, .move (.t 2)⟩,
     ⟨(some 11), none, .bin .add 3 (.t 10) (.c (.int .i64 1))⟩,
     ⟨(some 12), none, .move (.t 3)⟩,
     ⟨(some 13), none, .bin .sub 3 (.t 12) (.c (.int .i64 1))⟩,
     ⟨(some 2), none, .move (.t 11)⟩,
     ⟨(some 3), none, .move (.t 13)⟩] (some [0, 2, 3]))))))), []⟩

theorem is108 : FnIs Try.prog 108 x108 := ⟨Try.f108, _, Try.func108, by kernel_rfl, rfl, by kernel_rfl, by decide, by kernel_rfl⟩

def tabB : FuncId → Option XDecl
  | 69 => some x69
  | 70 => some x70
  | 71 => some x71
  | 72 => some x72
  | 73 => some x73
  | 74 => some x74
  | 75 => some x75
  | 76 => some x76
  | 77 => some x77
  | 78 => some x78
  | 86 => some x86
  | 87 => some x87
  | 88 => some x88
  | 89 => some x89
  | 90 => some x90
  | 91 => some x91
  | 92 => some x92
  | 93 => some x93
  | 94 => some x94
  | 100 => some x100
  | 101 => some x101
  | 102 => some x102
  | 103 => some x103
  | 104 => some x104
  | 107 => some x107
  | 108 => some x108
  | _ => none
theorem tabB_is : ∀ f d, tabB f = some d → FnIs Try.prog f d := by
  intro f d h
  unfold tabB at h
  split at h
  · cases h; exact is69
  · cases h; exact is70
  · cases h; exact is71
  · cases h; exact is72
  · cases h; exact is73
  · cases h; exact is74
  · cases h; exact is75
  · cases h; exact is76
  · cases h; exact is77
  · cases h; exact is78
  · cases h; exact is86
  · cases h; exact is87
  · cases h; exact is88
  · cases h; exact is89
  · cases h; exact is90
  · cases h; exact is91
  · cases h; exact is92
  · cases h; exact is93
  · cases h; exact is94
  · cases h; exact is100
  · cases h; exact is101
  · cases h; exact is102
  · cases h; exact is103
  · cases h; exact is104
  · cases h; exact is107
  · cases h; exact is108
  · cases h

end Go.Proofs.Ytecceimgpeookaa.X
