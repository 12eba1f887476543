/-
  Own work, printed by a program of ours (mkprog.py): the functions of this seat as code of the abstract run, and that each is the model's.
-/
import Derived.Test.YtglefgcnafoafaaGreatDoorXLaw
import Derived.Test.YtglefgcnafoafaaGreatDoorChecked
set_option maxRecDepth 100000
namespace Go.Proofs.YtglefgcnafoafaaGreatDoor.X
open Go

/-- (*cloisonne/wset.Set).Len -/
def x340 : XDecl := .code ⟨1, 
 (.seq (.ops [⟨(some 2), none, .move (.c (.int .i64 0))⟩] (some [0]))
 (.seq (.seq (.ops [⟨(some 3), none, .move (.t 0)⟩,
   ⟨(some 4), none, .isNil .ptr false (.t 3)⟩] (some [0, 4]))
 (.cond (.t 4)
  (.seq (.ops [⟨(some 2), none, .move (.c (.int .i64 0))⟩] (some [2]))
  .ret)
  .skip))
 (.seq (.ops [⟨(some 5), none, .move (.t 0)⟩,
   ⟨(some 6), none, .nilCheck (.t 5)⟩,
   ⟨(some 7), none, .fieldAddr 0 (.t 6)⟩,
   ⟨(some 8), none, .load false 1 (.t 7)⟩,
   ⟨(some 9), none, .len (.t 8)⟩,
   ⟨(some 2), none, .move (.t 9)⟩] (some [2]))
 .ret))), [.tmp 2]⟩

theorem is340 : FnIs Tryz.prog 340 x340 := ⟨Tryz.f340, _, Tryz.func340, by kernel_rfl, rfl, by kernel_rfl, by decide, by kernel_rfl⟩

/-- cloisonne/job.Commit -/
def x341 : XDecl := .code ⟨5, 
 (.seq (.ops [⟨(some 10), none, .move (.c (.pointer none))⟩,
   ⟨(some 11), none, .move (.c (.int .i64 0))⟩] (some [0, 1, 2, 3, 4]))
 (.seq (.block 0
  (.seq (.ops [⟨(some 13), none, .move (.t 0)⟩,
    ⟨(some 14), none, .isNil .ptr false (.t 13)⟩,
    ⟨(some 12), none, .move (.t 14)⟩] (some [0, 1, 2, 3, 4, 12]))
  (.cond (.t 12)
   (.seq (.ops [⟨(some 10), none, .move (.c (.pointer none))⟩,
     ⟨(some 11), none, .move (.c (.int .i64 2))⟩] (some [10, 11]))
   .ret)
   (.seq (.ops [⟨(some 16), none, .move (.t 0)⟩,
     ⟨(some 17), none, .move (.t 2)⟩,
     ⟨(some 18), none, .call (.c (.func (.func 44) #[] #[])) [(.t 16), (.t 17)]⟩,
     ⟨(some 19), none, .isNil .ptr false (.t 18)⟩,
     ⟨(some 20), none, .move (.t 19)⟩,
     ⟨(some 21), (some (20, false)), .move (.t 3)⟩,
     ⟨(some 22), (some (20, false)), .call (.c (.func (.func 390) #[] #[])) [(.t 21)]⟩,
     ⟨(some 23), (some (20, false)), .un .not (.t 22)⟩,
     ⟨(some 24), none, .pick (.t 20) (.c (.bool true)) (.t 23)⟩,
     ⟨(some 15), none, .move (.t 24)⟩] (some [0, 1, 2, 3, 4, 15]))
   (.cond (.t 15)
    (.seq (.ops [⟨(some 10), none, .move (.c (.pointer none))⟩,
      ⟨(some 11), none, .move (.c (.int .i64 1))⟩] (some [10, 11]))
    .ret)
    .skip)))))
 (.seq (.ops [⟨(some 25), none, .move (.t 0)⟩,
   ⟨(some 26), none, .move (.t 1)⟩,
   ⟨(some 27), none, .move (.t 2)⟩,
   ⟨(some 28), none, .move (.t 2)⟩,
   ⟨(some 29), none, .move (.t 3)⟩,
   ⟨(some 30), none, .call (.c (.func (.func 119) #[] #[])) [(.t 29)]⟩,
   ⟨(some 31), none, .move (.t 4)⟩,
   ⟨(some 32), none, .build [(.int .i64 0), (.slice none 0 0), (.int .u64 0)] [(0, 1), (1, 1), (2, 1)] [(0, (.t 28)), (1, (.t 30)), (2, (.t 31))]⟩,
   ⟨(some 33), none, .makeIface 537 (.t 32)⟩,
   ⟨(some 34), none, .build [(.pointer none), (.int .i64 0), (.int .i64 0), .nilIface, (.int .i64 0), (.pointer none), (.int .u64 0), (.int .i64 0)] [(0, 1), (1, 1), (2, 1), (3, 1), (4, 1), (5, 1), (6, 1), (7, 1)] [(0, (.t 25)), (1, (.t 26)), (2, (.t 27)), (3, (.t 33))]⟩,
   ⟨(some 35), none, .box (.t 34)⟩,
   ⟨(some 10), none, .move (.t 35)⟩,
   ⟨(some 11), none, .move (.c (.int .i64 0))⟩] (some [10, 11]))
 .ret))), [.tmp 10, .tmp 11]⟩

theorem is341 : FnIs Tryz.prog 341 x341 := ⟨Tryz.f341, _, Tryz.func341, by kernel_rfl, rfl, by kernel_rfl, by decide, by kernel_rfl⟩

/-- (*cloisonne/wset.Set).All -/
def x342 : XDecl := .code ⟨1, 
 (.seq (.ops [⟨(some 2), none, .move (.c (.slice none 0 0))⟩] (some [0]))
 (.seq (.seq (.ops [⟨(some 3), none, .move (.t 0)⟩,
   ⟨(some 4), none, .isNil .ptr false (.t 3)⟩] (some [0, 4]))
 (.cond (.t 4)
  (.seq (.ops [⟨(some 2), none, .move (.c (.slice none 0 0))⟩] (some [2]))
  .ret)
  .skip))
 (.seq (.ops [⟨(some 5), none, .move (.t 0)⟩,
   ⟨(some 6), none, .nilCheck (.t 5)⟩,
   ⟨(some 7), none, .fieldAddr 0 (.t 6)⟩,
   ⟨(some 8), none, .load false 1 (.t 7)⟩,
   ⟨(some 9), none, .call (.c (.func (.func 119) #[] #[])) [(.t 8)]⟩,
   ⟨(some 2), none, .move (.t 9)⟩] (some [2]))
 .ret))), [.tmp 2]⟩

theorem is342 : FnIs Tryz.prog 342 x342 := ⟨Tryz.f342, _, Tryz.func342, by kernel_rfl, rfl, by kernel_rfl, by decide, by kernel_rfl⟩

/-- (*cloisonne/room.Room).AsOf -/
def x346 : XDecl := .code ⟨2, 
 (.seq (.ops [⟨(some 4), none, .move (.c (.int .i64 0))⟩,
   ⟨(some 5), none, .move (.c (.int .i64 0))⟩] (some [0, 1]))
 (.seq (.seq (.ops [⟨(some 6), none, .move (.t 0)⟩,
   ⟨(some 7), none, .isNil .ptr false (.t 6)⟩] (some [0, 1, 7]))
 (.cond (.t 7)
  (.seq (.ops [⟨(some 4), none, .move (.c (.int .i64 0))⟩,
    ⟨(some 5), none, .move (.c (.int .i64 2))⟩] (some [4, 5]))
  .ret)
  .skip))
 (.seq (.ops [⟨(some 8), none, .move (.t 0)⟩,
   ⟨(some 9), none, .nilCheck (.t 8)⟩,
   ⟨(some 10), none, .fieldAddr 4 (.t 9)⟩,
   ⟨(some 11), none, .load false 1 (.t 10)⟩,
   ⟨(some 12), none, .move (.t 1)⟩,
   ⟨(some 13), none, .call (.c (.func (.func 412) #[] #[])) [(.t 11), (.t 12)]⟩,
   ⟨(some 14), none, .extract (.t 13) 0⟩,
   ⟨(some 15), none, .extract (.t 13) 1⟩,
   ⟨(some 4), none, .move (.t 14)⟩,
   ⟨(some 5), none, .move (.t 15)⟩] (some [4, 5]))
 .ret))), [.tmp 4, .tmp 5]⟩

theorem is346 : FnIs Tryz.prog 346 x346 := ⟨Tryz.f346, _, Tryz.func346, by kernel_rfl, rfl, by kernel_rfl, by decide, by kernel_rfl⟩

/-- (*cloisonne/sess.Session).own -/
def x351 : XDecl := .code ⟨2, 
 (.seq (.ops [⟨(some 4), none, .move (.c (.int .i64 0))⟩] (some [0, 1]))
 (.seq (.ops [⟨(some 8), none, .move (.t 0)⟩,
   ⟨(some 9), none, .move (.t 1)⟩,
   ⟨(some 10), none, .call (.c (.func (.func 418) #[] #[])) [(.t 8), (.t 9)]⟩,
   ⟨(some 7), none, .move (.t 10)⟩,
   ⟨(some 11), none, .extract (.t 7) 0⟩,
   ⟨(some 12), none, .extract (.t 7) 1⟩,
   ⟨(some 5), none, .move (.t 11)⟩,
   ⟨(some 6), none, .move (.t 12)⟩] (some [0, 1, 5, 6]))
 (.seq (.block 0
  (.seq (.ops [⟨(some 14), none, .move (.t 6)⟩,
    ⟨(some 15), none, .un .not (.t 14)⟩,
    ⟨(some 13), none, .move (.t 15)⟩] (some [0, 1, 5, 13]))
  (.cond (.t 13)
   (.seq (.ops [⟨(some 4), none, .move (.c (.int .i64 1))⟩] (some [4]))
   .ret)
   (.seq (.ops [⟨(some 17), none, .move (.t 0)⟩,
     ⟨(some 18), none, .nilCheck (.t 17)⟩,
     ⟨(some 19), none, .fieldAddr 5 (.t 18)⟩,
     ⟨(some 20), none, .load false 1 (.t 19)⟩,
     ⟨(some 21), none, .move (.t 5)⟩,
     ⟨(some 22), none, .call (.c (.func (.func 335) #[] #[])) [(.t 20), (.t 21)]⟩,
     ⟨(some 23), none, .un .not (.t 22)⟩,
     ⟨(some 16), none, .move (.t 23)⟩] (some [0, 1, 5, 16]))
   (.cond (.t 16)
    (.seq (.ops [⟨(some 4), none, .move (.c (.int .i64 11))⟩] (some [4]))
    .ret)
    (.seq (.ops [⟨(some 25), none, .move (.t 0)⟩,
      ⟨(some 26), none, .move (.t 5)⟩,
      ⟨(some 27), none, .call (.c (.func (.func 333) #[] #[])) [(.t 25), (.t 26)]⟩,
      ⟨(some 28), none, .un .not (.t 27)⟩,
      ⟨(some 24), none, .move (.t 28)⟩] (some [0, 1, 5, 24]))
    (.cond (.t 24)
     (.seq (.ops [⟨(some 4), none, .move (.c (.int .i64 10))⟩] (some [4]))
     .ret)
     (.seq (.ops [⟨(some 30), none, .move (.t 0)⟩,
       ⟨(some 31), none, .call (.c (.func (.func 334) #[] #[])) [(.t 30)]⟩,
       ⟨(some 32), none, .move (.t 31)⟩,
       ⟨(some 33), (some (32, true)), .move (.t 0)⟩,
       ⟨(some 34), (some (32, true)), .nilCheck (.t 33)⟩,
       ⟨(some 35), (some (32, true)), .fieldAddr 6 (.t 34)⟩,
       ⟨(some 36), (some (32, true)), .load false 1 (.t 35)⟩,
       ⟨(some 37), (some (32, true)), .nilCheck (.t 36)⟩,
       ⟨(some 38), (some (32, true)), .fieldAddr 2 (.t 37)⟩,
       ⟨(some 39), (some (32, true)), .load false 1 (.t 38)⟩,
       ⟨(some 40), (some (32, true)), .move (.t 1)⟩,
       ⟨(some 41), (some (32, true)), .bin .neq 3 (.t 39) (.t 40)⟩,
       ⟨(some 42), none, .pick (.t 32) (.t 41) (.c (.bool false))⟩,
       ⟨(some 29), none, .move (.t 42)⟩] (some [0, 1, 5, 29]))
     (.cond (.t 29)
      (.seq (.ops [⟨(some 4), none, .move (.c (.int .i64 12))⟩] (some [4]))
      .ret)
      .skip)))))))))
 (.seq (.ops [⟨(some 43), none, .move (.t 0)⟩,
   ⟨(some 44), none, .move (.t 0)⟩,
   ⟨(some 45), none, .nilCheck (.t 44)⟩,
   ⟨(some 46), none, .fieldAddr 6 (.t 45)⟩,
   ⟨(some 47), none, .load false 1 (.t 46)⟩,
   ⟨(some 48), none, .move (.t 5)⟩,
   ⟨(some 49), none, .move (.t 1)⟩,
   ⟨(some 50), none, .nilCheck (.t 43)⟩,
   ⟨(some 51), none, .fieldAddr 5 (.t 50)⟩,
   ⟨none, none, .store 1 (.t 51) (.t 48)⟩,
   ⟨(some 52), none, .nilCheck (.t 47)⟩,
   ⟨(some 53), none, .fieldAddr 2 (.t 52)⟩,
   ⟨none, none, .store 1 (.t 53) (.t 49)⟩] (some []))
 (.seq (.ops [⟨(some 4), none, .move (.c (.int .i64 0))⟩] (some [4]))
 .ret))))), [.tmp 4]⟩

theorem is351 : FnIs Tryz.prog 351 x351 := ⟨Tryz.f351, _, Tryz.func351, by kernel_rfl, rfl, by kernel_rfl, by decide, by kernel_rfl⟩

/-- (*cloisonne/wset.Set).Put -/
def x353 : XDecl := .code ⟨3, 
 (.seq (.ops [⟨(some 5), none, .box (.t 2)⟩,
   ⟨(some 6), none, .move (.c (.int .i64 0))⟩] (some [0, 1, 5]))
 (.seq (.ops [⟨(some 7), none, .move (.t 0)⟩,
   ⟨(some 8), none, .move (.t 1)⟩,
   ⟨(some 9), none, .load true 3 (.t 5)⟩,
   ⟨(some 10), none, .build [(.string .empty), (.bool false), (.bool false), (.string .empty), (.int .u64 0)] [(0, 1), (1, 1), (2, 3)] [(0, (.t 8)), (2, (.t 9))]⟩,
   ⟨(some 11), none, .call (.c (.func (.func 421) #[] #[])) [(.t 7), (.t 10)]⟩,
   ⟨(some 6), none, .move (.t 11)⟩] (some [6]))
 .ret)), [.tmp 6]⟩

theorem is353 : FnIs Tryz.prog 353 x353 := ⟨Tryz.f353, _, Tryz.func353, by kernel_rfl, rfl, by kernel_rfl, by decide, by kernel_rfl⟩

/-- cloisonne/sector.Pack -/
def x367 : XDecl := .code ⟨2, 
 (.seq (.ops [⟨(some 2), none, .box (.t 0)⟩,
   ⟨(some 4), none, .move (.c (.string .empty))⟩,
   ⟨(some 5), none, .move (.c (.int .i64 0))⟩] (some [1, 2]))
 (.seq (.block 0
  (.seq (.ops [⟨(some 8), none, .load true 5 (.t 2)⟩,
    ⟨(some 9), none, .call (.c (.func (.func 428) #[] #[])) [(.t 8)]⟩,
    ⟨(some 10), none, .un .not (.t 9)⟩,
    ⟨(some 7), none, .move (.t 10)⟩] (some [1, 2, 7]))
  (.cond (.t 7)
   (.seq (.ops [⟨(some 4), none, .move (.c (.string .empty))⟩,
     ⟨(some 5), none, .move (.c (.int .i64 1))⟩] (some [4, 5]))
   .ret)
   (.seq (.ops [⟨(some 12), none, .move (.t 1)⟩,
     ⟨(some 13), none, .calcB .len [9] 3 [(.t 12)]⟩,
     ⟨(some 14), none, .bin .gtr 3 (.t 13) (.c (.int .i64 50))⟩,
     ⟨(some 11), none, .move (.t 14)⟩] (some [1, 2, 11]))
   (.cond (.t 11)
    (.seq (.ops [⟨(some 4), none, .move (.c (.string .empty))⟩,
      ⟨(some 5), none, .move (.c (.int .i64 5))⟩] (some [4, 5]))
    .ret)
    .skip)))))
 (.seq (.ops [⟨(some 15), none, .buildSlice [(.int .u8 0)] 1 1 [(0, (.c (.int .u8 193)))]⟩,
   ⟨(some 16), none, .fieldAddr 0 (.t 2)⟩,
   ⟨(some 17), none, .load false 1 (.t 16)⟩,
   ⟨(some 18), none, .call (.c (.func (.func 429) #[] #[])) [(.t 15), (.t 17), (.c (.int .i64 4))]⟩,
   ⟨(some 6), none, .move (.t 18)⟩] (some [1, 2, 6]))
 (.seq (.ops [⟨(some 19), none, .move (.t 6)⟩,
   ⟨(some 20), none, .fieldAddr 1 (.t 2)⟩,
   ⟨(some 21), none, .load false 1 (.t 20)⟩,
   ⟨(some 22), none, .call (.c (.func (.func 429) #[] #[])) [(.t 19), (.t 21), (.c (.int .i64 2))]⟩,
   ⟨(some 6), none, .move (.t 22)⟩] (some [1, 2, 6]))
 (.seq (.ops [⟨(some 23), none, .move (.t 6)⟩,
   ⟨(some 24), none, .fieldAddr 2 (.t 2)⟩,
   ⟨(some 25), none, .load false 1 (.t 24)⟩,
   ⟨(some 26), none, .call (.c (.func (.func 429) #[] #[])) [(.t 23), (.t 25), (.c (.int .i64 4))]⟩,
   ⟨(some 6), none, .move (.t 26)⟩] (some [1, 2, 6]))
 (.seq (.ops [⟨(some 27), none, .move (.t 6)⟩,
   ⟨(some 28), none, .fieldAddr 3 (.t 2)⟩,
   ⟨(some 29), none, .load false 1 (.t 28)⟩,
   ⟨(some 30), none, .conv 3 5 (.t 29)⟩,
   ⟨(some 31), none, .fieldAddr 4 (.t 2)⟩,
   ⟨(some 32), none, .load false 1 (.t 31)⟩,
   ⟨(some 33), none, .conv 3 5 (.t 32)⟩,
   ⟨(some 34), none, .move (.t 1)⟩,
   ⟨(some 35), none, .calcB .len [9] 3 [(.t 34)]⟩,
   ⟨(some 36), none, .conv 3 5 (.t 35)⟩,
   ⟨(some 37), none, .buildSlice [(.int .u8 0)] 1 3 [(0, (.t 30)), (1, (.t 33)), (2, (.t 36))]⟩,
   ⟨(some 38), none, .append 1 1 [(.int .u8 0)] (.t 27) (.t 37)⟩,
   ⟨(some 6), none, .move (.t 38)⟩] (some [1, 6]))
 (.seq (.ops [⟨(some 39), none, .move (.t 6)⟩,
   ⟨(some 40), none, .move (.t 1)⟩,
   ⟨(some 41), none, .append 1 1 [(.int .u8 0)] (.t 39) (.t 40)⟩,
   ⟨(some 6), none, .move (.t 41)⟩] (some [6]))
 (.seq (.ops [⟨(some 42), none, .move (.t 6)⟩,
   ⟨(some 43), none, .move (.t 6)⟩,
   ⟨(some 44), none, .len (.t 43)⟩,
   ⟨(some 45), none, .bin .sub 3 (.c (.int .i64 64)) (.t 44)⟩,
   ⟨(some 46), none, .appendZeros 1 1 [(.int .u8 0)] (.t 42) (.t 45)⟩,
   ⟨(some 47), none, .bstr (.t 46)⟩,
   ⟨(some 4), none, .move (.t 47)⟩,
   ⟨(some 5), none, .move (.c (.int .i64 0))⟩] (some [4, 5]))
 .ret)))))))), [.tmp 4, .tmp 5]⟩

theorem is367 : FnIs Tryz.prog 367 x367 := ⟨Tryz.f367, _, Tryz.func367, by kernel_rfl, rfl, by kernel_rfl, by decide, by kernel_rfl⟩

/-- (*cloisonne/extent.World).Write -/
def x368 : XDecl := .code ⟨4, 
 (.seq (.ops [⟨(some 8), none, .move (.c (.int .i64 0))⟩] (some [0, 1, 2, 3]))
 (.seq (.ops [⟨(some 10), none, .move (.t 0)⟩,
   ⟨(some 11), none, .move (.t 1)⟩,
   ⟨(some 12), none, .move (.t 2)⟩,
   ⟨(some 13), none, .call (.c (.func (.func 369) #[] #[])) [(.t 10), (.t 11), (.t 12)]⟩,
   ⟨(some 9), none, .move (.t 13)⟩] (some [0, 1, 2, 3, 9]))
 (.seq (.block 0
  (.seq (.ops [⟨(some 15), none, .move (.t 9)⟩,
    ⟨(some 16), none, .bin .neq 32 (.t 15) (.c (.int .i64 0))⟩,
    ⟨(some 14), none, .move (.t 16)⟩] (some [0, 1, 2, 3, 9, 14]))
  (.cond (.t 14)
   (.seq (.ops [⟨(some 17), none, .move (.t 9)⟩,
     ⟨(some 8), none, .move (.t 17)⟩] (some [8]))
   .ret)
   (.seq (.ops [⟨(some 19), none, .move (.t 3)⟩,
     ⟨(some 20), none, .calcB .len [9] 3 [(.t 19)]⟩,
     ⟨(some 21), none, .bin .gtr 3 (.t 20) (.c (.int .i64 64))⟩,
     ⟨(some 18), none, .move (.t 21)⟩] (some [0, 1, 2, 3, 18]))
   (.cond (.t 18)
    (.seq (.ops [⟨(some 8), none, .move (.c (.int .i64 5))⟩] (some [8]))
    .ret)
    .skip)))))
 (.seq (.ops [⟨(some 22), none, .move (.t 0)⟩,
   ⟨(some 23), none, .nilCheck (.t 22)⟩,
   ⟨(some 24), none, .fieldAddr 3 (.t 23)⟩,
   ⟨(some 25), none, .load false 1 (.t 24)⟩,
   ⟨(some 26), none, .move (.t 1)⟩,
   ⟨(some 27), none, .indexAddr 1 (.t 25) (.t 26)⟩,
   ⟨(some 28), none, .load false 1 (.t 27)⟩,
   ⟨(some 29), none, .move (.t 2)⟩,
   ⟨(some 30), none, .move (.t 3)⟩,
   ⟨none, none, .mapUpdate true (.t 28) (.t 29) (.t 30)⟩] (some []))
 (.seq (.ops [⟨(some 8), none, .move (.c (.int .i64 0))⟩] (some [8]))
 .ret))))), [.tmp 8]⟩

theorem is368 : FnIs Tryz.prog 368 x368 := ⟨Tryz.f368, _, Tryz.func368, by kernel_rfl, rfl, by kernel_rfl, by decide, by kernel_rfl⟩

/-- (*cloisonne/extent.World).power -/
def x369 : XDecl := .code ⟨3, 
 (.seq (.ops [⟨(some 6), none, .move (.c (.int .i64 0))⟩] (some [0, 1, 2]))
 (.seq (.seq (.ops [⟨(some 7), none, .move (.t 0)⟩,
   ⟨(some 8), none, .isNil .ptr true (.t 7)⟩,
   ⟨(some 9), none, .move (.t 8)⟩,
   ⟨(some 10), (some (9, true)), .move (.t 0)⟩,
   ⟨(some 11), (some (9, true)), .nilCheck (.t 10)⟩,
   ⟨(some 12), (some (9, true)), .fieldAddr 0 (.t 11)⟩,
   ⟨(some 13), (some (9, true)), .load false 1 (.t 12)⟩,
   ⟨(some 14), none, .pick (.t 9) (.t 13) (.c (.bool false))⟩] (some [0, 1, 2, 14]))
 (.cond (.t 14)
  (.seq (.ops [⟨(some 6), none, .move (.c (.int .i64 6))⟩] (some [6]))
  .ret)
  .skip))
 (.seq (.ops [⟨(some 15), none, .move (.t 0)⟩,
   ⟨(some 16), none, .move (.t 1)⟩,
   ⟨(some 17), none, .move (.t 2)⟩,
   ⟨(some 18), none, .call (.c (.func (.func 153) #[] #[])) [(.t 15), (.t 16), (.t 17)]⟩,
   ⟨(some 6), none, .move (.t 18)⟩] (some [6]))
 .ret))), [.tmp 6]⟩

theorem is369 : FnIs Tryz.prog 369 x369 := ⟨Tryz.f369, _, Tryz.func369, by kernel_rfl, rfl, by kernel_rfl, by decide, by kernel_rfl⟩

/-- (*cloisonne/extent.World).Read -/
def x371 : XDecl := .code ⟨3, 
 (.seq (.ops [⟨(some 6), none, .move (.c (.string .empty))⟩,
   ⟨(some 7), none, .move (.c (.int .i64 0))⟩] (some [0, 1, 2]))
 (.seq (.seq (.ops [⟨(some 11), none, .move (.t 0)⟩,
   ⟨(some 12), none, .move (.t 1)⟩,
   ⟨(some 13), none, .move (.t 2)⟩,
   ⟨(some 14), none, .call (.c (.func (.func 369) #[] #[])) [(.t 11), (.t 12), (.t 13)]⟩,
   ⟨(some 8), none, .move (.t 14)⟩] (some [0, 1, 2, 8]))
 (.seq (.ops [⟨(some 15), none, .move (.t 8)⟩,
   ⟨(some 16), none, .bin .neq 32 (.t 15) (.c (.int .i64 0))⟩] (some [0, 1, 2, 8, 16]))
 (.cond (.t 16)
  (.seq (.ops [⟨(some 17), none, .move (.t 8)⟩,
    ⟨(some 6), none, .move (.c (.string .empty))⟩,
    ⟨(some 7), none, .move (.t 17)⟩] (some [6, 7]))
  .ret)
  .skip)))
 (.seq (.seq (.ops [⟨(some 19), none, .move (.t 0)⟩,
   ⟨(some 20), none, .nilCheck (.t 19)⟩,
   ⟨(some 21), none, .fieldAddr 3 (.t 20)⟩,
   ⟨(some 22), none, .load false 1 (.t 21)⟩,
   ⟨(some 23), none, .move (.t 1)⟩,
   ⟨(some 24), none, .indexAddr 1 (.t 22) (.t 23)⟩,
   ⟨(some 25), none, .load false 1 (.t 24)⟩,
   ⟨(some 26), none, .move (.t 2)⟩,
   ⟨(some 27), none, .lookup true (.string .empty) true (.t 25) (.t 26)⟩,
   ⟨(some 18), none, .move (.t 27)⟩,
   ⟨(some 28), none, .extract (.t 18) 0⟩,
   ⟨(some 29), none, .extract (.t 18) 1⟩,
   ⟨(some 9), none, .move (.t 28)⟩,
   ⟨(some 10), none, .move (.t 29)⟩] (some [0, 1, 2, 9, 10]))
 (.seq (.ops [⟨(some 30), none, .move (.t 10)⟩] (some [0, 1, 2, 9, 30]))
 (.cond (.t 30)
  (.seq (.ops [⟨(some 31), none, .move (.t 9)⟩,
    ⟨(some 6), none, .move (.t 31)⟩,
    ⟨(some 7), none, .move (.c (.int .i64 0))⟩] (some [6, 7]))
  .ret)
  .skip)))
 (.seq (.ops [⟨(some 32), none, .move (.t 0)⟩,
   ⟨(some 33), none, .nilCheck (.t 32)⟩,
   ⟨(some 34), none, .fieldAddr 2 (.t 33)⟩,
   ⟨(some 35), none, .load false 1 (.t 34)⟩,
   ⟨(some 36), none, .move (.t 1)⟩,
   ⟨(some 37), none, .indexAddr 1 (.t 35) (.t 36)⟩,
   ⟨(some 38), none, .load false 1 (.t 37)⟩,
   ⟨(some 39), none, .move (.t 2)⟩,
   ⟨(some 40), none, .indexAddr 1 (.t 38) (.t 39)⟩,
   ⟨(some 41), none, .load false 1 (.t 40)⟩,
   ⟨(some 6), none, .move (.t 41)⟩,
   ⟨(some 7), none, .move (.c (.int .i64 0))⟩] (some [6, 7]))
 .ret)))), [.tmp 6, .tmp 7]⟩

theorem is371 : FnIs Tryz.prog 371 x371 := ⟨Tryz.f371, _, Tryz.func371, by kernel_rfl, rfl, by kernel_rfl, by decide, by kernel_rfl⟩

/-- cloisonne/sector.Unpack -/
def x372 : XDecl := .code ⟨1, 
 (.seq (.ops [⟨(some 2), none, .alloc [(.int .i64 0), (.int .i64 0), (.int .i64 0), (.int .i64 0), (.int .i64 0)]⟩,
   ⟨(some 3), none, .move (.c (.string .empty))⟩,
   ⟨(some 4), none, .move (.c (.int .i64 0))⟩] (some [0, 2]))
 (.seq (.seq (.ops [⟨(some 7), none, .move (.t 0)⟩,
   ⟨(some 8), none, .calcB .len [9] 3 [(.t 7)]⟩,
   ⟨(some 9), none, .bin .neq 3 (.t 8) (.c (.int .i64 64))⟩,
   ⟨(some 10), none, .move (.t 9)⟩,
   ⟨(some 11), (some (10, false)), .move (.t 0)⟩,
   ⟨(some 12), (some (10, false)), .index 9 (.t 11) (.c (.int .i64 0))⟩,
   ⟨(some 13), (some (10, false)), .bin .neq 5 (.t 12) (.c (.int .u8 193))⟩,
   ⟨(some 14), none, .pick (.t 10) (.c (.bool true)) (.t 13)⟩] (some [0, 2, 14]))
 (.cond (.t 14)
  (.seq (.ops [⟨(some 15), none, .build [(.int .i64 0), (.int .i64 0), (.int .i64 0), (.int .i64 0), (.int .i64 0)] [(0, 1), (1, 1), (2, 1), (3, 1), (4, 1)] []⟩,
    ⟨none, none, .store 5 (.t 2) (.t 15)⟩,
    ⟨(some 3), none, .move (.c (.string .empty))⟩,
    ⟨(some 4), none, .move (.c (.int .i64 4))⟩] (some [2, 3, 4]))
  .ret)
  .skip))
 (.seq (.opsd [(0, 0, ⟨(some 16), none, .move (.t 0)⟩),
   (1, 1, ⟨(some 17), none, .substr 9 (.t 16) (some (.c (.int .i64 1))) (some (.c (.int .i64 5)))⟩),
   (3, 0, ⟨(some 19), none, .move (.t 0)⟩),
   (4, 8, ⟨(some 20), none, .substr 9 (.t 19) (some (.c (.int .i64 5))) (some (.c (.int .i64 7)))⟩),
   (6, 0, ⟨(some 22), none, .move (.t 0)⟩),
   (7, 64, ⟨(some 23), none, .substr 9 (.t 22) (some (.c (.int .i64 7))) (some (.c (.int .i64 11)))⟩),
   (9, 0, ⟨(some 25), none, .move (.t 0)⟩),
   (10, 512, ⟨(some 26), none, .substr 9 (.t 25) (some (.c (.int .i64 11))) (some (.c (.int .i64 12)))⟩),
   (12, 0, ⟨(some 28), none, .move (.t 0)⟩),
   (13, 4096, ⟨(some 29), none, .substr 9 (.t 28) (some (.c (.int .i64 12))) (some (.c (.int .i64 13)))⟩),
   (16, 0, ⟨(some 5), none, .alloc [(.int .i64 0), (.int .i64 0), (.int .i64 0), (.int .i64 0), (.int .i64 0)]⟩),
   (2, 3, ⟨(some 18), none, .call (.c (.func (.func 431) #[] #[])) [(.t 17)]⟩),
   (5, 31, ⟨(some 21), none, .call (.c (.func (.func 431) #[] #[])) [(.t 20)]⟩),
   (8, 255, ⟨(some 24), none, .call (.c (.func (.func 431) #[] #[])) [(.t 23)]⟩),
   (11, 2047, ⟨(some 27), none, .call (.c (.func (.func 431) #[] #[])) [(.t 26)]⟩),
   (14, 16383, ⟨(some 30), none, .call (.c (.func (.func 431) #[] #[])) [(.t 29)]⟩),
   (15, 32767, ⟨(some 31), none, .build [(.int .i64 0), (.int .i64 0), (.int .i64 0), (.int .i64 0), (.int .i64 0)] [(0, 1), (1, 1), (2, 1), (3, 1), (4, 1)] [(0, (.t 18)), (1, (.t 21)), (2, (.t 24)), (3, (.t 27)), (4, (.t 30))]⟩),
   (17, 131071, ⟨none, none, .store 5 (.t 5) (.t 31)⟩)] (some [0, 2, 5]))
 (.seq (.ops [⟨(some 32), none, .move (.t 0)⟩,
   ⟨(some 33), none, .substr 9 (.t 32) (some (.c (.int .i64 13))) (some (.c (.int .i64 14)))⟩,
   ⟨(some 34), none, .call (.c (.func (.func 431) #[] #[])) [(.t 33)]⟩,
   ⟨(some 6), none, .move (.t 34)⟩] (some [0, 2, 5, 6]))
 (.seq (.seq (.ops [⟨(some 35), none, .load true 5 (.t 5)⟩,
   ⟨(some 36), none, .call (.c (.func (.func 428) #[] #[])) [(.t 35)]⟩,
   ⟨(some 37), none, .un .not (.t 36)⟩,
   ⟨(some 38), none, .move (.t 37)⟩,
   ⟨(some 39), (some (38, false)), .move (.t 6)⟩,
   ⟨(some 40), (some (38, false)), .bin .gtr 3 (.t 39) (.c (.int .i64 50))⟩,
   ⟨(some 41), none, .pick (.t 38) (.c (.bool true)) (.t 40)⟩,
   ⟨(some 42), none, .move (.t 41)⟩,
   ⟨(some 43), (some (42, false)), .move (.t 0)⟩,
   ⟨(some 44), (some (42, false)), .move (.t 6)⟩,
   ⟨(some 45), (some (42, false)), .bin .add 3 (.c (.int .i64 14)) (.t 44)⟩,
   ⟨(some 46), (some (42, false)), .substr 9 (.t 43) (some (.t 45)) none⟩,
   ⟨(some 47), (some (42, false)), .call (.c (.func (.func 432) #[] #[])) [(.t 46), (.c (.string ⟨#[0]⟩))]⟩,
   ⟨(some 48), (some (42, false)), .bin .neq 9 (.t 47) (.c (.string .empty))⟩,
   ⟨(some 49), none, .pick (.t 42) (.c (.bool true)) (.t 48)⟩] (some [0, 2, 5, 6, 49]))
 (.cond (.t 49)
  (.seq (.ops [⟨(some 50), none, .build [(.int .i64 0), (.int .i64 0), (.int .i64 0), (.int .i64 0), (.int .i64 0)] [(0, 1), (1, 1), (2, 1), (3, 1), (4, 1)] []⟩,
    ⟨none, none, .store 5 (.t 2) (.t 50)⟩,
    ⟨(some 3), none, .move (.c (.string .empty))⟩,
    ⟨(some 4), none, .move (.c (.int .i64 4))⟩] (some [2, 3, 4]))
  .ret)
  .skip))
 (.seq (.opsd [(0, 0, ⟨(some 51), none, .load true 5 (.t 5)⟩),
   (1, 0, ⟨(some 52), none, .move (.t 0)⟩),
   (2, 0, ⟨(some 53), none, .move (.t 6)⟩),
   (3, 4, ⟨(some 54), none, .bin .add 3 (.c (.int .i64 14)) (.t 53)⟩),
   (4, 14, ⟨(some 55), none, .substr 9 (.t 52) (some (.c (.int .i64 14))) (some (.t 54))⟩),
   (5, 1, ⟨none, none, .store 5 (.t 2) (.t 51)⟩),
   (6, 63, ⟨(some 3), none, .move (.t 55)⟩),
   (7, 127, ⟨(some 4), none, .move (.c (.int .i64 0))⟩)] (some [2, 3, 4]))
 .ret)))))), [.cell true 5 2, .tmp 3, .tmp 4]⟩

theorem is372 : FnIs Tryz.prog 372 x372 := ⟨Tryz.f372, _, Tryz.func372, by kernel_rfl, rfl, by kernel_rfl, by decide, by kernel_rfl⟩

/-- (*cloisonne/seglog.Log).Busy -/
def x374 : XDecl := .code ⟨1, 
 (.seq (.ops [⟨(some 2), none, .move (.c (.bool false))⟩] (some [0]))
 (.seq (.ops [⟨(some 3), none, .move (.t 0)⟩,
   ⟨(some 4), none, .isNil .ptr true (.t 3)⟩,
   ⟨(some 5), none, .move (.t 4)⟩,
   ⟨(some 6), (some (5, true)), .move (.t 0)⟩,
   ⟨(some 7), (some (5, true)), .nilCheck (.t 6)⟩,
   ⟨(some 8), (some (5, true)), .fieldAddr 6 (.t 7)⟩,
   ⟨(some 9), (some (5, true)), .load false 1 (.t 8)⟩,
   ⟨(some 10), (some (5, true)), .isNil .ptr true (.t 9)⟩,
   ⟨(some 11), none, .pick (.t 5) (.t 10) (.c (.bool false))⟩,
   ⟨(some 2), none, .move (.t 11)⟩] (some [2]))
 .ret)), [.tmp 2]⟩

theorem is374 : FnIs Tryz.prog 374 x374 := ⟨Tryz.f374, _, Tryz.func374, by kernel_rfl, rfl, by kernel_rfl, by decide, by kernel_rfl⟩

/-- (*cloisonne/seglog.Log).fits -/
def x375 : XDecl := .code ⟨3, 
 (.seq (.ops [⟨(some 6), none, .move (.c (.bool false))⟩] (some [0, 1, 2]))
 (.seq (.opsd [(0, 0, ⟨(some 7), none, .move (.t 1)⟩),
   (1, 1, ⟨(some 8), none, .bin .geq 3 (.t 7) (.c (.int .i64 0))⟩),
   (2, 3, ⟨(some 9), none, .move (.t 8)⟩),
   (3, 7, ⟨(some 10), (some (9, true)), .move (.t 1)⟩),
   (5, 7, ⟨(some 12), (some (9, true)), .move (.t 0)⟩),
   (6, 39, ⟨(some 13), (some (9, true)), .nilCheck (.t 12)⟩),
   (7, 103, ⟨(some 14), (some (9, true)), .fieldAddr 0 (.t 13)⟩),
   (8, 231, ⟨(some 15), (some (9, true)), .load false 1 (.t 14)⟩),
   (10, 7, ⟨(some 17), (some (9, true)), .move (.t 2)⟩),
   (4, 15, ⟨(some 11), (some (9, true)), .call (.c (.func (.func 436) #[] #[])) [(.t 10)]⟩),
   (9, 511, ⟨(some 16), (some (9, true)), .call (.c (.func (.func 156) #[] #[])) [(.t 15)]⟩),
   (11, 2047, ⟨(some 18), (some (9, true)), .bin .sub 3 (.t 16) (.t 17)⟩),
   (12, 4095, ⟨(some 19), (some (9, true)), .bin .leq 3 (.t 11) (.t 18)⟩),
   (13, 8191, ⟨(some 20), none, .pick (.t 9) (.t 19) (.c (.bool false))⟩),
   (14, 16383, ⟨(some 6), none, .move (.t 20)⟩)] (some [6]))
 .ret)), [.tmp 6]⟩

theorem is375 : FnIs Tryz.prog 375 x375 := ⟨Tryz.f375, _, Tryz.func375, by kernel_rfl, rfl, by kernel_rfl, by decide, by kernel_rfl⟩

/-- (*cloisonne/seglog.Log).begin -/
def x376 : XDecl := .code ⟨2, 
 (.seq (.ops [⟨(some 4), none, .move (.c (.pointer none))⟩,
   ⟨(some 5), none, .move (.c (.int .i64 0))⟩] (some [0, 1]))
 (.seq (.seq (.ops [⟨(some 6), none, .move (.t 1)⟩,
   ⟨(some 7), none, .nilCheck (.t 6)⟩,
   ⟨(some 8), none, .fieldAddr 2 (.t 7)⟩,
   ⟨(some 9), none, .load false 1 (.t 8)⟩,
   ⟨(some 10), none, .bin .gtr 3 (.t 9) (.c (.int .i64 2147483647))⟩,
   ⟨(some 11), none, .move (.t 10)⟩,
   ⟨(some 12), (some (11, false)), .move (.t 0)⟩,
   ⟨(some 13), (some (11, false)), .nilCheck (.t 12)⟩,
   ⟨(some 14), (some (11, false)), .fieldAddr 5 (.t 13)⟩,
   ⟨(some 15), (some (11, false)), .load false 1 (.t 14)⟩,
   ⟨(some 16), (some (11, false)), .bin .gtr 3 (.t 15) (.c (.int .i64 2147483647))⟩,
   ⟨(some 17), none, .pick (.t 11) (.c (.bool true)) (.t 16)⟩] (some [0, 1, 17]))
 (.cond (.t 17)
  (.seq (.ops [⟨(some 4), none, .move (.c (.pointer none))⟩,
    ⟨(some 5), none, .move (.c (.int .i64 17))⟩] (some [4, 5]))
  .ret)
  .skip))
 (.seq (.ops [⟨(some 18), none, .move (.t 1)⟩,
   ⟨(some 19), none, .move (.t 0)⟩,
   ⟨(some 20), none, .move (.t 0)⟩,
   ⟨(some 21), none, .move (.t 1)⟩,
   ⟨(some 22), none, .nilCheck (.t 18)⟩,
   ⟨(some 23), none, .fieldAddr 0 (.t 22)⟩,
   ⟨none, none, .store 1 (.t 23) (.t 20)⟩,
   ⟨(some 24), none, .nilCheck (.t 19)⟩,
   ⟨(some 25), none, .fieldAddr 6 (.t 24)⟩,
   ⟨none, none, .store 1 (.t 25) (.t 21)⟩] (some [1]))
 (.seq (.ops [⟨(some 26), none, .move (.t 1)⟩,
   ⟨(some 4), none, .move (.t 26)⟩,
   ⟨(some 5), none, .move (.c (.int .i64 0))⟩] (some [4, 5]))
 .ret)))), [.tmp 4, .tmp 5]⟩

theorem is376 : FnIs Tryz.prog 376 x376 := ⟨Tryz.f376, _, Tryz.func376, by kernel_rfl, rfl, by kernel_rfl, by decide, by kernel_rfl⟩

/-- cloisonne/sector.Parts -/
def x377 : XDecl := .code ⟨1, 
 (.seq (.ops [⟨(some 2), none, .move (.c (.slice none 0 0))⟩] (some [0]))
 (.seq (.ops [⟨(some 3), none, .move (.c (.slice none 0 0))⟩] (some [0, 3]))
 (.seq (.block 0
  (.loop
   (.seq (.seq (.ops [⟨(some 4), none, .move (.t 0)⟩,
     ⟨(some 5), none, .calcB .len [9] 3 [(.t 4)]⟩,
     ⟨(some 6), none, .bin .gtr 3 (.t 5) (.c (.int .i64 50))⟩] (some [0, 3, 6]))
   (.cond (.t 6)
    .skip
    (.exit 0)))
   (.block 1
    (.seq (.ops [⟨(some 7), none, .move (.t 3)⟩,
      ⟨(some 8), none, .move (.t 0)⟩,
      ⟨(some 9), none, .substr 9 (.t 8) none (some (.c (.int .i64 50)))⟩,
      ⟨(some 10), none, .buildSlice [(.string .empty)] 1 1 [(0, (.t 9))]⟩,
      ⟨(some 11), none, .append 1 16 [(.string .empty)] (.t 7) (.t 10)⟩,
      ⟨(some 3), none, .move (.t 11)⟩] (some [0, 3]))
    (.ops [⟨(some 12), none, .move (.t 0)⟩,
      ⟨(some 13), none, .substr 9 (.t 12) (some (.c (.int .i64 50))) none⟩,
      ⟨(some 0), none, .move (.t 13)⟩] (some [0, 3])))))))
 (.seq (.ops [⟨(some 14), none, .move (.t 3)⟩,
   ⟨(some 15), none, .move (.t 0)⟩,
   ⟨(some 16), none, .buildSlice [(.string .empty)] 1 1 [(0, (.t 15))]⟩,
   ⟨(some 17), none, .append 1 16 [(.string .empty)] (.t 14) (.t 16)⟩,
   ⟨(some 2), none, .move (.t 17)⟩] (some [2]))
 .ret)))), [.tmp 2]⟩

theorem is377 : FnIs Tryz.prog 377 x377 := ⟨Tryz.f377, _, Tryz.func377, by kernel_rfl, rfl, by kernel_rfl, by decide, by kernel_rfl⟩

/-- cloisonne/ring.New -/
def x383 : XDecl := .code ⟨2, 
 (.seq (.ops [⟨(some 4), none, .move (.c (.pointer none))⟩,
   ⟨(some 5), none, .move (.c (.int .i64 0))⟩] (some [0, 1]))
 (.seq (.seq (.ops [⟨(some 6), none, .move (.t 0)⟩,
   ⟨(some 7), none, .bin .lss 3 (.t 6) (.c (.int .i64 1))⟩,
   ⟨(some 8), none, .move (.t 7)⟩,
   ⟨(some 9), (some (8, false)), .move (.t 0)⟩,
   ⟨(some 10), (some (8, false)), .bin .gtr 3 (.t 9) (.c (.int .i64 16))⟩,
   ⟨(some 11), none, .pick (.t 8) (.c (.bool true)) (.t 10)⟩,
   ⟨(some 12), none, .move (.t 11)⟩,
   ⟨(some 13), (some (12, false)), .move (.t 1)⟩,
   ⟨(some 14), (some (12, false)), .bin .lss 3 (.t 13) (.c (.int .i64 0))⟩,
   ⟨(some 15), none, .pick (.t 12) (.c (.bool true)) (.t 14)⟩,
   ⟨(some 16), none, .move (.t 15)⟩,
   ⟨(some 17), (some (16, false)), .move (.t 1)⟩,
   ⟨(some 18), (some (16, false)), .bin .gtr 3 (.t 17) (.c (.int .i64 1073741824))⟩,
   ⟨(some 19), none, .pick (.t 16) (.c (.bool true)) (.t 18)⟩] (some [0, 1, 19]))
 (.cond (.t 19)
  (.seq (.ops [⟨(some 4), none, .move (.c (.pointer none))⟩,
    ⟨(some 5), none, .move (.c (.int .i64 1))⟩] (some [4, 5]))
  .ret)
  .skip))
 (.seq (.ops [⟨(some 20), none, .move (.t 0)⟩,
   ⟨(some 21), none, .move (.t 1)⟩,
   ⟨(some 22), none, .move (.t 1)⟩,
   ⟨(some 23), none, .build [(.int .i64 0), (.int .i64 0), (.int .i64 0), (.slice none 0 0)] [(0, 1), (1, 1), (2, 1), (3, 1)] [(0, (.t 20)), (1, (.t 21)), (2, (.t 22))]⟩,
   ⟨(some 24), none, .box (.t 23)⟩,
   ⟨(some 4), none, .move (.t 24)⟩,
   ⟨(some 5), none, .move (.c (.int .i64 0))⟩] (some [4, 5]))
 .ret))), [.tmp 4, .tmp 5]⟩

theorem is383 : FnIs Tryz.prog 383 x383 := ⟨Tryz.f383, _, Tryz.func383, by kernel_rfl, rfl, by kernel_rfl, by decide, by kernel_rfl⟩

/-- cloisonne/tree.New -/
def x384 : XDecl := .code ⟨0, 
 (.seq (.ops [⟨(some 0), none, .move (.c (.pointer none))⟩] (some []))
 (.seq (.ops [⟨(some 1), none, .build [(.slice none 0 0), (.slice none 0 0), (.int .i64 0), (.int .i64 0)] [(0, 1), (1, 1), (2, 1), (3, 1)] [(2, (.c (.int .i64 (-1))))]⟩,
   ⟨(some 2), none, .box (.t 1)⟩,
   ⟨(some 0), none, .move (.t 2)⟩] (some [0]))
 .ret)), [.tmp 0]⟩

theorem is384 : FnIs Tryz.prog 384 x384 := ⟨Tryz.f384, _, Tryz.func384, by kernel_rfl, rfl, by kernel_rfl, by decide, by kernel_rfl⟩

/-- cloisonne/room.key -/
def x386 : XDecl := .code ⟨1, 
 (.seq (.ops [⟨(some 2), none, .move (.c (.bool false))⟩] (some [0]))
 (.seq (.ops [⟨(some 3), none, .move (.t 0)⟩,
   ⟨(some 4), none, .calcB .len [9] 3 [(.t 3)]⟩,
   ⟨(some 5), none, .call (.c (.func (.func 285) #[] #[])) [(.t 4), (.c (.int .i64 1)), (.c (.int .i64 32))]⟩,
   ⟨(some 2), none, .move (.t 5)⟩] (some [2]))
 .ret)), [.tmp 2]⟩

theorem is386 : FnIs Tryz.prog 386 x386 := ⟨Tryz.f386, _, Tryz.func386, by kernel_rfl, rfl, by kernel_rfl, by decide, by kernel_rfl⟩

/-- (*cloisonne/room.Room).put -/
def x387 : XDecl := .code ⟨3, 
 (.seq (.ops [⟨(some 5), none, .box (.t 2)⟩,
   ⟨(some 6), none, .move (.c (.int .i64 0))⟩] (some [0, 1, 5]))
 (.seq (.opsd [(0, 0, ⟨(some 10), none, .move (.t 0)⟩),
   (1, 0, ⟨(some 11), none, .move (.t 1)⟩),
   (3, 0, ⟨(some 13), none, .load true 5 (.t 5)⟩),
   (2, 3, ⟨(some 12), none, .call (.c (.func (.func 88) #[] #[])) [(.t 10), (.t 11)]⟩),
   (4, 15, ⟨(some 14), none, .call (.c (.func (.func 444) #[] #[])) [(.t 12), (.t 13)]⟩),
   (5, 31, ⟨(some 9), none, .move (.t 14)⟩),
   (6, 63, ⟨(some 15), none, .extract (.t 9) 0⟩),
   (7, 63, ⟨(some 16), none, .extract (.t 9) 1⟩),
   (8, 127, ⟨(some 7), none, .move (.t 15)⟩),
   (9, 511, ⟨(some 8), none, .move (.t 16)⟩)] (some [0, 1, 7, 8]))
 (.seq (.seq (.ops [⟨(some 17), none, .move (.t 8)⟩,
   ⟨(some 18), none, .bin .neq 32 (.t 17) (.c (.int .i64 0))⟩] (some [0, 1, 7, 8, 18]))
 (.cond (.t 18)
  (.seq (.ops [⟨(some 19), none, .move (.t 8)⟩,
    ⟨(some 6), none, .move (.t 19)⟩] (some [6]))
  .ret)
  .skip))
 (.seq (.ops [⟨(some 20), none, .move (.t 0)⟩,
   ⟨(some 21), none, .move (.t 1)⟩,
   ⟨(some 22), none, .move (.t 7)⟩,
   ⟨(some 23), none, .call (.c (.func (.func 91) #[] #[])) [(.t 20), (.t 21), (.t 22)]⟩] (some []))
 (.seq (.ops [⟨(some 6), none, .move (.c (.int .i64 0))⟩] (some [6]))
 .ret))))), [.tmp 6]⟩

theorem is387 : FnIs Tryz.prog 387 x387 := ⟨Tryz.f387, _, Tryz.func387, by kernel_rfl, rfl, by kernel_rfl, by decide, by kernel_rfl⟩

/-- (*cloisonne/ring.Ring).Seq -/
def x389 : XDecl := .code ⟨1, 
 (.seq (.ops [⟨(some 2), none, .move (.c (.int .i64 0))⟩] (some [0]))
 (.seq (.seq (.ops [⟨(some 3), none, .move (.t 0)⟩,
   ⟨(some 4), none, .isNil .ptr false (.t 3)⟩] (some [0, 4]))
 (.cond (.t 4)
  (.seq (.ops [⟨(some 2), none, .move (.c (.int .i64 0))⟩] (some [2]))
  .ret)
  .skip))
 (.seq (.ops [⟨(some 5), none, .move (.t 0)⟩,
   ⟨(some 6), none, .nilCheck (.t 5)⟩,
   ⟨(some 7), none, .fieldAddr 2 (.t 6)⟩,
   ⟨(some 8), none, .load false 1 (.t 7)⟩,
   ⟨(some 2), none, .move (.t 8)⟩] (some [2]))
 .ret))), [.tmp 2]⟩

theorem is389 : FnIs Tryz.prog 389 x389 := ⟨Tryz.f389, _, Tryz.func389, by kernel_rfl, rfl, by kernel_rfl, by decide, by kernel_rfl⟩

/-- cloisonne/room.May -/
def x390 : XDecl := .code ⟨1, 
 (.seq (.ops [⟨(some 2), none, .move (.c (.bool false))⟩] (some [0]))
 (.seq (.seq (.ops [⟨(some 5), none, .move (.t 0)⟩,
   ⟨(some 6), none, .len (.t 5)⟩,
   ⟨(some 7), none, .move (.c (.int .i64 0))⟩] (some [0, 5, 6, 7]))
 (.block 0
  (.loop
   (.seq (.ops [⟨(some 8), none, .bin .lss 3 (.t 7) (.t 6)⟩] (some [0, 5, 6, 7, 8]))
   (.seq (.cond (.t 8)
    .skip
    (.exit 0))
   (.seq (.block 1
    (.seq (.ops [⟨(some 9), none, .move (.t 7)⟩,
      ⟨(some 10), none, .indexAddr 5 (.t 5) (.t 7)⟩,
      ⟨(some 11), none, .load true 5 (.t 10)⟩,
      ⟨(some 4), none, .alloc [(.string .empty), (.bool false), (.bool false), (.string .empty), (.int .u64 0)]⟩,
      ⟨(some 3), none, .move (.t 9)⟩,
      ⟨none, none, .store 5 (.t 4) (.t 11)⟩] (some [0, 3, 4, 5, 6, 7]))
    (.seq (.opsd [(0, 0, ⟨(some 12), none, .fieldAddr 0 (.t 4)⟩),
      (1, 1, ⟨(some 13), none, .load false 1 (.t 12)⟩),
      (2, 3, ⟨(some 14), none, .call (.c (.func (.func 386) #[] #[])) [(.t 13)]⟩),
      (3, 7, ⟨(some 15), none, .un .not (.t 14)⟩),
      (4, 15, ⟨(some 16), none, .move (.t 15)⟩),
      (5, 31, ⟨(some 17), (some (16, false)), .fieldAddr 2 (.t 4)⟩),
      (6, 63, ⟨(some 18), (some (16, false)), .load true 3 (.t 17)⟩),
      (7, 127, ⟨(some 19), (some (16, false)), .call (.c (.func (.func 116) #[] #[])) [(.t 18)]⟩),
      (8, 255, ⟨(some 20), (some (16, false)), .un .not (.t 19)⟩),
      (9, 511, ⟨(some 21), none, .pick (.t 16) (.c (.bool true)) (.t 20)⟩),
      (10, 1023, ⟨(some 22), none, .move (.t 21)⟩),
      (11, 2047, ⟨(some 23), (some (22, false)), .fieldAddr 1 (.t 4)⟩),
      (12, 4095, ⟨(some 24), (some (22, false)), .load false 1 (.t 23)⟩),
      (13, 8191, ⟨(some 25), (some (22, false)), .move (.t 24)⟩),
      (14, 16383, ⟨(some 26), (some (25, true)), .fieldAddr 2 (.t 4)⟩),
      (15, 32767, ⟨(some 27), (some (25, true)), .load true 3 (.t 26)⟩),
      (16, 16383, ⟨(some 28), (some (25, true)), .build [(.bool false), (.string .empty), (.int .u64 0)] [(0, 1), (1, 1), (2, 1)] []⟩),
      (17, 131071, ⟨(some 29), (some (25, true)), .bin .neq 79 (.t 27) (.t 28)⟩),
      (18, 262143, ⟨(some 30), (some (22, false)), .pick (.t 25) (.t 29) (.c (.bool false))⟩),
      (19, 524287, ⟨(some 31), none, .pick (.t 22) (.c (.bool true)) (.t 30)⟩),
      (20, 1048575, ⟨(some 32), none, .move (.t 31)⟩),
      (21, 2097151, ⟨(some 33), (some (32, false)), .move (.t 3)⟩),
      (22, 4194303, ⟨(some 34), (some (32, false)), .bin .gtr 3 (.t 33) (.c (.int .i64 0))⟩),
      (23, 8388607, ⟨(some 35), (some (32, false)), .move (.t 34)⟩),
      (24, 16777215, ⟨(some 36), (some (35, true)), .move (.t 0)⟩),
      (25, 16777215, ⟨(some 37), (some (35, true)), .move (.t 3)⟩),
      (26, 50331647, ⟨(some 38), (some (35, true)), .bin .sub 3 (.t 37) (.c (.int .i64 1))⟩),
      (27, 134217727, ⟨(some 39), (some (35, true)), .indexAddr 5 (.t 36) (.t 38)⟩),
      (28, 268435455, ⟨(some 40), (some (35, true)), .fieldAddr 0 (.t 39)⟩),
      (29, 536870911, ⟨(some 41), (some (35, true)), .load false 1 (.t 40)⟩),
      (30, 16777215, ⟨(some 42), (some (35, true)), .fieldAddr 0 (.t 4)⟩),
      (31, 1090519039, ⟨(some 43), (some (35, true)), .load false 1 (.t 42)⟩),
      (32, 4294967295, ⟨(some 44), (some (35, true)), .bin .geq 9 (.t 41) (.t 43)⟩),
      (33, 8589934591, ⟨(some 45), (some (32, false)), .pick (.t 35) (.t 44) (.c (.bool false))⟩),
      (34, 17179869183, ⟨(some 46), none, .pick (.t 32) (.c (.bool true)) (.t 45)⟩)] (some [0, 5, 6, 7, 46]))
    (.cond (.t 46)
     (.seq (.ops [⟨(some 2), none, .move (.c (.bool false))⟩] (some [2]))
     .ret)
     .skip))))
   (.ops [⟨(some 47), none, .bin .add 3 (.t 7) (.c (.int .i64 1))⟩,
     ⟨(some 7), none, .move (.t 47)⟩] (some [0, 5, 6, 7]))))))))
 (.seq (.ops [⟨(some 48), none, .move (.t 0)⟩,
   ⟨(some 49), none, .len (.t 48)⟩,
   ⟨(some 50), none, .call (.c (.func (.func 285) #[] #[])) [(.t 49), (.c (.int .i64 1)), (.c (.int .i64 16))]⟩,
   ⟨(some 2), none, .move (.t 50)⟩] (some [2]))
 .ret))), [.tmp 2]⟩

theorem is390 : FnIs Tryz.prog 390 x390 := ⟨Tryz.f390, _, Tryz.func390, by kernel_rfl, rfl, by kernel_rfl, by decide, by kernel_rfl⟩

/-- (*cloisonne/room.Room).room -/
def x391 : XDecl := .code ⟨2, 
 (.seq (.ops [⟨(some 4), none, .move (.c (.int .i64 0))⟩] (some [0, 1]))
 (.seq (.seq (.opsd [(0, 0, ⟨(some 8), none, .move (.t 0)⟩),
   (2, 0, ⟨(some 10), none, .move (.t 0)⟩),
   (3, 4, ⟨(some 11), none, .nilCheck (.t 10)⟩),
   (4, 12, ⟨(some 12), none, .fieldAddr 0 (.t 11)⟩),
   (5, 28, ⟨(some 13), none, .fieldAddr 3 (.t 12)⟩),
   (6, 60, ⟨(some 14), none, .load false 1 (.t 13)⟩),
   (1, 1, ⟨(some 9), none, .call (.c (.func (.func 306) #[] #[])) [(.t 8)]⟩),
   (7, 127, ⟨(some 15), none, .bin .geq 3 (.t 9) (.t 14)⟩)] (some [0, 1, 15]))
 (.cond (.t 15)
  (.seq (.ops [⟨(some 4), none, .move (.c (.int .i64 17))⟩] (some [4]))
  .ret)
  .skip))
 (.seq (.ops [⟨(some 16), none, .move (.t 0)⟩,
   ⟨(some 17), none, .nilCheck (.t 16)⟩,
   ⟨(some 18), none, .fieldAddr 8 (.t 17)⟩,
   ⟨(some 19), none, .load false 1 (.t 18)⟩,
   ⟨(some 5), none, .move (.t 19)⟩] (some [0, 1, 5]))
 (.seq (.seq (.ops [⟨(some 20), none, .move (.t 1)⟩,
   ⟨(some 21), none, .len (.t 20)⟩,
   ⟨(some 22), none, .move (.c (.int .i64 0))⟩] (some [0, 5, 20, 21, 22]))
 (.block 0
  (.loop
   (.seq (.ops [⟨(some 23), none, .bin .lss 3 (.t 22) (.t 21)⟩] (some [0, 5, 20, 21, 22, 23]))
   (.seq (.cond (.t 23)
    .skip
    (.exit 0))
   (.seq (.block 1
    (.seq (.ops [⟨(some 24), none, .indexAddr 5 (.t 20) (.t 22)⟩,
      ⟨(some 25), none, .load true 5 (.t 24)⟩,
      ⟨(some 7), none, .alloc [(.string .empty), (.bool false), (.bool false), (.string .empty), (.int .u64 0)]⟩,
      ⟨none, none, .store 5 (.t 7) (.t 25)⟩] (some [0, 5, 7, 20, 21, 22]))
    (.seq (.opsd [(0, 0, ⟨(some 26), none, .move (.t 5)⟩),
      (1, 0, ⟨(some 27), none, .fieldAddr 0 (.t 7)⟩),
      (2, 2, ⟨(some 28), none, .load false 1 (.t 27)⟩),
      (3, 0, ⟨(some 29), none, .move (.t 0)⟩),
      (4, 0, ⟨(some 30), none, .fieldAddr 0 (.t 7)⟩),
      (5, 16, ⟨(some 31), none, .load false 1 (.t 30)⟩),
      (6, 56, ⟨(some 32), none, .call (.c (.func (.func 88) #[] #[])) [(.t 29), (.t 31)]⟩),
      (7, 126, ⟨(some 33), none, .call (.c (.func (.func 145) #[] #[])) [(.t 28), (.t 32)]⟩),
      (8, 255, ⟨(some 34), none, .bin .sub 3 (.t 26) (.t 33)⟩),
      (9, 511, ⟨(some 5), none, .move (.t 34)⟩)] (some [0, 5, 7, 20, 21, 22]))
    (.seq (.ops [⟨(some 35), none, .fieldAddr 1 (.t 7)⟩,
      ⟨(some 36), none, .load false 1 (.t 35)⟩,
      ⟨(some 37), none, .un .not (.t 36)⟩] (some [0, 5, 7, 20, 21, 22, 37]))
    (.cond (.t 37)
     (.opsd [(0, 0, ⟨(some 38), none, .move (.t 5)⟩),
       (1, 0, ⟨(some 39), none, .fieldAddr 0 (.t 7)⟩),
       (2, 2, ⟨(some 40), none, .load false 1 (.t 39)⟩),
       (3, 6, ⟨(some 41), none, .calcB .len [9] 3 [(.t 40)]⟩),
       (4, 0, ⟨(some 42), none, .fieldAddr 2 (.t 7)⟩),
       (5, 16, ⟨(some 43), none, .load true 3 (.t 42)⟩),
       (6, 48, ⟨(some 44), none, .call (.c (.func (.func 271) #[] #[])) [(.t 43)]⟩),
       (7, 126, ⟨(some 45), none, .bin .add 3 (.t 41) (.t 44)⟩),
       (8, 255, ⟨(some 46), none, .bin .add 3 (.t 38) (.t 45)⟩),
       (9, 511, ⟨(some 5), none, .move (.t 46)⟩)] (some [0, 5, 20, 21, 22]))
     .skip)))))
   (.ops [⟨(some 47), none, .bin .add 3 (.t 22) (.c (.int .i64 1))⟩,
     ⟨(some 22), none, .move (.t 47)⟩] (some [0, 5, 20, 21, 22]))))))))
 (.seq (.seq (.ops [⟨(some 48), none, .move (.t 5)⟩,
   ⟨(some 49), none, .move (.t 0)⟩,
   ⟨(some 50), none, .nilCheck (.t 49)⟩,
   ⟨(some 51), none, .fieldAddr 0 (.t 50)⟩,
   ⟨(some 52), none, .fieldAddr 2 (.t 51)⟩,
   ⟨(some 53), none, .load false 1 (.t 52)⟩,
   ⟨(some 54), none, .bin .gtr 3 (.t 48) (.t 53)⟩] (some [54]))
 (.cond (.t 54)
  (.seq (.ops [⟨(some 4), none, .move (.c (.int .i64 15))⟩] (some [4]))
  .ret)
  .skip))
 (.seq (.ops [⟨(some 4), none, .move (.c (.int .i64 0))⟩] (some [4]))
 .ret)))))), [.tmp 4]⟩

theorem is391 : FnIs Tryz.prog 391 x391 := ⟨Tryz.f391, _, Tryz.func391, by kernel_rfl, rfl, by kernel_rfl, by decide, by kernel_rfl⟩

/-- (*cloisonne/ring.Ring).Push -/
def x392 : XDecl := .code ⟨2, 
 (.seq (.ops [⟨(some 4), none, .move (.c (.int .i64 0))⟩,
   ⟨(some 5), none, .move (.c (.int .i64 0))⟩] (some [0, 1]))
 (.seq (.block 0
  (.seq (.ops [⟨(some 8), none, .move (.t 0)⟩,
    ⟨(some 9), none, .isNil .ptr false (.t 8)⟩,
    ⟨(some 7), none, .move (.t 9)⟩] (some [0, 1, 7]))
  (.cond (.t 7)
   (.seq (.ops [⟨(some 4), none, .move (.c (.int .i64 0))⟩,
     ⟨(some 5), none, .move (.c (.int .i64 2))⟩] (some [4, 5]))
   .ret)
   (.seq (.ops [⟨(some 11), none, .move (.t 1)⟩,
     ⟨(some 12), none, .move (.t 0)⟩,
     ⟨(some 13), none, .call (.c (.func (.func 446) #[] #[])) [(.t 12)]⟩,
     ⟨(some 14), none, .bin .leq 77 (.t 11) (.t 13)⟩,
     ⟨(some 10), none, .move (.t 14)⟩] (some [0, 1, 10]))
   (.cond (.t 10)
    (.seq (.ops [⟨(some 4), none, .move (.c (.int .i64 0))⟩,
      ⟨(some 5), none, .move (.c (.int .i64 1))⟩] (some [4, 5]))
    .ret)
    (.seq (.ops [⟨(some 16), none, .move (.t 0)⟩,
      ⟨(some 17), none, .nilCheck (.t 16)⟩,
      ⟨(some 18), none, .fieldAddr 2 (.t 17)⟩,
      ⟨(some 19), none, .load false 1 (.t 18)⟩,
      ⟨(some 20), none, .bin .geq 3 (.t 19) (.c (.int .i64 1073741824))⟩,
      ⟨(some 15), none, .move (.t 20)⟩] (some [0, 1, 15]))
    (.cond (.t 15)
     (.seq (.ops [⟨(some 4), none, .move (.c (.int .i64 0))⟩,
       ⟨(some 5), none, .move (.c (.int .i64 17))⟩] (some [4, 5]))
     .ret)
     .skip)))))))
 (.seq (.ops [⟨(some 21), none, .move (.t 0)⟩,
   ⟨(some 22), none, .nilCheck (.t 21)⟩,
   ⟨(some 23), none, .fieldAddr 2 (.t 22)⟩,
   ⟨(some 24), none, .load false 1 (.t 23)⟩,
   ⟨(some 25), none, .bin .add 3 (.t 24) (.c (.int .i64 1))⟩,
   ⟨(some 26), none, .nilCheck (.t 21)⟩,
   ⟨(some 27), none, .fieldAddr 2 (.t 26)⟩,
   ⟨none, none, .store 1 (.t 27) (.t 25)⟩] (some [0, 1]))
 (.seq (.ops [⟨(some 28), none, .move (.t 0)⟩,
   ⟨(some 29), none, .move (.t 0)⟩,
   ⟨(some 30), none, .nilCheck (.t 29)⟩,
   ⟨(some 31), none, .fieldAddr 3 (.t 30)⟩,
   ⟨(some 32), none, .load false 1 (.t 31)⟩,
   ⟨(some 33), none, .move (.t 1)⟩,
   ⟨(some 34), none, .buildSlice [(.int .u64 0)] 1 1 [(0, (.t 33))]⟩,
   ⟨(some 35), none, .append 1 8 [(.int .u64 0)] (.t 32) (.t 34)⟩,
   ⟨(some 36), none, .nilCheck (.t 28)⟩,
   ⟨(some 37), none, .fieldAddr 3 (.t 36)⟩,
   ⟨none, none, .store 1 (.t 37) (.t 35)⟩] (some [0]))
 (.seq (.seq (.opsr [⟨(some 38), none, .move (.t 0)⟩,
   ⟨(some 39), none, .nilCheck (.t 38)⟩,
   ⟨(some 40), none, .fieldAddr 3 (.t 39)⟩,
   ⟨(some 41), none, .load false 1 (.t 40)⟩,
   ⟨(some 42), none, .len (.t 41)⟩,
   ⟨(some 43), none, .move (.t 0)⟩,
   ⟨(some 44), none, .nilCheck (.t 43)⟩,
   ⟨(some 45), none, .fieldAddr 0 (.t 44)⟩,
   ⟨(some 46), none, .load false 1 (.t 45)⟩,
   ⟨(some 47), none, .bin .sub 3 (.t 42) (.t 46)⟩,
   ⟨(some 6), none, .move (.t 47)⟩] (some [0, 6]))
 (.seq (.ops [⟨(some 48), none, .move (.t 6)⟩,
   ⟨(some 49), none, .bin .gtr 3 (.t 48) (.c (.int .i64 0))⟩] (some [0, 6, 49]))
 (.cond (.t 49)
  (.ops [⟨(some 50), none, .move (.t 0)⟩,
    ⟨(some 51), none, .move (.t 0)⟩,
    ⟨(some 52), none, .nilCheck (.t 51)⟩,
    ⟨(some 53), none, .fieldAddr 3 (.t 52)⟩,
    ⟨(some 54), none, .load false 1 (.t 53)⟩,
    ⟨(some 55), none, .move (.t 6)⟩,
    ⟨(some 56), none, .call (.c (.func (.func 447) #[] #[])) [(.t 54), (.c (.int .i64 0)), (.t 55)]⟩,
    ⟨(some 57), none, .nilCheck (.t 50)⟩,
    ⟨(some 58), none, .fieldAddr 3 (.t 57)⟩,
    ⟨none, none, .store 1 (.t 58) (.t 56)⟩] (some [0]))
  .skip)))
 (.seq (.ops [⟨(some 59), none, .move (.t 0)⟩,
   ⟨(some 60), none, .nilCheck (.t 59)⟩,
   ⟨(some 61), none, .fieldAddr 2 (.t 60)⟩,
   ⟨(some 62), none, .load false 1 (.t 61)⟩,
   ⟨(some 4), none, .move (.t 62)⟩,
   ⟨(some 5), none, .move (.c (.int .i64 0))⟩] (some [4, 5]))
 .ret)))))), [.tmp 4, .tmp 5]⟩

theorem is392 : FnIs Tryz.prog 392 x392 := ⟨Tryz.f392, _, Tryz.func392, by kernel_rfl, rfl, by kernel_rfl, by decide, by kernel_rfl⟩

/-- cmp.isNaN[string] -/
def x399 : XDecl := .code ⟨1, 
 (.seq (.ops [⟨(some 2), none, .move (.c (.bool false))⟩] (some [0]))
 (.seq (.ops [⟨(some 3), none, .move (.t 0)⟩,
   ⟨(some 4), none, .move (.t 0)⟩,
   ⟨(some 5), none, .bin .neq 9 (.t 3) (.t 4)⟩,
   ⟨(some 2), none, .move (.t 5)⟩] (some [2]))
 .ret)), [.tmp 2]⟩

theorem is399 : FnIs Tryz.prog 399 x399 := ⟨Tryz.f399, _, Tryz.func399, by kernel_rfl, rfl, by kernel_rfl, by decide, by kernel_rfl⟩

/-- internal/stringslite.IndexByte -/
def x401 : XDecl := .code ⟨2, 
 (.seq (.ops [⟨(some 4), none, .move (.c (.int .i64 0))⟩] (some [0, 1]))
 (.seq (.ops [⟨(some 5), none, .move (.t 0)⟩,
   ⟨(some 6), none, .move (.t 1)⟩,
   ⟨(some 7), none, .call (.c (.func (.func 449) #[] #[])) [(.t 5), (.t 6)]⟩,
   ⟨(some 4), none, .move (.t 7)⟩] (some [4]))
 .ret)), [.tmp 4]⟩

theorem is401 : FnIs Tryz.prog 401 x401 := ⟨Tryz.f401, _, Tryz.func401, by kernel_rfl, rfl, by kernel_rfl, by decide, by kernel_rfl⟩

/-- internal/stringslite.HasPrefix -/
def x402 : XDecl := .code ⟨2, 
 (.seq (.ops [⟨(some 4), none, .move (.c (.bool false))⟩] (some [0, 1]))
 (.seq (.ops [⟨(some 5), none, .move (.t 0)⟩,
   ⟨(some 6), none, .calcB .len [9] 3 [(.t 5)]⟩,
   ⟨(some 7), none, .move (.t 1)⟩,
   ⟨(some 8), none, .calcB .len [9] 3 [(.t 7)]⟩,
   ⟨(some 9), none, .bin .geq 3 (.t 6) (.t 8)⟩,
   ⟨(some 10), none, .move (.t 9)⟩,
   ⟨(some 11), (some (10, true)), .move (.t 0)⟩,
   ⟨(some 12), (some (10, true)), .move (.t 1)⟩,
   ⟨(some 13), (some (10, true)), .calcB .len [9] 3 [(.t 12)]⟩,
   ⟨(some 14), (some (10, true)), .substr 9 (.t 11) none (some (.t 13))⟩,
   ⟨(some 15), (some (10, true)), .move (.t 1)⟩,
   ⟨(some 16), (some (10, true)), .bin .eql 9 (.t 14) (.t 15)⟩,
   ⟨(some 17), none, .pick (.t 10) (.t 16) (.c (.bool false))⟩,
   ⟨(some 4), none, .move (.t 17)⟩] (some [4]))
 .ret)), [.tmp 4]⟩

theorem is402 : FnIs Tryz.prog 402 x402 := ⟨Tryz.f402, _, Tryz.func402, by kernel_rfl, rfl, by kernel_rfl, by decide, by kernel_rfl⟩

/-- (*cloisonne/caps.Table).Clear -/
def x403 : XDecl := .code ⟨4, 
 (.seq (.ops [⟨(some 6), none, .box (.t 2)⟩,
   ⟨(some 8), none, .move (.c (.bool false))⟩] (some [0, 1, 3, 6]))
 (.seq (.seq (.ops [⟨(some 10), none, .move (.t 0)⟩,
   ⟨(some 11), none, .move (.t 1)⟩,
   ⟨(some 12), none, .call (.c (.func (.func 409) #[] #[])) [(.t 10), (.t 11)]⟩,
   ⟨(some 13), none, .un .not (.t 12)⟩] (some [0, 1, 3, 6, 13]))
 (.cond (.t 13)
  (.seq (.ops [⟨(some 8), none, .move (.c (.bool false))⟩] (some [8]))
  .ret)
  .skip))
 (.seq (.ops [⟨(some 14), none, .move (.t 0)⟩,
   ⟨(some 15), none, .nilCheck (.t 14)⟩,
   ⟨(some 16), none, .fieldAddr 1 (.t 15)⟩,
   ⟨(some 17), none, .load false 1 (.t 16)⟩,
   ⟨(some 18), none, .move (.t 1)⟩,
   ⟨(some 19), none, .indexAddr 2 (.t 17) (.t 18)⟩,
   ⟨(some 20), none, .fieldAddr 0 (.t 19)⟩,
   ⟨(some 21), none, .load false 1 (.t 20)⟩,
   ⟨(some 9), none, .alloc [(.int .u64 0)]⟩,
   ⟨none, none, .store 1 (.t 9) (.t 21)⟩] (some [3, 6, 9]))
 (.seq (.ops [⟨(some 22), none, .move (.t 3)⟩,
   ⟨(some 23), none, .makeFunc (.func 450) [] [(.t 9), (.t 6)]⟩,
   ⟨(some 24), none, .call (.c (.func (.func 404) #[] #[])) [(.t 22), (.t 23)]⟩,
   ⟨(some 25), none, .un .not (.t 24)⟩,
   ⟨(some 8), none, .move (.t 25)⟩] (some [8]))
 .ret)))), [.tmp 8]⟩

theorem is403 : FnIs Tryz.prog 403 x403 := ⟨Tryz.f403, _, Tryz.func403, by kernel_rfl, rfl, by kernel_rfl, by decide, by kernel_rfl⟩

/-- slices.ContainsFunc[[]uint64,uint64] -/
def x404 : XDecl := .code ⟨2, 
 (.seq (.ops [⟨(some 4), none, .move (.c (.bool false))⟩] (some [0, 1]))
 (.seq (.ops [⟨(some 5), none, .move (.t 0)⟩,
   ⟨(some 6), none, .move (.t 1)⟩,
   ⟨(some 7), none, .call (.c (.func (.func 451) #[] #[])) [(.t 5), (.t 6)]⟩,
   ⟨(some 8), none, .bin .geq 3 (.t 7) (.c (.int .i64 0))⟩,
   ⟨(some 4), none, .move (.t 8)⟩] (some [4]))
 .ret)), [.tmp 4]⟩

theorem is404 : FnIs Tryz.prog 404 x404 := ⟨Tryz.f404, _, Tryz.func404, by kernel_rfl, rfl, by kernel_rfl, by decide, by kernel_rfl⟩

/-- (*cloisonne/caps.Table).one -/
def x409 : XDecl := .code ⟨2, 
 (.seq (.ops [⟨(some 4), none, .move (.c (.bool false))⟩] (some [0, 1]))
 (.seq (.ops [⟨(some 5), none, .move (.t 0)⟩,
   ⟨(some 6), none, .isNil .ptr true (.t 5)⟩,
   ⟨(some 7), none, .move (.t 6)⟩,
   ⟨(some 8), (some (7, true)), .move (.t 1)⟩,
   ⟨(some 9), (some (7, true)), .bin .geq 3 (.t 8) (.c (.int .i64 0))⟩,
   ⟨(some 10), none, .pick (.t 7) (.t 9) (.c (.bool false))⟩,
   ⟨(some 11), none, .move (.t 10)⟩,
   ⟨(some 12), (some (11, true)), .move (.t 1)⟩,
   ⟨(some 13), (some (11, true)), .move (.t 0)⟩,
   ⟨(some 14), (some (11, true)), .nilCheck (.t 13)⟩,
   ⟨(some 15), (some (11, true)), .fieldAddr 1 (.t 14)⟩,
   ⟨(some 16), (some (11, true)), .load false 1 (.t 15)⟩,
   ⟨(some 17), (some (11, true)), .len (.t 16)⟩,
   ⟨(some 18), (some (11, true)), .bin .lss 3 (.t 12) (.t 17)⟩,
   ⟨(some 19), none, .pick (.t 11) (.t 18) (.c (.bool false))⟩,
   ⟨(some 4), none, .move (.t 19)⟩] (some [4]))
 .ret)), [.tmp 4]⟩

theorem is409 : FnIs Tryz.prog 409 x409 := ⟨Tryz.f409, _, Tryz.func409, by kernel_rfl, rfl, by kernel_rfl, by decide, by kernel_rfl⟩

/-- (*cloisonne/ring.Ring).AsOf -/
def x412 : XDecl := .code ⟨2, 
 (.seq (.ops [⟨(some 4), none, .move (.c (.int .i64 0))⟩,
   ⟨(some 5), none, .move (.c (.int .i64 0))⟩] (some [0, 1]))
 (.seq (.seq (.ops [⟨(some 9), none, .move (.t 0)⟩,
   ⟨(some 10), none, .isNil .ptr false (.t 9)⟩] (some [0, 1, 10]))
 (.cond (.t 10)
  (.seq (.ops [⟨(some 4), none, .move (.c (.int .i64 0))⟩,
    ⟨(some 5), none, .move (.c (.int .i64 2))⟩] (some [4, 5]))
  .ret)
  .skip))
 (.seq (.ops [⟨(some 12), none, .move (.t 0)⟩,
   ⟨(some 13), none, .nilCheck (.t 12)⟩,
   ⟨(some 14), none, .fieldAddr 3 (.t 13)⟩,
   ⟨(some 15), none, .load false 1 (.t 14)⟩,
   ⟨(some 16), none, .move (.t 1)⟩,
   ⟨(some 17), none, .call (.c (.func (.func 458) #[] #[])) [(.t 15), (.t 16)]⟩,
   ⟨(some 11), none, .move (.t 17)⟩,
   ⟨(some 18), none, .extract (.t 11) 0⟩,
   ⟨(some 19), none, .extract (.t 11) 1⟩,
   ⟨(some 6), none, .move (.t 18)⟩,
   ⟨(some 7), none, .move (.t 19)⟩] (some [0, 6, 7]))
 (.seq (.seq (.ops [⟨(some 20), none, .move (.t 7)⟩] (some [0, 6, 20]))
 (.cond (.t 20)
  (.ops [⟨(some 21), none, .move (.t 6)⟩,
    ⟨(some 22), none, .bin .add 3 (.t 21) (.c (.int .i64 1))⟩,
    ⟨(some 6), none, .move (.t 22)⟩] (some [0, 6]))
  .skip))
 (.seq (.opsr [⟨(some 23), none, .move (.t 0)⟩,
   ⟨(some 24), none, .nilCheck (.t 23)⟩,
   ⟨(some 25), none, .fieldAddr 2 (.t 24)⟩,
   ⟨(some 26), none, .load false 1 (.t 25)⟩,
   ⟨(some 27), none, .move (.t 0)⟩,
   ⟨(some 28), none, .nilCheck (.t 27)⟩,
   ⟨(some 29), none, .fieldAddr 3 (.t 28)⟩,
   ⟨(some 30), none, .load false 1 (.t 29)⟩,
   ⟨(some 31), none, .len (.t 30)⟩,
   ⟨(some 32), none, .bin .sub 3 (.t 26) (.t 31)⟩,
   ⟨(some 33), none, .move (.t 6)⟩,
   ⟨(some 34), none, .bin .add 3 (.t 32) (.t 33)⟩,
   ⟨(some 8), none, .move (.t 34)⟩] (some [0, 8]))
 (.seq (.seq (.ops [⟨(some 35), none, .move (.t 8)⟩,
   ⟨(some 36), none, .move (.t 0)⟩,
   ⟨(some 37), none, .call (.c (.func (.func 144) #[] #[])) [(.t 36)]⟩,
   ⟨(some 38), none, .bin .lss 3 (.t 35) (.t 37)⟩] (some [8, 38]))
 (.cond (.t 38)
  (.seq (.ops [⟨(some 4), none, .move (.c (.int .i64 0))⟩,
    ⟨(some 5), none, .move (.c (.int .i64 14))⟩] (some [4, 5]))
  .ret)
  .skip))
 (.seq (.ops [⟨(some 39), none, .move (.t 8)⟩,
   ⟨(some 4), none, .move (.t 39)⟩,
   ⟨(some 5), none, .move (.c (.int .i64 0))⟩] (some [4, 5]))
 .ret))))))), [.tmp 4, .tmp 5]⟩

theorem is412 : FnIs Tryz.prog 412 x412 := ⟨Tryz.f412, _, Tryz.func412, by kernel_rfl, rfl, by kernel_rfl, by decide, by kernel_rfl⟩

/-- (*cloisonne/sess.Session).labelOf -/
def x418 : XDecl := .code ⟨2, 
 (.seq (.ops [⟨(some 4), none, .move (.c (.slice none 0 0))⟩,
   ⟨(some 5), none, .move (.c (.bool false))⟩] (some [0, 1]))
 (.seq (.ops [⟨(some 7), none, .move (.t 0)⟩,
   ⟨(some 8), none, .nilCheck (.t 7)⟩,
   ⟨(some 9), none, .fieldAddr 0 (.t 8)⟩,
   ⟨(some 10), none, .load false 1 (.t 9)⟩,
   ⟨(some 11), none, .move (.t 1)⟩,
   ⟨(some 12), none, .call (.c (.func (.func 44) #[] #[])) [(.t 10), (.t 11)]⟩,
   ⟨(some 6), none, .move (.t 12)⟩] (some [6]))
 (.seq (.ops [⟨(some 13), none, .move (.t 6)⟩,
   ⟨(some 14), none, .call (.c (.func (.func 230) #[] #[])) [(.t 13)]⟩,
   ⟨(some 15), none, .field false 0 1 (.t 14)⟩,
   ⟨(some 16), none, .move (.t 6)⟩,
   ⟨(some 17), none, .isNil .ptr true (.t 16)⟩,
   ⟨(some 4), none, .move (.t 15)⟩,
   ⟨(some 5), none, .move (.t 17)⟩] (some [4, 5]))
 .ret))), [.tmp 4, .tmp 5]⟩

theorem is418 : FnIs Tryz.prog 418 x418 := ⟨Tryz.f418, _, Tryz.func418, by kernel_rfl, rfl, by kernel_rfl, by decide, by kernel_rfl⟩

/-- (*cloisonne/wset.Set).Get -/
def x419 : XDecl := .code ⟨2, 
 (.seq (.ops [⟨(some 4), none, .alloc [(.string .empty), (.bool false), (.bool false), (.string .empty), (.int .u64 0)]⟩,
   ⟨(some 5), none, .move (.c (.bool false))⟩] (some [0, 1, 4]))
 (.seq (.seq (.ops [⟨(some 8), none, .move (.t 0)⟩,
   ⟨(some 9), none, .isNil .ptr false (.t 8)⟩] (some [0, 1, 4, 9]))
 (.cond (.t 9)
  (.seq (.ops [⟨(some 10), none, .build [(.string .empty), (.bool false), (.bool false), (.string .empty), (.int .u64 0)] [(0, 1), (1, 1), (2, 3)] []⟩,
    ⟨none, none, .store 5 (.t 4) (.t 10)⟩,
    ⟨(some 5), none, .move (.c (.bool false))⟩] (some [4, 5]))
  .ret)
  .skip))
 (.seq (.ops [⟨(some 12), none, .move (.t 0)⟩,
   ⟨(some 13), none, .move (.t 1)⟩,
   ⟨(some 14), none, .call (.c (.func (.func 463) #[] #[])) [(.t 12), (.t 13)]⟩,
   ⟨(some 11), none, .move (.t 14)⟩,
   ⟨(some 15), none, .extract (.t 11) 0⟩,
   ⟨(some 16), none, .extract (.t 11) 1⟩,
   ⟨(some 6), none, .move (.t 15)⟩,
   ⟨(some 7), none, .move (.t 16)⟩] (some [0, 4, 6, 7]))
 (.seq (.seq (.ops [⟨(some 17), none, .move (.t 7)⟩,
   ⟨(some 18), none, .un .not (.t 17)⟩] (some [0, 4, 6, 18]))
 (.cond (.t 18)
  (.seq (.ops [⟨(some 19), none, .build [(.string .empty), (.bool false), (.bool false), (.string .empty), (.int .u64 0)] [(0, 1), (1, 1), (2, 3)] []⟩,
    ⟨none, none, .store 5 (.t 4) (.t 19)⟩,
    ⟨(some 5), none, .move (.c (.bool false))⟩] (some [4, 5]))
  .ret)
  .skip))
 (.seq (.ops [⟨(some 20), none, .move (.t 0)⟩,
   ⟨(some 21), none, .nilCheck (.t 20)⟩,
   ⟨(some 22), none, .fieldAddr 0 (.t 21)⟩,
   ⟨(some 23), none, .load false 1 (.t 22)⟩,
   ⟨(some 24), none, .move (.t 6)⟩,
   ⟨(some 25), none, .indexAddr 5 (.t 23) (.t 24)⟩,
   ⟨(some 26), none, .load true 5 (.t 25)⟩,
   ⟨none, none, .store 5 (.t 4) (.t 26)⟩,
   ⟨(some 5), none, .move (.c (.bool true))⟩] (some [4, 5]))
 .ret))))), [.cell true 5 4, .tmp 5]⟩

theorem is419 : FnIs Tryz.prog 419 x419 := ⟨Tryz.f419, _, Tryz.func419, by kernel_rfl, rfl, by kernel_rfl, by decide, by kernel_rfl⟩

/-- (*cloisonne/wset.Set).write -/
def x421 : XDecl := .code ⟨2, 
 (.seq (.ops [⟨(some 3), none, .box (.t 1)⟩,
   ⟨(some 4), none, .move (.c (.int .i64 0))⟩] (some [0, 3]))
 (.seq (.seq (.ops [⟨(some 7), none, .move (.t 0)⟩,
   ⟨(some 8), none, .isNil .ptr false (.t 7)⟩] (some [0, 3, 8]))
 (.cond (.t 8)
  (.seq (.ops [⟨(some 4), none, .move (.c (.int .i64 2))⟩] (some [4]))
  .ret)
  .skip))
 (.seq (.seq (.ops [⟨(some 9), none, .fieldAddr 0 (.t 3)⟩,
   ⟨(some 10), none, .load false 1 (.t 9)⟩,
   ⟨(some 11), none, .bin .eql 9 (.t 10) (.c (.string .empty))⟩,
   ⟨(some 12), none, .move (.t 11)⟩,
   ⟨(some 13), (some (12, false)), .fieldAddr 0 (.t 3)⟩,
   ⟨(some 14), (some (12, false)), .load false 1 (.t 13)⟩,
   ⟨(some 15), (some (12, false)), .calcB .len [9] 3 [(.t 14)]⟩,
   ⟨(some 16), (some (12, false)), .bin .gtr 3 (.t 15) (.c (.int .i64 32))⟩,
   ⟨(some 17), none, .pick (.t 12) (.c (.bool true)) (.t 16)⟩,
   ⟨(some 18), none, .move (.t 17)⟩,
   ⟨(some 19), (some (18, false)), .fieldAddr 2 (.t 3)⟩,
   ⟨(some 20), (some (18, false)), .load true 3 (.t 19)⟩,
   ⟨(some 21), (some (18, false)), .call (.c (.func (.func 116) #[] #[])) [(.t 20)]⟩,
   ⟨(some 22), (some (18, false)), .un .not (.t 21)⟩,
   ⟨(some 23), none, .pick (.t 18) (.c (.bool true)) (.t 22)⟩] (some [0, 3, 23]))
 (.cond (.t 23)
  (.seq (.ops [⟨(some 4), none, .move (.c (.int .i64 1))⟩] (some [4]))
  .ret)
  .skip))
 (.seq (.ops [⟨(some 25), none, .move (.t 0)⟩,
   ⟨(some 26), none, .fieldAddr 0 (.t 3)⟩,
   ⟨(some 27), none, .load false 1 (.t 26)⟩,
   ⟨(some 28), none, .call (.c (.func (.func 419) #[] #[])) [(.t 25), (.t 27)]⟩,
   ⟨(some 24), none, .move (.t 28)⟩,
   ⟨(some 29), none, .extract (.t 24) 0⟩,
   ⟨(some 30), none, .extract (.t 24) 1⟩,
   ⟨(some 5), none, .alloc [(.string .empty), (.bool false), (.bool false), (.string .empty), (.int .u64 0)]⟩,
   ⟨none, none, .store 5 (.t 5) (.t 29)⟩,
   ⟨(some 6), none, .move (.t 30)⟩] (some [0, 3, 5, 6]))
 (.seq (.seq (.ops [⟨(some 31), none, .move (.t 6)⟩,
   ⟨(some 32), none, .un .not (.t 31)⟩,
   ⟨(some 33), none, .move (.t 32)⟩,
   ⟨(some 34), (some (33, true)), .move (.t 0)⟩,
   ⟨(some 35), (some (33, true)), .nilCheck (.t 34)⟩,
   ⟨(some 36), (some (33, true)), .fieldAddr 0 (.t 35)⟩,
   ⟨(some 37), (some (33, true)), .load false 1 (.t 36)⟩,
   ⟨(some 38), (some (33, true)), .len (.t 37)⟩,
   ⟨(some 39), (some (33, true)), .bin .geq 3 (.t 38) (.c (.int .i64 16))⟩,
   ⟨(some 40), none, .pick (.t 33) (.t 39) (.c (.bool false))⟩] (some [0, 3, 5, 6, 40]))
 (.cond (.t 40)
  (.seq (.ops [⟨(some 4), none, .move (.c (.int .i64 18))⟩] (some [4]))
  .ret)
  .skip))
 (.seq (.seq (.ops [⟨(some 41), none, .move (.t 0)⟩,
   ⟨(some 42), none, .nilCheck (.t 41)⟩,
   ⟨(some 43), none, .fieldAddr 2 (.t 42)⟩,
   ⟨(some 44), none, .load false 1 (.t 43)⟩,
   ⟨(some 45), none, .len (.t 44)⟩,
   ⟨(some 46), none, .bin .gtr 3 (.t 45) (.c (.int .i64 0))⟩] (some [0, 3, 5, 6, 46]))
 (.cond (.t 46)
  (.opsd [(0, 0, ⟨(some 47), none, .move (.t 0)⟩),
    (1, 0, ⟨(some 48), none, .move (.t 0)⟩),
    (2, 2, ⟨(some 49), none, .nilCheck (.t 48)⟩),
    (3, 6, ⟨(some 50), none, .fieldAddr 1 (.t 49)⟩),
    (4, 14, ⟨(some 51), none, .load false 1 (.t 50)⟩),
    (5, 0, ⟨(some 52), none, .fieldAddr 0 (.t 3)⟩),
    (6, 32, ⟨(some 53), none, .load false 1 (.t 52)⟩),
    (7, 0, ⟨(some 54), none, .load true 5 (.t 5)⟩),
    (8, 0, ⟨(some 55), none, .move (.t 6)⟩),
    (9, 480, ⟨(some 56), none, .build [(.string .empty), (.string .empty), (.bool false), (.bool false), (.string .empty), (.int .u64 0), (.bool false)] [(0, 1), (1, 5), (6, 1)] [(0, (.t 53)), (1, (.t 54)), (2, (.t 55))]⟩),
    (10, 992, ⟨(some 57), none, .buildSlice [(.string .empty), (.string .empty), (.bool false), (.bool false), (.string .empty), (.int .u64 0), (.bool false)] 7 1 [(0, (.t 56))]⟩),
    (11, 2046, ⟨(some 58), none, .append 7 80 [(.string .empty), (.string .empty), (.bool false), (.bool false), (.string .empty), (.int .u64 0), (.bool false)] (.t 51) (.t 57)⟩),
    (12, 4095, ⟨(some 59), none, .nilCheck (.t 47)⟩),
    (13, 8191, ⟨(some 60), none, .fieldAddr 1 (.t 59)⟩),
    (14, 16383, ⟨none, none, .store 1 (.t 60) (.t 58)⟩)] (some [0, 3]))
  .skip))
 (.seq (.ops [⟨(some 61), none, .move (.t 0)⟩,
   ⟨(some 62), none, .load true 5 (.t 3)⟩,
   ⟨(some 63), none, .call (.c (.func (.func 423) #[] #[])) [(.t 61), (.t 62), (.c (.bool true))]⟩] (some []))
 (.seq (.ops [⟨(some 4), none, .move (.c (.int .i64 0))⟩] (some [4]))
 .ret)))))))), [.tmp 4]⟩

theorem is421 : FnIs Tryz.prog 421 x421 := ⟨Tryz.f421, _, Tryz.func421, by kernel_rfl, rfl, by kernel_rfl, by decide, by kernel_rfl⟩

/-- (*cloisonne/wset.Set).lay -/
def x423 : XDecl := .code ⟨3, 
 (.seq (.ops [⟨(some 4), none, .box (.t 1)⟩] (some [0, 2, 4]))
 (.seq (.ops [⟨(some 9), none, .move (.t 0)⟩,
   ⟨(some 10), none, .fieldAddr 0 (.t 4)⟩,
   ⟨(some 11), none, .load false 1 (.t 10)⟩,
   ⟨(some 12), none, .call (.c (.func (.func 463) #[] #[])) [(.t 9), (.t 11)]⟩,
   ⟨(some 8), none, .move (.t 12)⟩,
   ⟨(some 13), none, .extract (.t 8) 0⟩,
   ⟨(some 14), none, .extract (.t 8) 1⟩,
   ⟨(some 6), none, .move (.t 13)⟩,
   ⟨(some 7), none, .move (.t 14)⟩] (some [0, 2, 4, 6, 7]))
 (.block 0
  (.seq (.ops [⟨(some 16), none, .move (.t 7)⟩,
    ⟨(some 17), none, .move (.t 16)⟩,
    ⟨(some 18), (some (17, true)), .move (.t 2)⟩,
    ⟨(some 19), none, .pick (.t 17) (.t 18) (.c (.bool false))⟩,
    ⟨(some 15), none, .move (.t 19)⟩] (some [0, 2, 4, 6, 7, 15]))
  (.cond (.t 15)
   (.opsd [(0, 0, ⟨(some 20), none, .move (.t 0)⟩),
     (1, 1, ⟨(some 21), none, .nilCheck (.t 20)⟩),
     (2, 3, ⟨(some 22), none, .fieldAddr 0 (.t 21)⟩),
     (3, 7, ⟨(some 23), none, .load false 1 (.t 22)⟩),
     (4, 0, ⟨(some 24), none, .move (.t 6)⟩),
     (5, 0, ⟨(some 25), none, .load true 5 (.t 4)⟩),
     (6, 63, ⟨(some 26), none, .indexAddr 5 (.t 23) (.t 24)⟩),
     (7, 127, ⟨none, none, .store 5 (.t 26) (.t 25)⟩)] (some []))
   (.seq (.ops [⟨(some 28), none, .move (.t 7)⟩,
     ⟨(some 27), none, .move (.t 28)⟩] (some [0, 2, 4, 6, 27]))
   (.cond (.t 27)
    (.ops [⟨(some 29), none, .move (.t 0)⟩,
      ⟨(some 30), none, .move (.t 0)⟩,
      ⟨(some 31), none, .nilCheck (.t 30)⟩,
      ⟨(some 32), none, .fieldAddr 0 (.t 31)⟩,
      ⟨(some 33), none, .load false 1 (.t 32)⟩,
      ⟨(some 34), none, .move (.t 6)⟩,
      ⟨(some 35), none, .move (.t 6)⟩,
      ⟨(some 36), none, .bin .add 3 (.t 35) (.c (.int .i64 1))⟩,
      ⟨(some 37), none, .call (.c (.func (.func 465) #[] #[])) [(.t 33), (.t 34), (.t 36)]⟩,
      ⟨(some 38), none, .nilCheck (.t 29)⟩,
      ⟨(some 39), none, .fieldAddr 0 (.t 38)⟩,
      ⟨none, none, .store 1 (.t 39) (.t 37)⟩] (some []))
    (.seq (.ops [⟨(some 41), none, .move (.t 2)⟩,
      ⟨(some 40), none, .move (.t 41)⟩] (some [0, 4, 6, 40]))
    (.cond (.t 40)
     (.opsd [(0, 0, ⟨(some 42), none, .move (.t 0)⟩),
       (1, 0, ⟨(some 43), none, .move (.t 0)⟩),
       (2, 2, ⟨(some 44), none, .nilCheck (.t 43)⟩),
       (3, 6, ⟨(some 45), none, .fieldAddr 0 (.t 44)⟩),
       (4, 14, ⟨(some 46), none, .load false 1 (.t 45)⟩),
       (5, 0, ⟨(some 47), none, .move (.t 6)⟩),
       (6, 0, ⟨(some 48), none, .load true 5 (.t 4)⟩),
       (7, 64, ⟨(some 49), none, .buildSlice [(.string .empty), (.bool false), (.bool false), (.string .empty), (.int .u64 0)] 5 1 [(0, (.t 48))]⟩),
       (8, 254, ⟨(some 50), none, .call (.c (.func (.func 466) #[] #[])) [(.t 46), (.t 47), (.t 49)]⟩),
       (9, 511, ⟨(some 51), none, .nilCheck (.t 42)⟩),
       (10, 1023, ⟨(some 52), none, .fieldAddr 0 (.t 51)⟩),
       (11, 2047, ⟨none, none, .store 1 (.t 52) (.t 50)⟩)] (some []))
     .skip))))))))), []⟩

theorem is423 : FnIs Tryz.prog 423 x423 := ⟨Tryz.f423, _, Tryz.func423, by kernel_rfl, rfl, by kernel_rfl, by decide, by kernel_rfl⟩

/-- cloisonne/sector.Right -/
def x428 : XDecl := .code ⟨1, 
 (.seq (.ops [⟨(some 1), none, .box (.t 0)⟩,
   ⟨(some 2), none, .move (.c (.bool false))⟩] (some [1]))
 (.seq (.ops [⟨(some 3), none, .fieldAddr 0 (.t 1)⟩,
   ⟨(some 4), none, .load false 1 (.t 3)⟩,
   ⟨(some 5), none, .call (.c (.func (.func 469) #[] #[])) [(.t 4), (.c (.int .i64 1)), (.c (.int .i64 2147483647))]⟩,
   ⟨(some 6), none, .move (.t 5)⟩,
   ⟨(some 7), (some (6, true)), .fieldAddr 2 (.t 1)⟩,
   ⟨(some 8), (some (6, true)), .load false 1 (.t 7)⟩,
   ⟨(some 9), (some (6, true)), .call (.c (.func (.func 469) #[] #[])) [(.t 8), (.c (.int .i64 1)), (.c (.int .i64 2147483647))]⟩,
   ⟨(some 10), none, .pick (.t 6) (.t 9) (.c (.bool false))⟩,
   ⟨(some 11), none, .move (.t 10)⟩,
   ⟨(some 12), (some (11, true)), .fieldAddr 1 (.t 1)⟩,
   ⟨(some 13), (some (11, true)), .load false 1 (.t 12)⟩,
   ⟨(some 14), (some (11, true)), .call (.c (.func (.func 469) #[] #[])) [(.t 13), (.c (.int .i64 0)), (.c (.int .i64 127))]⟩,
   ⟨(some 15), none, .pick (.t 11) (.t 14) (.c (.bool false))⟩,
   ⟨(some 16), none, .move (.t 15)⟩,
   ⟨(some 17), (some (16, true)), .fieldAddr 4 (.t 1)⟩,
   ⟨(some 18), (some (16, true)), .load false 1 (.t 17)⟩,
   ⟨(some 19), (some (16, true)), .call (.c (.func (.func 469) #[] #[])) [(.t 18), (.c (.int .i64 1)), (.c (.int .i64 128))]⟩,
   ⟨(some 20), none, .pick (.t 16) (.t 19) (.c (.bool false))⟩,
   ⟨(some 21), none, .move (.t 20)⟩,
   ⟨(some 22), (some (21, true)), .fieldAddr 3 (.t 1)⟩,
   ⟨(some 23), (some (21, true)), .load false 1 (.t 22)⟩,
   ⟨(some 24), (some (21, true)), .fieldAddr 4 (.t 1)⟩,
   ⟨(some 25), (some (21, true)), .load false 1 (.t 24)⟩,
   ⟨(some 26), (some (21, true)), .bin .sub 3 (.t 25) (.c (.int .i64 1))⟩,
   ⟨(some 27), (some (21, true)), .call (.c (.func (.func 469) #[] #[])) [(.t 23), (.c (.int .i64 0)), (.t 26)]⟩,
   ⟨(some 28), none, .pick (.t 21) (.t 27) (.c (.bool false))⟩,
   ⟨(some 2), none, .move (.t 28)⟩] (some [2]))
 .ret)), [.tmp 2]⟩

theorem is428 : FnIs Tryz.prog 428 x428 := ⟨Tryz.f428, _, Tryz.func428, by kernel_rfl, rfl, by kernel_rfl, by decide, by kernel_rfl⟩

/-- cloisonne/sector.put -/
def x429 : XDecl := .code ⟨3, 
 (.seq (.ops [⟨(some 6), none, .move (.c (.slice none 0 0))⟩] (some [0, 1, 2]))
 (.seq (.seq (.ops [⟨(some 8), none, .move (.t 2)⟩,
   ⟨(some 9), none, .bin .sub 3 (.t 8) (.c (.int .i64 1))⟩,
   ⟨(some 7), none, .move (.t 9)⟩] (some [0, 1, 7]))
 (.block 0
  (.loop
   (.seq (.seq (.ops [⟨(some 10), none, .move (.t 7)⟩,
     ⟨(some 11), none, .bin .geq 3 (.t 10) (.c (.int .i64 0))⟩] (some [0, 1, 7, 11]))
   (.cond (.t 11)
    .skip
    (.exit 0)))
   (.seq (.block 1
    (.ops [⟨(some 14), none, .move (.t 0)⟩,
      ⟨(some 15), none, .move (.t 1)⟩,
      ⟨(some 16), none, .move (.t 7)⟩,
      ⟨(some 17), none, .bin .mul 3 (.c (.int .i64 8)) (.t 16)⟩,
      ⟨(some 18), none, .bin .shr 3 (.t 15) (.t 17)⟩,
      ⟨(some 19), none, .conv 3 5 (.t 18)⟩,
      ⟨(some 20), none, .buildSlice [(.int .u8 0)] 1 1 [(0, (.t 19))]⟩,
      ⟨(some 21), none, .append 1 1 [(.int .u8 0)] (.t 14) (.t 20)⟩,
      ⟨(some 0), none, .move (.t 21)⟩] (some [0, 1, 7])))
   (.ops [⟨(some 12), none, .move (.t 7)⟩,
     ⟨(some 13), none, .bin .sub 3 (.t 12) (.c (.int .i64 1))⟩,
     ⟨(some 7), none, .move (.t 13)⟩] (some [0, 1, 7])))))))
 (.seq (.ops [⟨(some 22), none, .move (.t 0)⟩,
   ⟨(some 6), none, .move (.t 22)⟩] (some [6]))
 .ret))), [.tmp 6]⟩

theorem is429 : FnIs Tryz.prog 429 x429 := ⟨Tryz.f429, _, Tryz.func429, by kernel_rfl, rfl, by kernel_rfl, by decide, by kernel_rfl⟩

/-- cmp.isNaN[uint64] -/
def x430 : XDecl := .code ⟨1, 
 (.seq (.ops [⟨(some 2), none, .move (.c (.bool false))⟩] (some [0]))
 (.seq (.ops [⟨(some 3), none, .move (.t 0)⟩,
   ⟨(some 4), none, .move (.t 0)⟩,
   ⟨(some 5), none, .bin .neq 77 (.t 3) (.t 4)⟩,
   ⟨(some 2), none, .move (.t 5)⟩] (some [2]))
 .ret)), [.tmp 2]⟩

theorem is430 : FnIs Tryz.prog 430 x430 := ⟨Tryz.f430, _, Tryz.func430, by kernel_rfl, rfl, by kernel_rfl, by decide, by kernel_rfl⟩

/-- cloisonne/sector.Count -/
def x436 : XDecl := .code ⟨1, 
 (.seq (.ops [⟨(some 2), none, .move (.c (.int .i64 0))⟩] (some [0]))
 (.seq (.seq (.ops [⟨(some 3), none, .move (.t 0)⟩,
   ⟨(some 4), none, .bin .lss 3 (.t 3) (.c (.int .i64 0))⟩] (some [0, 4]))
 (.cond (.t 4)
  (.seq (.ops [⟨(some 2), none, .move (.c (.int .i64 0))⟩] (some [2]))
  .ret)
  .skip))
 (.seq (.ops [⟨(some 5), none, .move (.t 0)⟩,
   ⟨(some 6), none, .bin .sub 3 (.t 5) (.c (.int .i64 1))⟩,
   ⟨(some 7), none, .bin .quo 3 (.t 6) (.c (.int .i64 50))⟩,
   ⟨(some 8), none, .bin .add 3 (.t 7) (.c (.int .i64 1))⟩,
   ⟨(some 9), none, .calcB .max [3, 3] 3 [(.c (.int .i64 1)), (.t 8)]⟩,
   ⟨(some 2), none, .move (.t 9)⟩] (some [2]))
 .ret))), [.tmp 2]⟩

theorem is436 : FnIs Tryz.prog 436 x436 := ⟨Tryz.f436, _, Tryz.func436, by kernel_rfl, rfl, by kernel_rfl, by decide, by kernel_rfl⟩

/-- cloisonne/chain.Add -/
def x444 : XDecl := .code ⟨2, 
 (.seq (.ops [⟨(some 3), none, .box (.t 1)⟩,
   ⟨(some 4), none, .move (.c (.slice none 0 0))⟩,
   ⟨(some 5), none, .move (.c (.int .i64 0))⟩] (some [0, 3]))
 (.seq (.opsd [(0, 0, ⟨(some 7), none, .move (.t 0)⟩),
   (2, 0, ⟨(some 9), none, .load true 5 (.t 3)⟩),
   (3, 4, ⟨(some 10), none, .buildSlice [(.int .i64 0), (.bool false), (.bool false), (.string .empty), (.int .u64 0)] 5 1 [(0, (.t 9))]⟩),
   (1, 1, ⟨(some 8), none, .call (.c (.func (.func 148) #[] #[])) [(.t 7)]⟩),
   (4, 15, ⟨(some 11), none, .append 5 48 [(.int .i64 0), (.bool false), (.bool false), (.string .empty), (.int .u64 0)] (.t 8) (.t 10)⟩),
   (5, 31, ⟨(some 6), none, .move (.t 11)⟩)] (some [6]))
 (.seq (.seq (.ops [⟨(some 12), none, .move (.t 6)⟩,
   ⟨(some 13), none, .call (.c (.func (.func 142) #[] #[])) [(.t 12)]⟩,
   ⟨(some 14), none, .un .not (.t 13)⟩] (some [6, 14]))
 (.cond (.t 14)
  (.seq (.ops [⟨(some 4), none, .move (.c (.slice none 0 0))⟩,
    ⟨(some 5), none, .move (.c (.int .i64 1))⟩] (some [4, 5]))
  .ret)
  .skip))
 (.seq (.ops [⟨(some 15), none, .move (.t 6)⟩,
   ⟨(some 4), none, .move (.t 15)⟩,
   ⟨(some 5), none, .move (.c (.int .i64 0))⟩] (some [4, 5]))
 .ret)))), [.tmp 4, .tmp 5]⟩

theorem is444 : FnIs Tryz.prog 444 x444 := ⟨Tryz.f444, _, Tryz.func444, by kernel_rfl, rfl, by kernel_rfl, by decide, by kernel_rfl⟩

/-- (*cloisonne/ring.Ring).last -/
def x446 : XDecl := .code ⟨1, 
 (.seq (.ops [⟨(some 2), none, .move (.c (.int .u64 0))⟩] (some [0]))
 (.seq (.seq (.ops [⟨(some 3), none, .move (.t 0)⟩,
   ⟨(some 4), none, .nilCheck (.t 3)⟩,
   ⟨(some 5), none, .fieldAddr 3 (.t 4)⟩,
   ⟨(some 6), none, .load false 1 (.t 5)⟩,
   ⟨(some 7), none, .len (.t 6)⟩,
   ⟨(some 8), none, .bin .eql 3 (.t 7) (.c (.int .i64 0))⟩] (some [0, 8]))
 (.cond (.t 8)
  (.seq (.ops [⟨(some 2), none, .move (.c (.int .u64 0))⟩] (some [2]))
  .ret)
  .skip))
 (.seq (.opsr [⟨(some 9), none, .move (.t 0)⟩,
   ⟨(some 10), none, .nilCheck (.t 9)⟩,
   ⟨(some 11), none, .fieldAddr 3 (.t 10)⟩,
   ⟨(some 12), none, .load false 1 (.t 11)⟩,
   ⟨(some 13), none, .move (.t 0)⟩,
   ⟨(some 14), none, .nilCheck (.t 13)⟩,
   ⟨(some 15), none, .fieldAddr 3 (.t 14)⟩,
   ⟨(some 16), none, .load false 1 (.t 15)⟩,
   ⟨(some 17), none, .len (.t 16)⟩,
   ⟨(some 18), none, .bin .sub 3 (.t 17) (.c (.int .i64 1))⟩,
   ⟨(some 19), none, .indexAddr 1 (.t 12) (.t 18)⟩,
   ⟨(some 20), none, .load false 1 (.t 19)⟩,
   ⟨(some 2), none, .move (.t 20)⟩] (some [2]))
 .ret))), [.tmp 2]⟩

theorem is446 : FnIs Tryz.prog 446 x446 := ⟨Tryz.f446, _, Tryz.func446, by kernel_rfl, rfl, by kernel_rfl, by decide, by kernel_rfl⟩

-- 449 internal/bytealg.IndexByteString: no body
def x449 : XDecl := .ext 449

theorem is449 : FnIs Tryz.prog 449 x449 := rfl

/-- slices.IndexFunc[[]uint64,uint64] -/
def x451 : XDecl := .code ⟨2, 
 (.seq (.ops [⟨(some 4), none, .move (.c (.int .i64 0))⟩] (some [0, 1]))
 (.seq (.seq (.ops [⟨(some 6), none, .move (.t 0)⟩,
   ⟨(some 7), none, .len (.t 6)⟩,
   ⟨(some 8), none, .move (.c (.int .i64 0))⟩] (some [0, 1, 7, 8]))
 (.block 0
  (.loop
   (.seq (.ops [⟨(some 9), none, .bin .lss 3 (.t 8) (.t 7)⟩] (some [0, 1, 7, 8, 9]))
   (.seq (.cond (.t 9)
    .skip
    (.exit 0))
   (.seq (.block 1
    (.seq (.ops [⟨(some 10), none, .move (.t 8)⟩,
      ⟨(some 5), none, .move (.t 10)⟩] (some [0, 1, 5, 7, 8]))
    (.seq (.ops [⟨(some 11), none, .move (.t 1)⟩,
      ⟨(some 12), none, .move (.t 0)⟩,
      ⟨(some 13), none, .move (.t 5)⟩,
      ⟨(some 14), none, .indexAddr 1 (.t 12) (.t 13)⟩,
      ⟨(some 15), none, .load false 1 (.t 14)⟩,
      ⟨(some 16), none, .call (.t 11) [(.t 15)]⟩] (some [0, 1, 5, 7, 8, 16]))
    (.cond (.t 16)
     (.seq (.ops [⟨(some 17), none, .move (.t 5)⟩,
       ⟨(some 4), none, .move (.t 17)⟩] (some [4]))
     .ret)
     .skip))))
   (.ops [⟨(some 18), none, .bin .add 3 (.t 8) (.c (.int .i64 1))⟩,
     ⟨(some 8), none, .move (.t 18)⟩] (some [0, 1, 7, 8]))))))))
 (.seq (.ops [⟨(some 4), none, .move (.c (.int .i64 (-1)))⟩] (some [4]))
 .ret))), [.tmp 4]⟩

theorem is451 : FnIs Tryz.prog 451 x451 := ⟨Tryz.f451, _, Tryz.func451, by kernel_rfl, rfl, by kernel_rfl, by decide, by kernel_rfl⟩

/-- slices.BinarySearch[[]uint64,uint64] -/
def x458 : XDecl := .code ⟨2, 
 (.seq (.ops [⟨(some 4), none, .move (.c (.int .i64 0))⟩,
   ⟨(some 5), none, .move (.c (.bool false))⟩] (some [0, 1]))
 (.seq (.ops [⟨(some 10), none, .move (.t 0)⟩,
   ⟨(some 11), none, .len (.t 10)⟩,
   ⟨(some 6), none, .move (.t 11)⟩] (some [0, 1, 6]))
 (.seq (.ops [⟨(some 12), none, .move (.t 6)⟩,
   ⟨(some 7), none, .move (.c (.int .i64 0))⟩,
   ⟨(some 8), none, .move (.t 12)⟩] (some [0, 1, 6, 7, 8]))
 (.seq (.block 0
  (.loop
   (.seq (.seq (.ops [⟨(some 13), none, .move (.t 7)⟩,
     ⟨(some 14), none, .move (.t 8)⟩,
     ⟨(some 15), none, .bin .lss 3 (.t 13) (.t 14)⟩] (some [0, 1, 6, 7, 8, 15]))
   (.cond (.t 15)
    .skip
    (.exit 0)))
   (.block 1
    (.seq (.ops [⟨(some 16), none, .move (.t 7)⟩,
      ⟨(some 17), none, .move (.t 8)⟩,
      ⟨(some 18), none, .bin .add 3 (.t 16) (.t 17)⟩,
      ⟨(some 19), none, .conv 3 356 (.t 18)⟩,
      ⟨(some 20), none, .bin .shr 356 (.t 19) (.c (.int .u64 1))⟩,
      ⟨(some 21), none, .conv 356 3 (.t 20)⟩,
      ⟨(some 9), none, .move (.t 21)⟩] (some [0, 1, 6, 7, 8, 9]))
    (.seq (.ops [⟨(some 22), none, .move (.t 0)⟩,
      ⟨(some 23), none, .move (.t 9)⟩,
      ⟨(some 24), none, .indexAddr 1 (.t 22) (.t 23)⟩,
      ⟨(some 25), none, .load false 1 (.t 24)⟩,
      ⟨(some 26), none, .move (.t 1)⟩,
      ⟨(some 27), none, .call (.c (.func (.func 481) #[] #[])) [(.t 25), (.t 26)]⟩] (some [0, 1, 6, 7, 8, 9, 27]))
    (.cond (.t 27)
     (.ops [⟨(some 28), none, .move (.t 9)⟩,
       ⟨(some 29), none, .bin .add 3 (.t 28) (.c (.int .i64 1))⟩,
       ⟨(some 7), none, .move (.t 29)⟩] (some [0, 1, 6, 7, 8]))
     (.ops [⟨(some 30), none, .move (.t 9)⟩,
       ⟨(some 8), none, .move (.t 30)⟩] (some [0, 1, 6, 7, 8])))))))))
 (.seq (.ops [⟨(some 31), none, .move (.t 7)⟩,
   ⟨(some 32), none, .move (.t 7)⟩,
   ⟨(some 33), none, .move (.t 6)⟩,
   ⟨(some 34), none, .bin .lss 3 (.t 32) (.t 33)⟩,
   ⟨(some 35), none, .move (.t 34)⟩,
   ⟨(some 36), (some (35, true)), .move (.t 0)⟩,
   ⟨(some 37), (some (35, true)), .move (.t 7)⟩,
   ⟨(some 38), (some (35, true)), .indexAddr 1 (.t 36) (.t 37)⟩,
   ⟨(some 39), (some (35, true)), .load false 1 (.t 38)⟩,
   ⟨(some 40), (some (35, true)), .move (.t 1)⟩,
   ⟨(some 41), (some (35, true)), .bin .eql 77 (.t 39) (.t 40)⟩,
   ⟨(some 42), (some (35, true)), .move (.t 41)⟩,
   ⟨(some 43), (some (42, false)), .move (.t 0)⟩,
   ⟨(some 44), (some (42, false)), .move (.t 7)⟩,
   ⟨(some 45), (some (42, false)), .indexAddr 1 (.t 43) (.t 44)⟩,
   ⟨(some 46), (some (42, false)), .load false 1 (.t 45)⟩,
   ⟨(some 47), (some (42, false)), .call (.c (.func (.func 482) #[] #[])) [(.t 46)]⟩,
   ⟨(some 48), (some (42, false)), .move (.t 47)⟩,
   ⟨(some 49), (some (48, true)), .move (.t 1)⟩,
   ⟨(some 50), (some (48, true)), .call (.c (.func (.func 482) #[] #[])) [(.t 49)]⟩,
   ⟨(some 51), (some (42, false)), .pick (.t 48) (.t 50) (.c (.bool false))⟩,
   ⟨(some 52), (some (35, true)), .pick (.t 42) (.c (.bool true)) (.t 51)⟩,
   ⟨(some 53), none, .pick (.t 35) (.t 52) (.c (.bool false))⟩,
   ⟨(some 4), none, .move (.t 31)⟩,
   ⟨(some 5), none, .move (.t 53)⟩] (some [4, 5]))
 .ret))))), [.tmp 4, .tmp 5]⟩

theorem is458 : FnIs Tryz.prog 458 x458 := ⟨Tryz.f458, _, Tryz.func458, by kernel_rfl, rfl, by kernel_rfl, by decide, by kernel_rfl⟩

/-- (*cloisonne/wset.Set).at -/
def x463 : XDecl := .code ⟨2, 
 (.seq (.ops [⟨(some 4), none, .move (.c (.int .i64 0))⟩,
   ⟨(some 5), none, .move (.c (.bool false))⟩] (some [0, 1]))
 (.seq (.ops [⟨(some 6), none, .move (.t 0)⟩,
   ⟨(some 7), none, .nilCheck (.t 6)⟩,
   ⟨(some 8), none, .fieldAddr 0 (.t 7)⟩,
   ⟨(some 9), none, .load false 1 (.t 8)⟩,
   ⟨(some 10), none, .move (.t 1)⟩,
   ⟨(some 11), none, .call (.c (.func (.func 488) #[] #[])) [(.t 9), (.t 10), (.c (.func (.func 489) #[] #[]))]⟩,
   ⟨(some 12), none, .extract (.t 11) 0⟩,
   ⟨(some 13), none, .extract (.t 11) 1⟩,
   ⟨(some 4), none, .move (.t 12)⟩,
   ⟨(some 5), none, .move (.t 13)⟩] (some [4, 5]))
 .ret)), [.tmp 4, .tmp 5]⟩

theorem is463 : FnIs Tryz.prog 463 x463 := ⟨Tryz.f463, _, Tryz.func463, by kernel_rfl, rfl, by kernel_rfl, by decide, by kernel_rfl⟩

/-- slices.Insert[[]cloisonne/api.Write,cloisonne/api.Write] -/
def x466 : XDecl := .code ⟨3, 
 (.seq (.ops [⟨(some 6), none, .move (.c (.slice none 0 0))⟩] (some [0, 1, 2]))
 (.seq (.ops [⟨(some 10), none, .move (.t 0)⟩,
   ⟨(some 11), none, .move (.t 1)⟩,
   ⟨(some 12), none, .slice 5 (.t 10) (some (.t 11)) none none⟩] (some [0, 1, 2]))
 (.seq (.ops [⟨(some 13), none, .move (.t 2)⟩,
   ⟨(some 14), none, .len (.t 13)⟩,
   ⟨(some 7), none, .move (.t 14)⟩] (some [0, 1, 2, 7]))
 (.seq (.seq (.ops [⟨(some 15), none, .move (.t 7)⟩,
   ⟨(some 16), none, .bin .eql 3 (.t 15) (.c (.int .i64 0))⟩] (some [0, 1, 2, 7, 16]))
 (.cond (.t 16)
  (.seq (.ops [⟨(some 17), none, .move (.t 0)⟩,
    ⟨(some 6), none, .move (.t 17)⟩] (some [6]))
  .ret)
  .skip))
 (.seq (.ops [⟨(some 18), none, .move (.t 0)⟩,
   ⟨(some 19), none, .len (.t 18)⟩,
   ⟨(some 8), none, .move (.t 19)⟩] (some [0, 1, 2, 7, 8]))
 (.seq (.seq (.ops [⟨(some 20), none, .move (.t 1)⟩,
   ⟨(some 21), none, .move (.t 8)⟩,
   ⟨(some 22), none, .bin .eql 3 (.t 20) (.t 21)⟩] (some [0, 1, 2, 7, 8, 22]))
 (.cond (.t 22)
  (.seq (.ops [⟨(some 23), none, .move (.t 0)⟩,
    ⟨(some 24), none, .move (.t 2)⟩,
    ⟨(some 25), none, .append 5 56 [(.string .empty), (.bool false), (.bool false), (.string .empty), (.int .u64 0)] (.t 23) (.t 24)⟩,
    ⟨(some 6), none, .move (.t 25)⟩] (some [6]))
  .ret)
  .skip))
 (.seq (.seq (.ops [⟨(some 26), none, .move (.t 8)⟩,
   ⟨(some 27), none, .move (.t 7)⟩,
   ⟨(some 28), none, .bin .add 3 (.t 26) (.t 27)⟩,
   ⟨(some 29), none, .move (.t 0)⟩,
   ⟨(some 30), none, .cap (.t 29)⟩,
   ⟨(some 31), none, .bin .gtr 3 (.t 28) (.t 30)⟩] (some [0, 1, 2, 7, 8, 31]))
 (.cond (.t 31)
  (.seq (.ops [⟨(some 32), none, .move (.t 0)⟩,
    ⟨(some 33), none, .move (.t 1)⟩,
    ⟨(some 34), none, .slice 5 (.t 32) none (some (.t 33)) none⟩,
    ⟨(some 35), none, .move (.t 8)⟩,
    ⟨(some 36), none, .move (.t 7)⟩,
    ⟨(some 37), none, .bin .add 3 (.t 35) (.t 36)⟩,
    ⟨(some 38), none, .move (.t 1)⟩,
    ⟨(some 39), none, .bin .sub 3 (.t 37) (.t 38)⟩,
    ⟨(some 40), none, .appendZeros 5 56 [(.string .empty), (.bool false), (.bool false), (.string .empty), (.int .u64 0)] (.t 34) (.t 39)⟩,
    ⟨(some 9), none, .move (.t 40)⟩] (some [0, 1, 2, 7, 9]))
  (.seq (.ops [⟨(some 41), none, .move (.t 9)⟩,
    ⟨(some 42), none, .move (.t 1)⟩,
    ⟨(some 43), none, .slice 5 (.t 41) (some (.t 42)) none none⟩,
    ⟨(some 44), none, .move (.t 2)⟩,
    ⟨(some 45), none, .copy 5 (.t 43) (.t 44)⟩] (some [0, 1, 7, 9]))
  (.seq (.opsd [(0, 0, ⟨(some 46), none, .move (.t 9)⟩),
    (1, 0, ⟨(some 47), none, .move (.t 1)⟩),
    (2, 0, ⟨(some 48), none, .move (.t 7)⟩),
    (3, 6, ⟨(some 49), none, .bin .add 3 (.t 47) (.t 48)⟩),
    (4, 15, ⟨(some 50), none, .slice 5 (.t 46) (some (.t 49)) none none⟩),
    (5, 0, ⟨(some 51), none, .move (.t 0)⟩),
    (6, 0, ⟨(some 52), none, .move (.t 1)⟩),
    (7, 96, ⟨(some 53), none, .slice 5 (.t 51) (some (.t 52)) none none⟩),
    (8, 255, ⟨(some 54), none, .copy 5 (.t 50) (.t 53)⟩)] (some [9]))
  (.seq (.ops [⟨(some 55), none, .move (.t 9)⟩,
    ⟨(some 6), none, .move (.t 55)⟩] (some [6]))
  .ret))))
  .skip))
 (.seq (.ops [⟨(some 56), none, .move (.t 0)⟩,
   ⟨(some 57), none, .move (.t 8)⟩,
   ⟨(some 58), none, .move (.t 7)⟩,
   ⟨(some 59), none, .bin .add 3 (.t 57) (.t 58)⟩,
   ⟨(some 60), none, .slice 5 (.t 56) none (some (.t 59)) none⟩,
   ⟨(some 0), none, .move (.t 60)⟩] (some [0, 1, 2, 7, 8]))
 (.seq (.seq (.ops [⟨(some 61), none, .move (.t 2)⟩,
   ⟨(some 62), none, .move (.t 0)⟩,
   ⟨(some 63), none, .move (.t 1)⟩,
   ⟨(some 64), none, .move (.t 7)⟩,
   ⟨(some 65), none, .bin .add 3 (.t 63) (.t 64)⟩,
   ⟨(some 66), none, .slice 5 (.t 62) (some (.t 65)) none none⟩,
   ⟨(some 67), none, .call (.c (.func (.func 492) #[] #[])) [(.t 61), (.t 66)]⟩,
   ⟨(some 68), none, .un .not (.t 67)⟩] (some [0, 1, 2, 7, 8, 68]))
 (.cond (.t 68)
  (.seq (.opsd [(0, 0, ⟨(some 69), none, .move (.t 0)⟩),
    (1, 0, ⟨(some 70), none, .move (.t 1)⟩),
    (2, 0, ⟨(some 71), none, .move (.t 7)⟩),
    (3, 6, ⟨(some 72), none, .bin .add 3 (.t 70) (.t 71)⟩),
    (4, 15, ⟨(some 73), none, .slice 5 (.t 69) (some (.t 72)) none none⟩),
    (5, 0, ⟨(some 74), none, .move (.t 0)⟩),
    (6, 0, ⟨(some 75), none, .move (.t 1)⟩),
    (7, 96, ⟨(some 76), none, .slice 5 (.t 74) (some (.t 75)) none none⟩),
    (8, 255, ⟨(some 77), none, .copy 5 (.t 73) (.t 76)⟩)] (some [0, 1, 2]))
  (.seq (.ops [⟨(some 78), none, .move (.t 0)⟩,
    ⟨(some 79), none, .move (.t 1)⟩,
    ⟨(some 80), none, .slice 5 (.t 78) (some (.t 79)) none none⟩,
    ⟨(some 81), none, .move (.t 2)⟩,
    ⟨(some 82), none, .copy 5 (.t 80) (.t 81)⟩] (some [0]))
  (.seq (.ops [⟨(some 83), none, .move (.t 0)⟩,
    ⟨(some 6), none, .move (.t 83)⟩] (some [6]))
  .ret)))
  .skip))
 (.seq (.ops [⟨(some 84), none, .move (.t 0)⟩,
   ⟨(some 85), none, .move (.t 8)⟩,
   ⟨(some 86), none, .slice 5 (.t 84) (some (.t 85)) none none⟩,
   ⟨(some 87), none, .move (.t 2)⟩,
   ⟨(some 88), none, .copy 5 (.t 86) (.t 87)⟩] (some [0, 1, 7]))
 (.seq (.ops [⟨(some 89), none, .move (.t 0)⟩,
   ⟨(some 90), none, .move (.t 1)⟩,
   ⟨(some 91), none, .slice 5 (.t 89) (some (.t 90)) none none⟩,
   ⟨(some 92), none, .move (.t 7)⟩,
   ⟨(some 93), none, .call (.c (.func (.func 493) #[] #[])) [(.t 91), (.t 92)]⟩] (some [0]))
 (.seq (.ops [⟨(some 94), none, .move (.t 0)⟩,
   ⟨(some 6), none, .move (.t 94)⟩] (some [6]))
 .ret)))))))))))), [.tmp 6]⟩

theorem is466 : FnIs Tryz.prog 466 x466 := ⟨Tryz.f466, _, Tryz.func466, by kernel_rfl, rfl, by kernel_rfl, by decide, by kernel_rfl⟩

/-- cloisonne/sector.within -/
def x469 : XDecl := .code ⟨3, 
 (.seq (.ops [⟨(some 6), none, .move (.c (.bool false))⟩] (some [0, 1, 2]))
 (.seq (.ops [⟨(some 7), none, .move (.t 0)⟩,
   ⟨(some 8), none, .move (.t 1)⟩,
   ⟨(some 9), none, .bin .geq 3 (.t 7) (.t 8)⟩,
   ⟨(some 10), none, .move (.t 9)⟩,
   ⟨(some 11), (some (10, true)), .move (.t 0)⟩,
   ⟨(some 12), (some (10, true)), .move (.t 2)⟩,
   ⟨(some 13), (some (10, true)), .bin .leq 3 (.t 11) (.t 12)⟩,
   ⟨(some 14), none, .pick (.t 10) (.t 13) (.c (.bool false))⟩,
   ⟨(some 6), none, .move (.t 14)⟩] (some [6]))
 .ret)), [.tmp 6]⟩

theorem is469 : FnIs Tryz.prog 469 x469 := ⟨Tryz.f469, _, Tryz.func469, by kernel_rfl, rfl, by kernel_rfl, by decide, by kernel_rfl⟩

/-- cmp.Less[uint64] -/
def x481 : XDecl := .code ⟨2, 
 (.seq (.ops [⟨(some 4), none, .move (.c (.bool false))⟩] (some [0, 1]))
 (.seq (.ops [⟨(some 5), none, .move (.t 0)⟩,
   ⟨(some 6), none, .call (.c (.func (.func 430) #[] #[])) [(.t 5)]⟩,
   ⟨(some 7), none, .move (.t 6)⟩,
   ⟨(some 8), (some (7, true)), .move (.t 1)⟩,
   ⟨(some 9), (some (7, true)), .call (.c (.func (.func 430) #[] #[])) [(.t 8)]⟩,
   ⟨(some 10), (some (7, true)), .un .not (.t 9)⟩,
   ⟨(some 11), none, .pick (.t 7) (.t 10) (.c (.bool false))⟩,
   ⟨(some 12), none, .move (.t 11)⟩,
   ⟨(some 13), (some (12, false)), .move (.t 0)⟩,
   ⟨(some 14), (some (12, false)), .move (.t 1)⟩,
   ⟨(some 15), (some (12, false)), .bin .lss 77 (.t 13) (.t 14)⟩,
   ⟨(some 16), none, .pick (.t 12) (.c (.bool true)) (.t 15)⟩,
   ⟨(some 4), none, .move (.t 16)⟩] (some [4]))
 .ret)), [.tmp 4]⟩

theorem is481 : FnIs Tryz.prog 481 x481 := ⟨Tryz.f481, _, Tryz.func481, by kernel_rfl, rfl, by kernel_rfl, by decide, by kernel_rfl⟩

/-- slices.isNaN[uint64] -/
def x482 : XDecl := .code ⟨1, 
 (.seq (.ops [⟨(some 2), none, .move (.c (.bool false))⟩] (some [0]))
 (.seq (.ops [⟨(some 3), none, .move (.t 0)⟩,
   ⟨(some 4), none, .move (.t 0)⟩,
   ⟨(some 5), none, .bin .neq 77 (.t 3) (.t 4)⟩,
   ⟨(some 2), none, .move (.t 5)⟩] (some [2]))
 .ret)), [.tmp 2]⟩

theorem is482 : FnIs Tryz.prog 482 x482 := ⟨Tryz.f482, _, Tryz.func482, by kernel_rfl, rfl, by kernel_rfl, by decide, by kernel_rfl⟩

/-- slices.BinarySearchFunc[[]cloisonne/api.Write,cloisonne/api.Write,string] -/
def x488 : XDecl := .code ⟨3, 
 (.seq (.ops [⟨(some 6), none, .move (.c (.int .i64 0))⟩,
   ⟨(some 7), none, .move (.c (.bool false))⟩] (some [0, 1, 2]))
 (.seq (.ops [⟨(some 12), none, .move (.t 0)⟩,
   ⟨(some 13), none, .len (.t 12)⟩,
   ⟨(some 8), none, .move (.t 13)⟩] (some [0, 1, 2, 8]))
 (.seq (.ops [⟨(some 14), none, .move (.t 8)⟩,
   ⟨(some 9), none, .move (.c (.int .i64 0))⟩,
   ⟨(some 10), none, .move (.t 14)⟩] (some [0, 1, 2, 8, 9, 10]))
 (.seq (.block 0
  (.loop
   (.seq (.seq (.ops [⟨(some 15), none, .move (.t 9)⟩,
     ⟨(some 16), none, .move (.t 10)⟩,
     ⟨(some 17), none, .bin .lss 3 (.t 15) (.t 16)⟩] (some [0, 1, 2, 8, 9, 10, 17]))
   (.cond (.t 17)
    .skip
    (.exit 0)))
   (.block 1
    (.seq (.ops [⟨(some 18), none, .move (.t 9)⟩,
      ⟨(some 19), none, .move (.t 10)⟩,
      ⟨(some 20), none, .bin .add 3 (.t 18) (.t 19)⟩,
      ⟨(some 21), none, .conv 3 356 (.t 20)⟩,
      ⟨(some 22), none, .bin .shr 356 (.t 21) (.c (.int .u64 1))⟩,
      ⟨(some 23), none, .conv 356 3 (.t 22)⟩,
      ⟨(some 11), none, .move (.t 23)⟩] (some [0, 1, 2, 8, 9, 10, 11]))
    (.seq (.ops [⟨(some 24), none, .move (.t 2)⟩,
      ⟨(some 25), none, .move (.t 0)⟩,
      ⟨(some 26), none, .move (.t 11)⟩,
      ⟨(some 27), none, .indexAddr 5 (.t 25) (.t 26)⟩,
      ⟨(some 28), none, .load true 5 (.t 27)⟩,
      ⟨(some 29), none, .move (.t 1)⟩,
      ⟨(some 30), none, .call (.t 24) [(.t 28), (.t 29)]⟩,
      ⟨(some 31), none, .bin .lss 3 (.t 30) (.c (.int .i64 0))⟩] (some [0, 1, 2, 8, 9, 10, 11, 31]))
    (.cond (.t 31)
     (.ops [⟨(some 32), none, .move (.t 11)⟩,
       ⟨(some 33), none, .bin .add 3 (.t 32) (.c (.int .i64 1))⟩,
       ⟨(some 9), none, .move (.t 33)⟩] (some [0, 1, 2, 8, 9, 10]))
     (.ops [⟨(some 34), none, .move (.t 11)⟩,
       ⟨(some 10), none, .move (.t 34)⟩] (some [0, 1, 2, 8, 9, 10])))))))))
 (.seq (.ops [⟨(some 35), none, .move (.t 9)⟩,
   ⟨(some 36), none, .move (.t 9)⟩,
   ⟨(some 37), none, .move (.t 8)⟩,
   ⟨(some 38), none, .bin .lss 3 (.t 36) (.t 37)⟩,
   ⟨(some 39), none, .move (.t 38)⟩,
   ⟨(some 40), (some (39, true)), .move (.t 2)⟩,
   ⟨(some 41), (some (39, true)), .move (.t 0)⟩,
   ⟨(some 42), (some (39, true)), .move (.t 9)⟩,
   ⟨(some 43), (some (39, true)), .indexAddr 5 (.t 41) (.t 42)⟩,
   ⟨(some 44), (some (39, true)), .load true 5 (.t 43)⟩,
   ⟨(some 45), (some (39, true)), .move (.t 1)⟩,
   ⟨(some 46), (some (39, true)), .call (.t 40) [(.t 44), (.t 45)]⟩,
   ⟨(some 47), (some (39, true)), .bin .eql 3 (.t 46) (.c (.int .i64 0))⟩,
   ⟨(some 48), none, .pick (.t 39) (.t 47) (.c (.bool false))⟩,
   ⟨(some 6), none, .move (.t 35)⟩,
   ⟨(some 7), none, .move (.t 48)⟩] (some [6, 7]))
 .ret))))), [.tmp 6, .tmp 7]⟩

theorem is488 : FnIs Tryz.prog 488 x488 := ⟨Tryz.f488, _, Tryz.func488, by kernel_rfl, rfl, by kernel_rfl, by decide, by kernel_rfl⟩

/-- (cloisonne/job.commit).check -/
def x558 : XDecl := .code ⟨2, 
 (.seq (.ops [⟨(some 2), none, .box (.t 0)⟩,
   ⟨(some 4), none, .move (.c (.pointer none))⟩,
   ⟨(some 5), none, .move (.c (.int .i64 0))⟩] (some [1, 2]))
 (.seq (.ops [⟨(some 10), none, .move (.t 1)⟩,
   ⟨(some 11), none, .fieldAddr 0 (.t 2)⟩,
   ⟨(some 12), none, .load false 1 (.t 11)⟩,
   ⟨(some 13), none, .call (.c (.func (.func 44) #[] #[])) [(.t 10), (.t 12)]⟩,
   ⟨(some 6), none, .move (.t 13)⟩] (some [1, 2, 6]))
 (.seq (.ops [⟨(some 15), none, .move (.t 6)⟩,
   ⟨(some 16), none, .fieldAddr 2 (.t 2)⟩,
   ⟨(some 17), none, .load false 1 (.t 16)⟩,
   ⟨(some 18), none, .call (.c (.func (.func 346) #[] #[])) [(.t 15), (.t 17)]⟩,
   ⟨(some 14), none, .move (.t 18)⟩,
   ⟨(some 19), none, .extract (.t 14) 0⟩,
   ⟨(some 20), none, .extract (.t 14) 1⟩,
   ⟨(some 7), none, .move (.t 19)⟩,
   ⟨(some 8), none, .move (.t 20)⟩] (some [1, 2, 6, 7, 8]))
 (.seq (.seq (.ops [⟨(some 21), none, .move (.t 8)⟩,
   ⟨(some 22), none, .bin .eql 32 (.t 21) (.c (.int .i64 0))⟩] (some [1, 2, 6, 7, 8, 22]))
 (.cond (.t 22)
  (.ops [⟨(some 23), none, .move (.t 6)⟩,
    ⟨(some 24), none, .fieldAddr 1 (.t 2)⟩,
    ⟨(some 25), none, .load false 1 (.t 24)⟩,
    ⟨(some 26), none, .move (.t 7)⟩,
    ⟨(some 27), none, .call (.c (.func (.func 560) #[] #[])) [(.t 23), (.t 25), (.t 26)]⟩,
    ⟨(some 8), none, .move (.t 27)⟩] (some [1, 2, 6, 8]))
  .skip))
 (.seq (.seq (.ops [⟨(some 28), none, .move (.t 8)⟩,
   ⟨(some 29), none, .bin .neq 32 (.t 28) (.c (.int .i64 0))⟩] (some [1, 2, 6, 8, 29]))
 (.cond (.t 29)
  (.seq (.ops [⟨(some 30), none, .move (.t 8)⟩,
    ⟨(some 4), none, .move (.c (.pointer none))⟩,
    ⟨(some 5), none, .move (.t 30)⟩] (some [4, 5]))
  .ret)
  .skip))
 (.seq (.opsd [(0, 0, ⟨(some 32), none, .move (.t 6)⟩),
   (3, 0, ⟨(some 35), none, .fieldAddr 1 (.t 2)⟩),
   (4, 8, ⟨(some 36), none, .load false 1 (.t 35)⟩),
   (1, 1, ⟨(some 33), none, .call (.c (.func (.func 306) #[] #[])) [(.t 32)]⟩),
   (2, 3, ⟨(some 34), none, .bin .add 3 (.t 33) (.c (.int .i64 1))⟩),
   (5, 31, ⟨(some 37), none, .call (.c (.func (.func 561) #[] #[])) [(.t 34), (.t 36)]⟩),
   (6, 63, ⟨(some 31), none, .move (.t 37)⟩),
   (7, 127, ⟨(some 38), none, .extract (.t 31) 0⟩),
   (8, 127, ⟨(some 39), none, .extract (.t 31) 1⟩),
   (9, 255, ⟨(some 9), none, .move (.t 38)⟩),
   (10, 1023, ⟨(some 8), none, .move (.t 39)⟩)] (some [1, 2, 8, 9]))
 (.seq (.seq (.ops [⟨(some 40), none, .move (.t 8)⟩,
   ⟨(some 41), none, .bin .neq 32 (.t 40) (.c (.int .i64 0))⟩] (some [1, 2, 8, 9, 41]))
 (.cond (.t 41)
  (.seq (.ops [⟨(some 42), none, .move (.t 8)⟩,
    ⟨(some 4), none, .move (.c (.pointer none))⟩,
    ⟨(some 5), none, .move (.t 42)⟩] (some [4, 5]))
  .ret)
  .skip))
 (.seq (.ops [⟨(some 43), none, .move (.t 1)⟩,
   ⟨(some 44), none, .fieldAddr 0 (.t 2)⟩,
   ⟨(some 45), none, .load false 1 (.t 44)⟩,
   ⟨(some 46), none, .call (.c (.func (.func 149) #[] #[])) [(.t 43), (.t 45)]⟩,
   ⟨(some 47), none, .move (.t 9)⟩,
   ⟨(some 48), none, .call (.c (.func (.func 562) #[] #[])) [(.t 46), (.t 47)]⟩,
   ⟨(some 49), none, .extract (.t 48) 0⟩,
   ⟨(some 50), none, .extract (.t 48) 1⟩,
   ⟨(some 4), none, .move (.t 49)⟩,
   ⟨(some 5), none, .move (.t 50)⟩] (some [4, 5]))
 .ret)))))))), [.tmp 4, .tmp 5]⟩

theorem is558 : FnIs Tryz.prog 558 x558 := ⟨Tryz.f558, _, Tryz.func558, by kernel_rfl, rfl, by kernel_rfl, by decide, by kernel_rfl⟩

/-- (cloisonne/job.commit).install -/
def x559 : XDecl := .code ⟨2, 
 (.seq (.ops [⟨(some 2), none, .box (.t 0)⟩,
   ⟨(some 4), none, .move (.c (.int .u64 0))⟩,
   ⟨(some 5), none, .move (.c (.int .i64 0))⟩] (some [1, 2]))
 (.seq (.opsd [(0, 0, ⟨(some 9), none, .move (.t 1)⟩),
   (1, 0, ⟨(some 10), none, .fieldAddr 0 (.t 2)⟩),
   (2, 2, ⟨(some 11), none, .load false 1 (.t 10)⟩),
   (4, 0, ⟨(some 13), none, .fieldAddr 1 (.t 2)⟩),
   (5, 16, ⟨(some 14), none, .load false 1 (.t 13)⟩),
   (6, 0, ⟨(some 15), none, .move (.t 1)⟩),
   (3, 7, ⟨(some 12), none, .call (.c (.func (.func 44) #[] #[])) [(.t 9), (.t 11)]⟩),
   (7, 79, ⟨(some 16), none, .call (.c (.func (.func 563) #[] #[])) [(.t 15)]⟩),
   (8, 255, ⟨(some 17), none, .call (.c (.func (.func 307) #[] #[])) [(.t 12), (.t 14), (.t 16)]⟩),
   (9, 511, ⟨(some 8), none, .move (.t 17)⟩),
   (10, 1023, ⟨(some 18), none, .extract (.t 8) 0⟩),
   (11, 1023, ⟨(some 19), none, .extract (.t 8) 1⟩),
   (12, 2047, ⟨(some 6), none, .move (.t 18)⟩),
   (13, 8191, ⟨(some 7), none, .move (.t 19)⟩)] (some [6, 7]))
 (.seq (.ops [⟨(some 20), none, .move (.t 6)⟩,
   ⟨(some 21), none, .conv 3 77 (.t 20)⟩,
   ⟨(some 22), none, .move (.t 7)⟩,
   ⟨(some 4), none, .move (.t 21)⟩,
   ⟨(some 5), none, .move (.t 22)⟩] (some [4, 5]))
 .ret))), [.tmp 4, .tmp 5]⟩

theorem is559 : FnIs Tryz.prog 559 x559 := ⟨Tryz.f559, _, Tryz.func559, by kernel_rfl, rfl, by kernel_rfl, by decide, by kernel_rfl⟩

/-- (*cloisonne/room.Room).Check -/
def x560 : XDecl := .code ⟨3, 
 (.seq (.ops [⟨(some 6), none, .move (.c (.int .i64 0))⟩] (some [0, 1, 2]))
 (.seq (.block 0
  (.seq (.ops [⟨(some 12), none, .move (.t 0)⟩,
    ⟨(some 13), none, .isNil .ptr false (.t 12)⟩,
    ⟨(some 11), none, .move (.t 13)⟩] (some [0, 1, 2, 11]))
  (.cond (.t 11)
   (.seq (.ops [⟨(some 6), none, .move (.c (.int .i64 2))⟩] (some [6]))
   .ret)
   (.seq (.ops [⟨(some 15), none, .move (.t 1)⟩,
     ⟨(some 16), none, .call (.c (.func (.func 390) #[] #[])) [(.t 15)]⟩,
     ⟨(some 17), none, .un .not (.t 16)⟩,
     ⟨(some 14), none, .move (.t 17)⟩] (some [0, 1, 2, 14]))
   (.cond (.t 14)
    (.seq (.ops [⟨(some 6), none, .move (.c (.int .i64 1))⟩] (some [6]))
    .ret)
    (.seq (.ops [⟨(some 19), none, .move (.t 2)⟩,
      ⟨(some 20), none, .move (.t 0)⟩,
      ⟨(some 21), none, .call (.c (.func (.func 90) #[] #[])) [(.t 20)]⟩,
      ⟨(some 22), none, .move (.t 0)⟩,
      ⟨(some 23), none, .call (.c (.func (.func 306) #[] #[])) [(.t 22)]⟩,
      ⟨(some 24), none, .call (.c (.func (.func 285) #[] #[])) [(.t 19), (.t 21), (.t 23)]⟩,
      ⟨(some 25), none, .un .not (.t 24)⟩,
      ⟨(some 18), none, .move (.t 25)⟩] (some [0, 1, 2, 18]))
    (.cond (.t 18)
     (.seq (.ops [⟨(some 6), none, .move (.c (.int .i64 14))⟩] (some [6]))
     .ret)
     .skip)))))))
 (.seq (.seq (.ops [⟨(some 26), none, .move (.t 1)⟩,
   ⟨(some 27), none, .len (.t 26)⟩,
   ⟨(some 28), none, .move (.c (.int .i64 0))⟩] (some [0, 1, 2, 26, 27, 28]))
 (.block 1
  (.loop
   (.seq (.ops [⟨(some 29), none, .bin .lss 3 (.t 28) (.t 27)⟩] (some [0, 1, 2, 26, 27, 28, 29]))
   (.seq (.cond (.t 29)
    .skip
    (.exit 1))
   (.seq (.block 2
    (.seq (.ops [⟨(some 30), none, .indexAddr 5 (.t 26) (.t 28)⟩,
      ⟨(some 31), none, .load true 5 (.t 30)⟩,
      ⟨(some 8), none, .alloc [(.string .empty), (.bool false), (.bool false), (.string .empty), (.int .u64 0)]⟩,
      ⟨none, none, .store 5 (.t 8) (.t 31)⟩] (some [0, 1, 2, 8, 26, 27, 28]))
    (.seq (.ops [⟨(some 33), none, .move (.t 0)⟩,
      ⟨(some 34), none, .fieldAddr 0 (.t 8)⟩,
      ⟨(some 35), none, .load false 1 (.t 34)⟩,
      ⟨(some 36), none, .call (.c (.func (.func 88) #[] #[])) [(.t 33), (.t 35)]⟩,
      ⟨(some 37), none, .call (.c (.func (.func 270) #[] #[])) [(.t 36)]⟩,
      ⟨(some 32), none, .move (.t 37)⟩,
      ⟨(some 38), none, .extract (.t 32) 0⟩,
      ⟨(some 39), none, .extract (.t 32) 1⟩,
      ⟨(some 9), none, .alloc [(.int .i64 0), (.bool false), (.bool false), (.string .empty), (.int .u64 0)]⟩,
      ⟨none, none, .store 5 (.t 9) (.t 38)⟩,
      ⟨(some 10), none, .move (.t 39)⟩] (some [0, 1, 2, 9, 10, 26, 27, 28]))
    (.seq (.ops [⟨(some 40), none, .move (.t 10)⟩,
      ⟨(some 41), none, .move (.t 40)⟩,
      ⟨(some 42), (some (41, true)), .fieldAddr 0 (.t 9)⟩,
      ⟨(some 43), (some (41, true)), .load false 1 (.t 42)⟩,
      ⟨(some 44), (some (41, true)), .move (.t 2)⟩,
      ⟨(some 45), (some (41, true)), .bin .gtr 3 (.t 43) (.t 44)⟩,
      ⟨(some 46), none, .pick (.t 41) (.t 45) (.c (.bool false))⟩] (some [0, 1, 2, 26, 27, 28, 46]))
    (.cond (.t 46)
     (.seq (.ops [⟨(some 6), none, .move (.c (.int .i64 13))⟩] (some [6]))
     .ret)
     .skip)))))
   (.ops [⟨(some 47), none, .bin .add 3 (.t 28) (.c (.int .i64 1))⟩,
     ⟨(some 28), none, .move (.t 47)⟩] (some [0, 1, 2, 26, 27, 28]))))))))
 (.seq (.ops [⟨(some 48), none, .move (.t 0)⟩,
   ⟨(some 49), none, .move (.t 1)⟩,
   ⟨(some 50), none, .call (.c (.func (.func 391) #[] #[])) [(.t 48), (.t 49)]⟩,
   ⟨(some 6), none, .move (.t 50)⟩] (some [6]))
 .ret)))), [.tmp 6]⟩

theorem is560 : FnIs Tryz.prog 560 x560 := ⟨Tryz.f560, _, Tryz.func560, by kernel_rfl, rfl, by kernel_rfl, by decide, by kernel_rfl⟩

/-- cloisonne/record.Commit -/
def x561 : XDecl := .code ⟨2, 
 (.seq (.ops [⟨(some 4), none, .move (.c (.string .empty))⟩,
   ⟨(some 5), none, .alloc [(.int .i64 0)]⟩] (some [0, 1, 5]))
 (.seq (.ops [⟨none, none, .dfr [(.t 5), (.c (.int .i64 1))]⟩] (some [0, 1, 5]))
 (.seq (.ops [⟨(some 9), none, .move (.t 0)⟩,
   ⟨(some 10), none, .bin .geq 3 (.t 9) (.c (.int .i64 1))⟩,
   ⟨(some 11), none, .move (.t 10)⟩,
   ⟨(some 12), (some (11, true)), .move (.t 0)⟩,
   ⟨(some 13), (some (11, true)), .bin .leq 3 (.t 12) (.c (.int .i64 1073741824))⟩,
   ⟨(some 14), none, .pick (.t 11) (.t 13) (.c (.bool false))⟩,
   ⟨(some 15), none, .move (.t 14)⟩,
   ⟨(some 16), (some (15, true)), .move (.t 1)⟩,
   ⟨(some 17), (some (15, true)), .call (.c (.func (.func 390) #[] #[])) [(.t 16)]⟩,
   ⟨(some 18), none, .pick (.t 15) (.t 17) (.c (.bool false))⟩,
   ⟨(some 19), none, .call (.c (.func (.func 300) #[] #[])) [(.t 18)]⟩] (some [0, 1, 5]))
 (.seq (.ops [⟨(some 20), none, .call (.c (.func (.func 291) #[] #[])) [(.c (.int .i64 1))]⟩,
   ⟨(some 21), none, .move (.t 0)⟩,
   ⟨(some 22), none, .call (.c (.func (.func 291) #[] #[])) [(.t 21)]⟩,
   ⟨(some 23), none, .buildSlice [(.int .u64 0), (.string .empty), (.slice none 0 0), (.slice none 0 0)] 4 2 [(0, (.t 20)), (1, (.t 22))]⟩,
   ⟨(some 24), none, .call (.c (.func (.func 290) #[] #[])) [(.c (.string ⟨#[98, 110]⟩)), (.t 23)]⟩,
   ⟨(some 6), none, .move (.t 24)⟩] (some [1, 5, 6]))
 (.seq (.seq (.ops [⟨(some 25), none, .move (.t 1)⟩,
   ⟨(some 26), none, .len (.t 25)⟩,
   ⟨(some 27), none, .move (.c (.int .i64 0))⟩] (some [5, 6, 25, 26, 27]))
 (.block 0
  (.loop
   (.seq (.ops [⟨(some 28), none, .bin .lss 3 (.t 27) (.t 26)⟩] (some [5, 6, 25, 26, 27, 28]))
   (.seq (.cond (.t 28)
    .skip
    (.exit 0))
   (.seq (.block 1
    (.seq (.ops [⟨(some 29), none, .indexAddr 5 (.t 25) (.t 27)⟩,
      ⟨(some 30), none, .load true 5 (.t 29)⟩,
      ⟨(some 8), none, .alloc [(.string .empty), (.bool false), (.bool false), (.string .empty), (.int .u64 0)]⟩,
      ⟨none, none, .store 5 (.t 8) (.t 30)⟩] (some [5, 6, 8, 25, 26, 27]))
    (.opsd [(0, 0, ⟨(some 31), none, .move (.t 6)⟩),
      (1, 0, ⟨(some 32), none, .fieldAddr 1 (.t 8)⟩),
      (2, 2, ⟨(some 33), none, .load false 1 (.t 32)⟩),
      (4, 0, ⟨(some 35), none, .fieldAddr 0 (.t 8)⟩),
      (5, 16, ⟨(some 36), none, .load false 1 (.t 35)⟩),
      (6, 48, ⟨(some 37), none, .build [(.int .u64 0), (.string .empty), (.slice none 0 0), (.slice none 0 0)] [(0, 1), (1, 1), (2, 1), (3, 1)] [(1, (.t 36))]⟩),
      (7, 0, ⟨(some 38), none, .fieldAddr 2 (.t 8)⟩),
      (8, 128, ⟨(some 39), none, .load true 3 (.t 38)⟩),
      (9, 0, ⟨(some 40), none, .fieldAddr 1 (.t 8)⟩),
      (10, 512, ⟨(some 41), none, .load false 1 (.t 40)⟩),
      (3, 6, ⟨(some 34), none, .call (.c (.func (.func 564) #[] #[])) [(.t 33)]⟩),
      (11, 1934, ⟨(some 42), none, .call (.c (.func (.func 302) #[] #[])) [(.t 39), (.t 41)]⟩),
      (12, 3982, ⟨(some 43), none, .build [(.int .u64 0), (.string .empty), (.slice none 0 0), (.slice none 0 0)] [(0, 1), (1, 1), (2, 1), (3, 1)] [(1, (.t 42))]⟩),
      (13, 8190, ⟨(some 44), none, .buildSlice [(.int .u64 0), (.string .empty), (.slice none 0 0), (.slice none 0 0)] 4 3 [(0, (.t 34)), (1, (.t 37)), (2, (.t 43))]⟩),
      (14, 16382, ⟨(some 45), none, .call (.c (.func (.func 290) #[] #[])) [(.c (.string ⟨#[98, 116, 116]⟩)), (.t 44)]⟩),
      (15, 32767, ⟨(some 46), none, .bin .add 9 (.t 31) (.t 45)⟩),
      (16, 65535, ⟨(some 6), none, .move (.t 46)⟩)] (some [5, 6, 25, 26, 27]))))
   (.ops [⟨(some 47), none, .bin .add 3 (.t 27) (.c (.int .i64 1))⟩,
     ⟨(some 27), none, .move (.t 47)⟩] (some [5, 6, 25, 26, 27]))))))))
 (.seq (.ops [⟨(some 48), none, .move (.t 6)⟩,
   ⟨(some 4), none, .move (.t 48)⟩,
   ⟨none, none, .store 1 (.t 5) (.c (.int .i64 0))⟩] (some [4, 5]))
 .ret)))))), [.tmp 4, .cell false 1 5]⟩

theorem is561 : FnIs Tryz.prog 561 x561 := ⟨Tryz.f561, _, Tryz.func561, by kernel_rfl, rfl, by kernel_rfl, by decide, by kernel_rfl⟩

/-- (*cloisonne/seglog.Log).Record -/
def x562 : XDecl := .code ⟨2, 
 (.seq (.ops [⟨(some 4), none, .move (.c (.pointer none))⟩,
   ⟨(some 5), none, .move (.c (.int .i64 0))⟩] (some [0, 1]))
 (.seq (.block 0
  (.seq (.ops [⟨(some 7), none, .move (.t 0)⟩,
    ⟨(some 8), none, .isNil .ptr false (.t 7)⟩,
    ⟨(some 6), none, .move (.t 8)⟩] (some [0, 1, 6]))
  (.cond (.t 6)
   (.seq (.ops [⟨(some 4), none, .move (.c (.pointer none))⟩,
     ⟨(some 5), none, .move (.c (.int .i64 2))⟩] (some [4, 5]))
   .ret)
   (.seq (.ops [⟨(some 10), none, .move (.t 0)⟩,
     ⟨(some 11), none, .call (.c (.func (.func 374) #[] #[])) [(.t 10)]⟩,
     ⟨(some 9), none, .move (.t 11)⟩] (some [0, 1, 9]))
   (.cond (.t 9)
    (.seq (.ops [⟨(some 4), none, .move (.c (.pointer none))⟩,
      ⟨(some 5), none, .move (.c (.int .i64 9))⟩] (some [4, 5]))
    .ret)
    (.seq (.ops [⟨(some 13), none, .move (.t 0)⟩,
      ⟨(some 14), none, .nilCheck (.t 13)⟩,
      ⟨(some 15), none, .fieldAddr 3 (.t 14)⟩,
      ⟨(some 16), none, .load false 1 (.t 15)⟩,
      ⟨(some 17), none, .bin .eql 3 (.t 16) (.c (.int .i64 0))⟩,
      ⟨(some 12), none, .move (.t 17)⟩] (some [0, 1, 12]))
    (.cond (.t 12)
     (.seq (.ops [⟨(some 4), none, .move (.c (.pointer none))⟩,
       ⟨(some 5), none, .move (.c (.int .i64 7))⟩] (some [4, 5]))
     .ret)
     (.seq (.ops [⟨(some 19), none, .move (.t 0)⟩,
       ⟨(some 20), none, .move (.t 1)⟩,
       ⟨(some 21), none, .calcB .len [9] 3 [(.t 20)]⟩,
       ⟨(some 22), none, .call (.c (.func (.func 565) #[] #[])) [(.t 19), (.t 21)]⟩,
       ⟨(some 23), none, .un .not (.t 22)⟩,
       ⟨(some 18), none, .move (.t 23)⟩] (some [0, 1, 18]))
     (.cond (.t 18)
      (.seq (.ops [⟨(some 4), none, .move (.c (.pointer none))⟩,
        ⟨(some 5), none, .move (.c (.int .i64 16))⟩] (some [4, 5]))
      .ret)
      .skip)))))))))
 (.seq (.opsd [(0, 0, ⟨(some 24), none, .move (.t 0)⟩),
   (1, 0, ⟨(some 25), none, .move (.t 0)⟩),
   (2, 2, ⟨(some 26), none, .nilCheck (.t 25)⟩),
   (3, 6, ⟨(some 27), none, .fieldAddr 2 (.t 26)⟩),
   (4, 14, ⟨(some 28), none, .load false 1 (.t 27)⟩),
   (5, 0, ⟨(some 29), none, .move (.t 0)⟩),
   (6, 32, ⟨(some 30), none, .nilCheck (.t 29)⟩),
   (7, 96, ⟨(some 31), none, .fieldAddr 3 (.t 30)⟩),
   (8, 224, ⟨(some 32), none, .load false 1 (.t 31)⟩),
   (9, 0, ⟨(some 33), none, .move (.t 0)⟩),
   (10, 512, ⟨(some 34), none, .nilCheck (.t 33)⟩),
   (11, 1536, ⟨(some 35), none, .fieldAddr 4 (.t 34)⟩),
   (12, 3584, ⟨(some 36), none, .load false 1 (.t 35)⟩),
   (13, 0, ⟨(some 37), none, .move (.t 1)⟩),
   (14, 8192, ⟨(some 38), none, .call (.c (.func (.func 377) #[] #[])) [(.t 37)]⟩),
   (15, 32766, ⟨(some 39), none, .build [(.pointer none), (.int .i64 0), (.int .i64 0), (.int .i64 0), (.slice none 0 0), (.int .i64 0), (.bool false)] [(0, 1), (1, 1), (2, 1), (3, 1), (4, 1), (5, 1), (6, 1)] [(1, (.t 28)), (2, (.t 32)), (3, (.t 36)), (4, (.t 38))]⟩),
   (16, 65534, ⟨(some 40), none, .box (.t 39)⟩),
   (17, 131071, ⟨(some 41), none, .call (.c (.func (.func 376) #[] #[])) [(.t 24), (.t 40)]⟩),
   (18, 262143, ⟨(some 42), none, .extract (.t 41) 0⟩),
   (19, 262143, ⟨(some 43), none, .extract (.t 41) 1⟩),
   (20, 1048575, ⟨(some 4), none, .move (.t 42)⟩),
   (21, 2097151, ⟨(some 5), none, .move (.t 43)⟩)] (some [4, 5]))
 .ret))), [.tmp 4, .tmp 5]⟩

theorem is562 : FnIs Tryz.prog 562 x562 := ⟨Tryz.f562, _, Tryz.func562, by kernel_rfl, rfl, by kernel_rfl, by decide, by kernel_rfl⟩

/-- (*cloisonne/vault.Vault).Next -/
def x563 : XDecl := .code ⟨1, 
 (.seq (.ops [⟨(some 2), none, .move (.c (.int .u64 0))⟩] (some [0]))
 (.seq (.seq (.ops [⟨(some 3), none, .move (.t 0)⟩,
   ⟨(some 4), none, .isNil .ptr false (.t 3)⟩] (some [0, 4]))
 (.cond (.t 4)
  (.seq (.ops [⟨(some 2), none, .move (.c (.int .u64 0))⟩] (some [2]))
  .ret)
  .skip))
 (.seq (.ops [⟨(some 5), none, .move (.t 0)⟩,
   ⟨(some 6), none, .nilCheck (.t 5)⟩,
   ⟨(some 7), none, .fieldAddr 9 (.t 6)⟩,
   ⟨(some 8), none, .load false 1 (.t 7)⟩,
   ⟨(some 9), none, .bin .add 77 (.t 8) (.c (.int .u64 1))⟩,
   ⟨(some 10), none, .nilCheck (.t 5)⟩,
   ⟨(some 11), none, .fieldAddr 9 (.t 10)⟩,
   ⟨none, none, .store 1 (.t 11) (.t 9)⟩] (some [0]))
 (.seq (.ops [⟨(some 12), none, .move (.t 0)⟩,
   ⟨(some 13), none, .nilCheck (.t 12)⟩,
   ⟨(some 14), none, .fieldAddr 9 (.t 13)⟩,
   ⟨(some 15), none, .load false 1 (.t 14)⟩,
   ⟨(some 2), none, .move (.t 15)⟩] (some [2]))
 .ret)))), [.tmp 2]⟩

theorem is563 : FnIs Tryz.prog 563 x563 := ⟨Tryz.f563, _, Tryz.func563, by kernel_rfl, rfl, by kernel_rfl, by decide, by kernel_rfl⟩

/-- cloisonne/record.truth -/
def x564 : XDecl := .code ⟨1, 
 (.seq (.ops [⟨(some 2), none, .alloc [(.int .u64 0), (.string .empty), (.slice none 0 0), (.slice none 0 0)]⟩] (some [0, 2]))
 (.seq (.seq (.ops [⟨(some 3), none, .move (.t 0)⟩] (some [2, 3]))
 (.cond (.t 3)
  (.seq (.ops [⟨(some 4), none, .build [(.int .u64 0), (.string .empty), (.slice none 0 0), (.slice none 0 0)] [(0, 1), (1, 1), (2, 1), (3, 1)] [(0, (.c (.int .u64 1)))]⟩,
    ⟨none, none, .store 4 (.t 2) (.t 4)⟩] (some [2]))
  .ret)
  .skip))
 (.seq (.ops [⟨(some 5), none, .build [(.int .u64 0), (.string .empty), (.slice none 0 0), (.slice none 0 0)] [(0, 1), (1, 1), (2, 1), (3, 1)] []⟩,
   ⟨none, none, .store 4 (.t 2) (.t 5)⟩] (some [2]))
 .ret))), [.cell true 4 2]⟩

theorem is564 : FnIs Tryz.prog 564 x564 := ⟨Tryz.f564, _, Tryz.func564, by kernel_rfl, rfl, by kernel_rfl, by decide, by kernel_rfl⟩

/-- (*cloisonne/seglog.Log).Room -/
def x565 : XDecl := .code ⟨2, 
 (.seq (.ops [⟨(some 4), none, .move (.c (.bool false))⟩] (some [0, 1]))
 (.seq (.ops [⟨(some 5), none, .move (.t 0)⟩,
   ⟨(some 6), none, .isNil .ptr true (.t 5)⟩,
   ⟨(some 7), none, .move (.t 6)⟩,
   ⟨(some 8), (some (7, true)), .move (.t 0)⟩,
   ⟨(some 9), (some (7, true)), .nilCheck (.t 8)⟩,
   ⟨(some 10), (some (7, true)), .fieldAddr 3 (.t 9)⟩,
   ⟨(some 11), (some (7, true)), .load false 1 (.t 10)⟩,
   ⟨(some 12), (some (7, true)), .bin .gtr 3 (.t 11) (.c (.int .i64 0))⟩,
   ⟨(some 13), none, .pick (.t 7) (.t 12) (.c (.bool false))⟩,
   ⟨(some 14), none, .move (.t 13)⟩,
   ⟨(some 15), (some (14, true)), .move (.t 0)⟩,
   ⟨(some 16), (some (14, true)), .move (.t 1)⟩,
   ⟨(some 17), (some (14, true)), .move (.t 0)⟩,
   ⟨(some 18), (some (14, true)), .nilCheck (.t 17)⟩,
   ⟨(some 19), (some (14, true)), .fieldAddr 4 (.t 18)⟩,
   ⟨(some 20), (some (14, true)), .load false 1 (.t 19)⟩,
   ⟨(some 21), (some (14, true)), .call (.c (.func (.func 375) #[] #[])) [(.t 15), (.t 16), (.t 20)]⟩,
   ⟨(some 22), none, .pick (.t 14) (.t 21) (.c (.bool false))⟩,
   ⟨(some 4), none, .move (.t 22)⟩] (some [4]))
 .ret)), [.tmp 4]⟩

theorem is565 : FnIs Tryz.prog 565 x565 := ⟨Tryz.f565, _, Tryz.func565, by kernel_rfl, rfl, by kernel_rfl, by decide, by kernel_rfl⟩

def tabE : FuncId → Option XDecl
  | 340 => some x340
  | 341 => some x341
  | 342 => some x342
  | 346 => some x346
  | 351 => some x351
  | 353 => some x353
  | 367 => some x367
  | 368 => some x368
  | 369 => some x369
  | 371 => some x371
  | 372 => some x372
  | 374 => some x374
  | 375 => some x375
  | 376 => some x376
  | 377 => some x377
  | 383 => some x383
  | 384 => some x384
  | 386 => some x386
  | 387 => some x387
  | 389 => some x389
  | 390 => some x390
  | 391 => some x391
  | 392 => some x392
  | 399 => some x399
  | 401 => some x401
  | 402 => some x402
  | 403 => some x403
  | 404 => some x404
  | 409 => some x409
  | 412 => some x412
  | 418 => some x418
  | 419 => some x419
  | 421 => some x421
  | 423 => some x423
  | 428 => some x428
  | 429 => some x429
  | 430 => some x430
  | 436 => some x436
  | 444 => some x444
  | 446 => some x446
  | 449 => some x449
  | 451 => some x451
  | 458 => some x458
  | 463 => some x463
  | 466 => some x466
  | 469 => some x469
  | 481 => some x481
  | 482 => some x482
  | 488 => some x488
  | 558 => some x558
  | 559 => some x559
  | 560 => some x560
  | 561 => some x561
  | 562 => some x562
  | 563 => some x563
  | 564 => some x564
  | 565 => some x565
  | _ => none
theorem tabE_is : ∀ f d, tabE f = some d → FnIs Tryz.prog f d := by
  intro f d h
  unfold tabE at h
  split at h
  · cases h; exact is340
  · cases h; exact is341
  · cases h; exact is342
  · cases h; exact is346
  · cases h; exact is351
  · cases h; exact is353
  · cases h; exact is367
  · cases h; exact is368
  · cases h; exact is369
  · cases h; exact is371
  · cases h; exact is372
  · cases h; exact is374
  · cases h; exact is375
  · cases h; exact is376
  · cases h; exact is377
  · cases h; exact is383
  · cases h; exact is384
  · cases h; exact is386
  · cases h; exact is387
  · cases h; exact is389
  · cases h; exact is390
  · cases h; exact is391
  · cases h; exact is392
  · cases h; exact is399
  · cases h; exact is401
  · cases h; exact is402
  · cases h; exact is403
  · cases h; exact is404
  · cases h; exact is409
  · cases h; exact is412
  · cases h; exact is418
  · cases h; exact is419
  · cases h; exact is421
  · cases h; exact is423
  · cases h; exact is428
  · cases h; exact is429
  · cases h; exact is430
  · cases h; exact is436
  · cases h; exact is444
  · cases h; exact is446
  · cases h; exact is449
  · cases h; exact is451
  · cases h; exact is458
  · cases h; exact is463
  · cases h; exact is466
  · cases h; exact is469
  · cases h; exact is481
  · cases h; exact is482
  · cases h; exact is488
  · cases h; exact is558
  · cases h; exact is559
  · cases h; exact is560
  · cases h; exact is561
  · cases h; exact is562
  · cases h; exact is563
  · cases h; exact is564
  · cases h; exact is565
  · cases h

end Go.Proofs.YtglefgcnafoafaaGreatDoor.X
