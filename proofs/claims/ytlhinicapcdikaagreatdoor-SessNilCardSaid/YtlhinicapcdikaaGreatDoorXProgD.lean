/-
  Own work, printed by a program of ours (mkprog.py): the functions of this seat as code of the abstract run, and that each is the model's.
-/
import Derived.Test.YtlhinicapcdikaaGreatDoorXLaw
import Derived.Test.YtlhinicapcdikaaGreatDoorChecked
set_option maxRecDepth 100000
namespace Go.Proofs.YtlhinicapcdikaaGreatDoor.X
open Go

/-- (*cloisonne/wset.Set).lay -/
def x363 : XDecl := .code ⟨3, 
 (.seq (.ops [⟨(some 4), none, .box (.t 1)⟩] (some [0, 2, 4]))
 (.seq (.ops [⟨(some 9), none, .move (.t 0)⟩,
   ⟨(some 10), none, .fieldAddr 0 (.t 4)⟩,
   ⟨(some 11), none, .load false 1 (.t 10)⟩,
   ⟨(some 12), none, .call (.c (.func (.func 440) #[] #[])) [(.t 9), (.t 11)]⟩,
   ⟨(some 8), none, .move (.t 12)⟩,
   ⟨(some 13), none, .extract (.t 8) 0⟩,
   ⟨(some 14), none, .extract (.t 8) 1⟩,
   ⟨(some 6), none, .move (.t 13)⟩,
   ⟨(some 7), none, .move (.t 14)⟩] (some [0, 2, 4, 6, 7]))
 (.block 0
  (.seq (.ops [⟨(some 16), none, .move (.t 7)⟩,
    ⟨(some 17), none, .move (.t 16)⟩,
    ⟨(some 18), (some (17, true)), .move (.t 2)⟩,
    ⟨(some 19), none, .pick (.t 17) (.t 18) (.c (.bool false))⟩,
    ⟨(some 15), none, .move (.t 19)⟩] (some [0, 2, 4, 6, 7, 15]))
  (.cond (.t 15)
   (.opsd [(0, 0, ⟨(some 20), none, .move (.t 0)⟩),
     (1, 1, ⟨(some 21), none, .nilCheck (.t 20)⟩),
     (2, 3, ⟨(some 22), none, .fieldAddr 0 (.t 21)⟩),
     (3, 7, ⟨(some 23), none, .load false 1 (.t 22)⟩),
     (4, 0, ⟨(some 24), none, .move (.t 6)⟩),
     (5, 0, ⟨(some 25), none, .load true 5 (.t 4)⟩),
     (6, 63, ⟨(some 26), none, .indexAddr 5 (.t 23) (.t 24)⟩),
     (7, 127, ⟨none, none, .store 5 (.t 26) (.t 25)⟩)] (some []))
   (.seq (.ops [⟨(some 28), none, .move (.t 7)⟩,
     ⟨(some 27), none, .move (.t 28)⟩] (some [0, 2, 4, 6, 27]))
   (.cond (.t 27)
    (.ops [⟨(some 29), none, .move (.t 0)⟩,
      ⟨(some 30), none, .move (.t 0)⟩,
      ⟨(some 31), none, .nilCheck (.t 30)⟩,
      ⟨(some 32), none, .fieldAddr 0 (.t 31)⟩,
      ⟨(some 33), none, .load false 1 (.t 32)⟩,
      ⟨(some 34), none, .move (.t 6)⟩,
      ⟨(some 35), none, .move (.t 6)⟩,
      ⟨(some 36), none, .bin .add 3 (.t 35) (.c (.int .i64 1))⟩,
      ⟨(some 37), none, .call (.c (.func (.func 442) #[] #[])) [(.t 33), (.t 34), (.t 36)]⟩,
      ⟨(some 38), none, .nilCheck (.t 29)⟩,
      ⟨(some 39), none, .fieldAddr 0 (.t 38)⟩,
      ⟨none, none, .store 1 (.t 39) (.t 37)⟩] (some []))
    (.seq (.ops [⟨(some 41), none, .move (.t 2)⟩,
      ⟨(some 40), none, .move (.t 41)⟩] (some [0, 4, 6, 40]))
    (.cond (.t 40)
     (.opsd [(0, 0, ⟨(some 42), none, .move (.t 0)⟩),
       (1, 0, ⟨(some 43), none, .move (.t 0)⟩),
       (2, 2, ⟨(some 44), none, .nilCheck (.t 43)⟩),
       (3, 6, ⟨(some 45), none, .fieldAddr 0 (.t 44)⟩),
       (4, 14, ⟨(some 46), none, .load false 1 (.t 45)⟩),
       (5, 0, ⟨(some 47), none, .move (.t 6)⟩),
       (6, 0, ⟨(some 48), none, .load true 5 (.t 4)⟩),
       (7, 64, ⟨(some 49), none, .buildSlice [(.string .empty), (.bool false), (.bool false), (.string .empty), (.int .u64 0)] 5 1 [(0, (.t 48))]⟩),
       (8, 254, ⟨(some 50), none, .call (.c (.func (.func 443) #[] #[])) [(.t 46), (.t 47), (.t 49)]⟩),
       (9, 511, ⟨(some 51), none, .nilCheck (.t 42)⟩),
       (10, 1023, ⟨(some 52), none, .fieldAddr 0 (.t 51)⟩),
       (11, 2047, ⟨none, none, .store 1 (.t 52) (.t 50)⟩)] (some []))
     .skip))))))))), []⟩

theorem is363 : FnIs Tryz.prog 363 x363 := ⟨Tryz.f363, _, Tryz.func363, by kernel_rfl, rfl, by kernel_rfl, by decide, by kernel_rfl⟩

/-- cloisonne/wire.letter -/
def x364 : XDecl := .code ⟨1, 
 (.seq (.ops [⟨(some 2), none, .move (.c (.bool false))⟩] (some [0]))
 (.seq (.ops [⟨(some 3), none, .move (.t 0)⟩,
   ⟨(some 4), none, .call (.c (.func (.func 444) #[] #[])) [(.c (.string ⟨#[98, 110, 116, 102, 108]⟩)), (.t 3)]⟩,
   ⟨(some 5), none, .bin .geq 3 (.t 4) (.c (.int .i64 0))⟩,
   ⟨(some 2), none, .move (.t 5)⟩] (some [2]))
 .ret)), [.tmp 2]⟩

theorem is364 : FnIs Tryz.prog 364 x364 := ⟨Tryz.f364, _, Tryz.func364, by kernel_rfl, rfl, by kernel_rfl, by decide, by kernel_rfl⟩

/-- cloisonne/wire.empty -/
def x365 : XDecl := .code ⟨4, 
 (.seq (.ops [⟨(some 4), none, .box (.t 0)⟩,
   ⟨(some 8), none, .move (.c (.bool false))⟩] (some [1, 2, 3, 4]))
 (.seq (.ops [⟨(some 9), none, .move (.t 1)⟩,
   ⟨(some 10), none, .move (.t 9)⟩,
   ⟨(some 11), (some (10, false)), .fieldAddr 0 (.t 4)⟩,
   ⟨(some 12), (some (10, false)), .load false 1 (.t 11)⟩,
   ⟨(some 13), (some (10, false)), .bin .eql 23 (.t 12) (.c (.int .u64 0))⟩,
   ⟨(some 14), none, .pick (.t 10) (.c (.bool true)) (.t 13)⟩,
   ⟨(some 15), none, .move (.t 14)⟩,
   ⟨(some 16), (some (15, true)), .move (.t 2)⟩,
   ⟨(some 17), (some (15, true)), .move (.t 16)⟩,
   ⟨(some 18), (some (17, false)), .fieldAddr 1 (.t 4)⟩,
   ⟨(some 19), (some (17, false)), .load false 1 (.t 18)⟩,
   ⟨(some 20), (some (17, false)), .bin .eql 9 (.t 19) (.c (.string .empty))⟩,
   ⟨(some 21), (some (15, true)), .pick (.t 17) (.c (.bool true)) (.t 20)⟩,
   ⟨(some 22), none, .pick (.t 15) (.t 21) (.c (.bool false))⟩,
   ⟨(some 23), none, .move (.t 22)⟩,
   ⟨(some 24), (some (23, true)), .move (.t 3)⟩,
   ⟨(some 25), (some (23, true)), .move (.t 24)⟩,
   ⟨(some 26), (some (25, false)), .fieldAddr 2 (.t 4)⟩,
   ⟨(some 27), (some (25, false)), .load false 1 (.t 26)⟩,
   ⟨(some 28), (some (25, false)), .len (.t 27)⟩,
   ⟨(some 29), (some (25, false)), .bin .eql 3 (.t 28) (.c (.int .i64 0))⟩,
   ⟨(some 30), (some (23, true)), .pick (.t 25) (.c (.bool true)) (.t 29)⟩,
   ⟨(some 31), none, .pick (.t 23) (.t 30) (.c (.bool false))⟩,
   ⟨(some 8), none, .move (.t 31)⟩] (some [8]))
 .ret)), [.tmp 8]⟩

theorem is365 : FnIs Tryz.prog 365 x365 := ⟨Tryz.f365, _, Tryz.func365, by kernel_rfl, rfl, by kernel_rfl, by decide, by kernel_rfl⟩

/-- (*cloisonne/wire.printer).number -/
def x366 : XDecl := .code ⟨2, 
 (.seq (.block 0
  (.loop
   (.seq (.seq (.ops [⟨(some 4), none, .move (.t 1)⟩,
     ⟨(some 5), none, .bin .geq 23 (.t 4) (.c (.int .u64 128))⟩] (some [0, 1, 5]))
   (.cond (.t 5)
    .skip
    (.exit 0)))
   (.block 1
    (.seq (.ops [⟨(some 6), none, .move (.t 0)⟩,
      ⟨(some 7), none, .move (.t 0)⟩,
      ⟨(some 8), none, .nilCheck (.t 7)⟩,
      ⟨(some 9), none, .fieldAddr 0 (.t 8)⟩,
      ⟨(some 10), none, .load false 1 (.t 9)⟩,
      ⟨(some 11), none, .move (.t 1)⟩,
      ⟨(some 12), none, .bin .rem 23 (.t 11) (.c (.int .u64 128))⟩,
      ⟨(some 13), none, .conv 23 5 (.t 12)⟩,
      ⟨(some 14), none, .bin .or 5 (.t 13) (.c (.int .u8 128))⟩,
      ⟨(some 15), none, .buildSlice [(.int .u8 0)] 1 1 [(0, (.t 14))]⟩,
      ⟨(some 16), none, .append 1 1 [(.int .u8 0)] (.t 10) (.t 15)⟩,
      ⟨(some 17), none, .nilCheck (.t 6)⟩,
      ⟨(some 18), none, .fieldAddr 0 (.t 17)⟩,
      ⟨none, none, .store 1 (.t 18) (.t 16)⟩] (some [0, 1]))
    (.ops [⟨(some 19), none, .move (.t 1)⟩,
      ⟨(some 20), none, .bin .quo 23 (.t 19) (.c (.int .u64 128))⟩,
      ⟨(some 1), none, .move (.t 20)⟩] (some [0, 1])))))))
 (.ops [⟨(some 21), none, .move (.t 0)⟩,
   ⟨(some 22), none, .move (.t 0)⟩,
   ⟨(some 23), none, .nilCheck (.t 22)⟩,
   ⟨(some 24), none, .fieldAddr 0 (.t 23)⟩,
   ⟨(some 25), none, .load false 1 (.t 24)⟩,
   ⟨(some 26), none, .move (.t 1)⟩,
   ⟨(some 27), none, .conv 23 5 (.t 26)⟩,
   ⟨(some 28), none, .buildSlice [(.int .u8 0)] 1 1 [(0, (.t 27))]⟩,
   ⟨(some 29), none, .append 1 1 [(.int .u8 0)] (.t 25) (.t 28)⟩,
   ⟨(some 30), none, .nilCheck (.t 21)⟩,
   ⟨(some 31), none, .fieldAddr 0 (.t 30)⟩,
   ⟨none, none, .store 1 (.t 31) (.t 29)⟩] (some []))), []⟩

theorem is366 : FnIs Tryz.prog 366 x366 := ⟨Tryz.f366, _, Tryz.func366, by kernel_rfl, rfl, by kernel_rfl, by decide, by kernel_rfl⟩

/-- cloisonne/chain.Last -/
def x380 : XDecl := .code ⟨1, 
 (.seq (.ops [⟨(some 2), none, .alloc [(.int .i64 0), (.bool false), (.bool false), (.string .empty), (.int .u64 0)]⟩,
   ⟨(some 3), none, .move (.c (.bool false))⟩] (some [0, 2]))
 (.seq (.seq (.ops [⟨(some 4), none, .move (.t 0)⟩,
   ⟨(some 5), none, .call (.c (.func (.func 194) #[] #[])) [(.t 4)]⟩,
   ⟨(some 6), none, .un .not (.t 5)⟩,
   ⟨(some 7), none, .move (.t 6)⟩,
   ⟨(some 8), (some (7, false)), .move (.t 0)⟩,
   ⟨(some 9), (some (7, false)), .len (.t 8)⟩,
   ⟨(some 10), (some (7, false)), .bin .eql 3 (.t 9) (.c (.int .i64 0))⟩,
   ⟨(some 11), none, .pick (.t 7) (.c (.bool true)) (.t 10)⟩] (some [0, 2, 11]))
 (.cond (.t 11)
  (.seq (.ops [⟨(some 12), none, .build [(.int .i64 0), (.bool false), (.bool false), (.string .empty), (.int .u64 0)] [(0, 1), (1, 1), (2, 3)] []⟩,
    ⟨none, none, .store 5 (.t 2) (.t 12)⟩,
    ⟨(some 3), none, .move (.c (.bool false))⟩] (some [2, 3]))
  .ret)
  .skip))
 (.seq (.ops [⟨(some 13), none, .move (.t 0)⟩,
   ⟨(some 14), none, .move (.t 0)⟩,
   ⟨(some 15), none, .len (.t 14)⟩,
   ⟨(some 16), none, .bin .sub 3 (.t 15) (.c (.int .i64 1))⟩,
   ⟨(some 17), none, .indexAddr 5 (.t 13) (.t 16)⟩,
   ⟨(some 18), none, .load true 5 (.t 17)⟩,
   ⟨none, none, .store 5 (.t 2) (.t 18)⟩,
   ⟨(some 3), none, .move (.c (.bool true))⟩] (some [2, 3]))
 .ret))), [.cell true 5 2, .tmp 3]⟩

theorem is380 : FnIs Tryz.prog 380 x380 := ⟨Tryz.f380, _, Tryz.func380, by kernel_rfl, rfl, by kernel_rfl, by decide, by kernel_rfl⟩

/-- cloisonne/value.Weight -/
def x381 : XDecl := .code ⟨1, 
 (.seq (.ops [⟨(some 1), none, .box (.t 0)⟩,
   ⟨(some 2), none, .move (.c (.int .i64 0))⟩] (some [1]))
 (.seq (.ops [⟨(some 6), none, .load true 3 (.t 1)⟩,
   ⟨(some 7), none, .call (.c (.func (.func 280) #[] #[])) [(.t 6)]⟩,
   ⟨(some 5), none, .move (.t 7)⟩,
   ⟨(some 8), none, .extract (.t 5) 0⟩,
   ⟨(some 9), none, .extract (.t 5) 1⟩,
   ⟨(some 3), none, .move (.t 8)⟩,
   ⟨(some 4), none, .move (.t 9)⟩] (some [3]))
 (.seq (.ops [⟨(some 10), none, .move (.t 3)⟩,
   ⟨(some 11), none, .calcB .len [9] 3 [(.t 10)]⟩,
   ⟨(some 2), none, .move (.t 11)⟩] (some [2]))
 .ret))), [.tmp 2]⟩

theorem is381 : FnIs Tryz.prog 381 x381 := ⟨Tryz.f381, _, Tryz.func381, by kernel_rfl, rfl, by kernel_rfl, by decide, by kernel_rfl⟩

/-- (*cloisonne/vault.Vault).Free -/
def x389 : XDecl := .code ⟨2, 
 (.seq (.ops [⟨(some 4), none, .move (.t 0)⟩,
   ⟨(some 5), none, .isNil .ptr true (.t 4)⟩] (some [0, 1, 5]))
 (.cond (.t 5)
  (.ops [⟨(some 6), none, .move (.t 0)⟩,
    ⟨(some 7), none, .nilCheck (.t 6)⟩,
    ⟨(some 8), none, .fieldAddr 8 (.t 7)⟩,
    ⟨(some 9), none, .load false 1 (.t 8)⟩,
    ⟨(some 10), none, .move (.t 1)⟩,
    ⟨none, none, .mapDel true (.t 9) (.t 10)⟩] (some []))
  .skip)), []⟩

theorem is389 : FnIs Tryz.prog 389 x389 := ⟨Tryz.f389, _, Tryz.func389, by kernel_rfl, rfl, by kernel_rfl, by decide, by kernel_rfl⟩

/-- (*cloisonne/extent.World).power -/
def x406 : XDecl := .code ⟨3, 
 (.seq (.ops [⟨(some 6), none, .move (.c (.int .i64 0))⟩] (some [0, 1, 2]))
 (.seq (.seq (.ops [⟨(some 7), none, .move (.t 0)⟩,
   ⟨(some 8), none, .isNil .ptr true (.t 7)⟩,
   ⟨(some 9), none, .move (.t 8)⟩,
   ⟨(some 10), (some (9, true)), .move (.t 0)⟩,
   ⟨(some 11), (some (9, true)), .nilCheck (.t 10)⟩,
   ⟨(some 12), (some (9, true)), .fieldAddr 0 (.t 11)⟩,
   ⟨(some 13), (some (9, true)), .load false 1 (.t 12)⟩,
   ⟨(some 14), none, .pick (.t 9) (.t 13) (.c (.bool false))⟩] (some [0, 1, 2, 14]))
 (.cond (.t 14)
  (.seq (.ops [⟨(some 6), none, .move (.c (.int .i64 6))⟩] (some [6]))
  .ret)
  .skip))
 (.seq (.ops [⟨(some 15), none, .move (.t 0)⟩,
   ⟨(some 16), none, .move (.t 1)⟩,
   ⟨(some 17), none, .move (.t 2)⟩,
   ⟨(some 18), none, .call (.c (.func (.func 205) #[] #[])) [(.t 15), (.t 16), (.t 17)]⟩,
   ⟨(some 6), none, .move (.t 18)⟩] (some [6]))
 .ret))), [.tmp 6]⟩

theorem is406 : FnIs Tryz.prog 406 x406 := ⟨Tryz.f406, _, Tryz.func406, by kernel_rfl, rfl, by kernel_rfl, by decide, by kernel_rfl⟩

/-- cloisonne/sector.Right -/
def x408 : XDecl := .code ⟨1, 
 (.seq (.ops [⟨(some 1), none, .box (.t 0)⟩,
   ⟨(some 2), none, .move (.c (.bool false))⟩] (some [1]))
 (.seq (.ops [⟨(some 3), none, .fieldAddr 0 (.t 1)⟩,
   ⟨(some 4), none, .load false 1 (.t 3)⟩,
   ⟨(some 5), none, .call (.c (.func (.func 468) #[] #[])) [(.t 4), (.c (.int .i64 1)), (.c (.int .i64 2147483647))]⟩,
   ⟨(some 6), none, .move (.t 5)⟩,
   ⟨(some 7), (some (6, true)), .fieldAddr 2 (.t 1)⟩,
   ⟨(some 8), (some (6, true)), .load false 1 (.t 7)⟩,
   ⟨(some 9), (some (6, true)), .call (.c (.func (.func 468) #[] #[])) [(.t 8), (.c (.int .i64 1)), (.c (.int .i64 2147483647))]⟩,
   ⟨(some 10), none, .pick (.t 6) (.t 9) (.c (.bool false))⟩,
   ⟨(some 11), none, .move (.t 10)⟩,
   ⟨(some 12), (some (11, true)), .fieldAddr 1 (.t 1)⟩,
   ⟨(some 13), (some (11, true)), .load false 1 (.t 12)⟩,
   ⟨(some 14), (some (11, true)), .call (.c (.func (.func 468) #[] #[])) [(.t 13), (.c (.int .i64 0)), (.c (.int .i64 127))]⟩,
   ⟨(some 15), none, .pick (.t 11) (.t 14) (.c (.bool false))⟩,
   ⟨(some 16), none, .move (.t 15)⟩,
   ⟨(some 17), (some (16, true)), .fieldAddr 4 (.t 1)⟩,
   ⟨(some 18), (some (16, true)), .load false 1 (.t 17)⟩,
   ⟨(some 19), (some (16, true)), .call (.c (.func (.func 468) #[] #[])) [(.t 18), (.c (.int .i64 1)), (.c (.int .i64 128))]⟩,
   ⟨(some 20), none, .pick (.t 16) (.t 19) (.c (.bool false))⟩,
   ⟨(some 21), none, .move (.t 20)⟩,
   ⟨(some 22), (some (21, true)), .fieldAddr 3 (.t 1)⟩,
   ⟨(some 23), (some (21, true)), .load false 1 (.t 22)⟩,
   ⟨(some 24), (some (21, true)), .fieldAddr 4 (.t 1)⟩,
   ⟨(some 25), (some (21, true)), .load false 1 (.t 24)⟩,
   ⟨(some 26), (some (21, true)), .bin .sub 3 (.t 25) (.c (.int .i64 1))⟩,
   ⟨(some 27), (some (21, true)), .call (.c (.func (.func 468) #[] #[])) [(.t 23), (.c (.int .i64 0)), (.t 26)]⟩,
   ⟨(some 28), none, .pick (.t 21) (.t 27) (.c (.bool false))⟩,
   ⟨(some 2), none, .move (.t 28)⟩] (some [2]))
 .ret)), [.tmp 2]⟩

theorem is408 : FnIs Tryz.prog 408 x408 := ⟨Tryz.f408, _, Tryz.func408, by kernel_rfl, rfl, by kernel_rfl, by decide, by kernel_rfl⟩

/-- cloisonne/sector.Count -/
def x413 : XDecl := .code ⟨1, 
 (.seq (.ops [⟨(some 2), none, .move (.c (.int .i64 0))⟩] (some [0]))
 (.seq (.seq (.ops [⟨(some 3), none, .move (.t 0)⟩,
   ⟨(some 4), none, .bin .lss 3 (.t 3) (.c (.int .i64 0))⟩] (some [0, 4]))
 (.cond (.t 4)
  (.seq (.ops [⟨(some 2), none, .move (.c (.int .i64 0))⟩] (some [2]))
  .ret)
  .skip))
 (.seq (.ops [⟨(some 5), none, .move (.t 0)⟩,
   ⟨(some 6), none, .bin .sub 3 (.t 5) (.c (.int .i64 1))⟩,
   ⟨(some 7), none, .bin .quo 3 (.t 6) (.c (.int .i64 50))⟩,
   ⟨(some 8), none, .bin .add 3 (.t 7) (.c (.int .i64 1))⟩,
   ⟨(some 9), none, .calcB .max [3, 3] 3 [(.c (.int .i64 1)), (.t 8)]⟩,
   ⟨(some 2), none, .move (.t 9)⟩] (some [2]))
 .ret))), [.tmp 2]⟩

theorem is413 : FnIs Tryz.prog 413 x413 := ⟨Tryz.f413, _, Tryz.func413, by kernel_rfl, rfl, by kernel_rfl, by decide, by kernel_rfl⟩

/-- cloisonne/sector.Pack -/
def x414 : XDecl := .code ⟨2, 
 (.seq (.ops [⟨(some 2), none, .box (.t 0)⟩,
   ⟨(some 4), none, .move (.c (.string .empty))⟩,
   ⟨(some 5), none, .move (.c (.int .i64 0))⟩] (some [1, 2]))
 (.seq (.block 0
  (.seq (.ops [⟨(some 8), none, .load true 5 (.t 2)⟩,
    ⟨(some 9), none, .call (.c (.func (.func 408) #[] #[])) [(.t 8)]⟩,
    ⟨(some 10), none, .un .not (.t 9)⟩,
    ⟨(some 7), none, .move (.t 10)⟩] (some [1, 2, 7]))
  (.cond (.t 7)
   (.seq (.ops [⟨(some 4), none, .move (.c (.string .empty))⟩,
     ⟨(some 5), none, .move (.c (.int .i64 1))⟩] (some [4, 5]))
   .ret)
   (.seq (.ops [⟨(some 12), none, .move (.t 1)⟩,
     ⟨(some 13), none, .calcB .len [9] 3 [(.t 12)]⟩,
     ⟨(some 14), none, .bin .gtr 3 (.t 13) (.c (.int .i64 50))⟩,
     ⟨(some 11), none, .move (.t 14)⟩] (some [1, 2, 11]))
   (.cond (.t 11)
    (.seq (.ops [⟨(some 4), none, .move (.c (.string .empty))⟩,
      ⟨(some 5), none, .move (.c (.int .i64 5))⟩] (some [4, 5]))
    .ret)
    .skip)))))
 (.seq (.ops [⟨(some 15), none, .buildSlice [(.int .u8 0)] 1 1 [(0, (.c (.int .u8 193)))]⟩,
   ⟨(some 16), none, .fieldAddr 0 (.t 2)⟩,
   ⟨(some 17), none, .load false 1 (.t 16)⟩,
   ⟨(some 18), none, .call (.c (.func (.func 477) #[] #[])) [(.t 15), (.t 17), (.c (.int .i64 4))]⟩,
   ⟨(some 6), none, .move (.t 18)⟩] (some [1, 2, 6]))
 (.seq (.ops [⟨(some 19), none, .move (.t 6)⟩,
   ⟨(some 20), none, .fieldAddr 1 (.t 2)⟩,
   ⟨(some 21), none, .load false 1 (.t 20)⟩,
   ⟨(some 22), none, .call (.c (.func (.func 477) #[] #[])) [(.t 19), (.t 21), (.c (.int .i64 2))]⟩,
   ⟨(some 6), none, .move (.t 22)⟩] (some [1, 2, 6]))
 (.seq (.ops [⟨(some 23), none, .move (.t 6)⟩,
   ⟨(some 24), none, .fieldAddr 2 (.t 2)⟩,
   ⟨(some 25), none, .load false 1 (.t 24)⟩,
   ⟨(some 26), none, .call (.c (.func (.func 477) #[] #[])) [(.t 23), (.t 25), (.c (.int .i64 4))]⟩,
   ⟨(some 6), none, .move (.t 26)⟩] (some [1, 2, 6]))
 (.seq (.ops [⟨(some 27), none, .move (.t 6)⟩,
   ⟨(some 28), none, .fieldAddr 3 (.t 2)⟩,
   ⟨(some 29), none, .load false 1 (.t 28)⟩,
   ⟨(some 30), none, .conv 3 5 (.t 29)⟩,
   ⟨(some 31), none, .fieldAddr 4 (.t 2)⟩,
   ⟨(some 32), none, .load false 1 (.t 31)⟩,
   ⟨(some 33), none, .conv 3 5 (.t 32)⟩,
   ⟨(some 34), none, .move (.t 1)⟩,
   ⟨(some 35), none, .calcB .len [9] 3 [(.t 34)]⟩,
   ⟨(some 36), none, .conv 3 5 (.t 35)⟩,
   ⟨(some 37), none, .buildSlice [(.int .u8 0)] 1 3 [(0, (.t 30)), (1, (.t 33)), (2, (.t 36))]⟩,
   ⟨(some 38), none, .append 1 1 [(.int .u8 0)] (.t 27) (.t 37)⟩,
   ⟨(some 6), none, .move (.t 38)⟩] (some [1, 6]))
 (.seq (.ops [⟨(some 39), none, .move (.t 6)⟩,
   ⟨(some 40), none, .move (.t 1)⟩,
   ⟨(some 41), none, .append 1 1 [(.int .u8 0)] (.t 39) (.t 40)⟩,
   ⟨(some 6), none, .move (.t 41)⟩] (some [6]))
 (.seq (.ops [⟨(some 42), none, .move (.t 6)⟩,
   ⟨(some 43), none, .move (.t 6)⟩,
   ⟨(some 44), none, .len (.t 43)⟩,
   ⟨(some 45), none, .bin .sub 3 (.c (.int .i64 64)) (.t 44)⟩,
   ⟨(some 46), none, .appendZeros 1 1 [(.int .u8 0)] (.t 42) (.t 45)⟩,
   ⟨(some 47), none, .bstr (.t 46)⟩,
   ⟨(some 4), none, .move (.t 47)⟩,
   ⟨(some 5), none, .move (.c (.int .i64 0))⟩] (some [4, 5]))
 .ret)))))))), [.tmp 4, .tmp 5]⟩

theorem is414 : FnIs Tryz.prog 414 x414 := ⟨Tryz.f414, _, Tryz.func414, by kernel_rfl, rfl, by kernel_rfl, by decide, by kernel_rfl⟩

/-- (*cloisonne/extent.World).Write -/
def x415 : XDecl := .code ⟨4, 
 (.seq (.ops [⟨(some 8), none, .move (.c (.int .i64 0))⟩] (some [0, 1, 2, 3]))
 (.seq (.ops [⟨(some 10), none, .move (.t 0)⟩,
   ⟨(some 11), none, .move (.t 1)⟩,
   ⟨(some 12), none, .move (.t 2)⟩,
   ⟨(some 13), none, .call (.c (.func (.func 406) #[] #[])) [(.t 10), (.t 11), (.t 12)]⟩,
   ⟨(some 9), none, .move (.t 13)⟩] (some [0, 1, 2, 3, 9]))
 (.seq (.block 0
  (.seq (.ops [⟨(some 15), none, .move (.t 9)⟩,
    ⟨(some 16), none, .bin .neq 34 (.t 15) (.c (.int .i64 0))⟩,
    ⟨(some 14), none, .move (.t 16)⟩] (some [0, 1, 2, 3, 9, 14]))
  (.cond (.t 14)
   (.seq (.ops [⟨(some 17), none, .move (.t 9)⟩,
     ⟨(some 8), none, .move (.t 17)⟩] (some [8]))
   .ret)
   (.seq (.ops [⟨(some 19), none, .move (.t 3)⟩,
     ⟨(some 20), none, .calcB .len [9] 3 [(.t 19)]⟩,
     ⟨(some 21), none, .bin .gtr 3 (.t 20) (.c (.int .i64 64))⟩,
     ⟨(some 18), none, .move (.t 21)⟩] (some [0, 1, 2, 3, 18]))
   (.cond (.t 18)
    (.seq (.ops [⟨(some 8), none, .move (.c (.int .i64 5))⟩] (some [8]))
    .ret)
    .skip)))))
 (.seq (.ops [⟨(some 22), none, .move (.t 0)⟩,
   ⟨(some 23), none, .nilCheck (.t 22)⟩,
   ⟨(some 24), none, .fieldAddr 3 (.t 23)⟩,
   ⟨(some 25), none, .load false 1 (.t 24)⟩,
   ⟨(some 26), none, .move (.t 1)⟩,
   ⟨(some 27), none, .indexAddr 1 (.t 25) (.t 26)⟩,
   ⟨(some 28), none, .load false 1 (.t 27)⟩,
   ⟨(some 29), none, .move (.t 2)⟩,
   ⟨(some 30), none, .move (.t 3)⟩,
   ⟨none, none, .mapUpdate true (.t 28) (.t 29) (.t 30)⟩] (some []))
 (.seq (.ops [⟨(some 8), none, .move (.c (.int .i64 0))⟩] (some [8]))
 .ret))))), [.tmp 8]⟩

theorem is415 : FnIs Tryz.prog 415 x415 := ⟨Tryz.f415, _, Tryz.func415, by kernel_rfl, rfl, by kernel_rfl, by decide, by kernel_rfl⟩

/-- cloisonne/chain.Add -/
def x423 : XDecl := .code ⟨2, 
 (.seq (.ops [⟨(some 3), none, .box (.t 1)⟩,
   ⟨(some 4), none, .move (.c (.slice none 0 0))⟩,
   ⟨(some 5), none, .move (.c (.int .i64 0))⟩] (some [0, 3]))
 (.seq (.opsd [(0, 0, ⟨(some 7), none, .move (.t 0)⟩),
   (2, 0, ⟨(some 9), none, .load true 5 (.t 3)⟩),
   (3, 4, ⟨(some 10), none, .buildSlice [(.int .i64 0), (.bool false), (.bool false), (.string .empty), (.int .u64 0)] 5 1 [(0, (.t 9))]⟩),
   (1, 1, ⟨(some 8), none, .call (.c (.func (.func 200) #[] #[])) [(.t 7)]⟩),
   (4, 15, ⟨(some 11), none, .append 5 48 [(.int .i64 0), (.bool false), (.bool false), (.string .empty), (.int .u64 0)] (.t 8) (.t 10)⟩),
   (5, 31, ⟨(some 6), none, .move (.t 11)⟩)] (some [6]))
 (.seq (.seq (.ops [⟨(some 12), none, .move (.t 6)⟩,
   ⟨(some 13), none, .call (.c (.func (.func 194) #[] #[])) [(.t 12)]⟩,
   ⟨(some 14), none, .un .not (.t 13)⟩] (some [6, 14]))
 (.cond (.t 14)
  (.seq (.ops [⟨(some 4), none, .move (.c (.slice none 0 0))⟩,
    ⟨(some 5), none, .move (.c (.int .i64 1))⟩] (some [4, 5]))
  .ret)
  .skip))
 (.seq (.ops [⟨(some 15), none, .move (.t 6)⟩,
   ⟨(some 4), none, .move (.t 15)⟩,
   ⟨(some 5), none, .move (.c (.int .i64 0))⟩] (some [4, 5]))
 .ret)))), [.tmp 4, .tmp 5]⟩

theorem is423 : FnIs Tryz.prog 423 x423 := ⟨Tryz.f423, _, Tryz.func423, by kernel_rfl, rfl, by kernel_rfl, by decide, by kernel_rfl⟩

/-- (*cloisonne/ring.Ring).last -/
def x425 : XDecl := .code ⟨1, 
 (.seq (.ops [⟨(some 2), none, .move (.c (.int .u64 0))⟩] (some [0]))
 (.seq (.seq (.ops [⟨(some 3), none, .move (.t 0)⟩,
   ⟨(some 4), none, .nilCheck (.t 3)⟩,
   ⟨(some 5), none, .fieldAddr 3 (.t 4)⟩,
   ⟨(some 6), none, .load false 1 (.t 5)⟩,
   ⟨(some 7), none, .len (.t 6)⟩,
   ⟨(some 8), none, .bin .eql 3 (.t 7) (.c (.int .i64 0))⟩] (some [0, 8]))
 (.cond (.t 8)
  (.seq (.ops [⟨(some 2), none, .move (.c (.int .u64 0))⟩] (some [2]))
  .ret)
  .skip))
 (.seq (.opsr [⟨(some 9), none, .move (.t 0)⟩,
   ⟨(some 10), none, .nilCheck (.t 9)⟩,
   ⟨(some 11), none, .fieldAddr 3 (.t 10)⟩,
   ⟨(some 12), none, .load false 1 (.t 11)⟩,
   ⟨(some 13), none, .move (.t 0)⟩,
   ⟨(some 14), none, .nilCheck (.t 13)⟩,
   ⟨(some 15), none, .fieldAddr 3 (.t 14)⟩,
   ⟨(some 16), none, .load false 1 (.t 15)⟩,
   ⟨(some 17), none, .len (.t 16)⟩,
   ⟨(some 18), none, .bin .sub 3 (.t 17) (.c (.int .i64 1))⟩,
   ⟨(some 19), none, .indexAddr 1 (.t 12) (.t 18)⟩,
   ⟨(some 20), none, .load false 1 (.t 19)⟩,
   ⟨(some 2), none, .move (.t 20)⟩] (some [2]))
 .ret))), [.tmp 2]⟩

theorem is425 : FnIs Tryz.prog 425 x425 := ⟨Tryz.f425, _, Tryz.func425, by kernel_rfl, rfl, by kernel_rfl, by decide, by kernel_rfl⟩

/-- slices.IndexFunc[[]uint64,uint64] -/
def x428 : XDecl := .code ⟨2, 
 (.seq (.ops [⟨(some 4), none, .move (.c (.int .i64 0))⟩] (some [0, 1]))
 (.seq (.seq (.ops [⟨(some 6), none, .move (.t 0)⟩,
   ⟨(some 7), none, .len (.t 6)⟩,
   ⟨(some 8), none, .move (.c (.int .i64 0))⟩] (some [0, 1, 7, 8]))
 (.block 0
  (.loop
   (.seq (.ops [⟨(some 9), none, .bin .lss 3 (.t 8) (.t 7)⟩] (some [0, 1, 7, 8, 9]))
   (.seq (.cond (.t 9)
    .skip
    (.exit 0))
   (.seq (.block 1
    (.seq (.ops [⟨(some 10), none, .move (.t 8)⟩,
      ⟨(some 5), none, .move (.t 10)⟩] (some [0, 1, 5, 7, 8]))
    (.seq (.ops [⟨(some 11), none, .move (.t 1)⟩,
      ⟨(some 12), none, .move (.t 0)⟩,
      ⟨(some 13), none, .move (.t 5)⟩,
      ⟨(some 14), none, .indexAddr 1 (.t 12) (.t 13)⟩,
      ⟨(some 15), none, .load false 1 (.t 14)⟩,
      ⟨(some 16), none, .call (.t 11) [(.t 15)]⟩] (some [0, 1, 5, 7, 8, 16]))
    (.cond (.t 16)
     (.seq (.ops [⟨(some 17), none, .move (.t 5)⟩,
       ⟨(some 4), none, .move (.t 17)⟩] (some [4]))
     .ret)
     .skip))))
   (.ops [⟨(some 18), none, .bin .add 3 (.t 8) (.c (.int .i64 1))⟩,
     ⟨(some 8), none, .move (.t 18)⟩] (some [0, 1, 7, 8]))))))))
 (.seq (.ops [⟨(some 4), none, .move (.c (.int .i64 (-1)))⟩] (some [4]))
 .ret))), [.tmp 4]⟩

theorem is428 : FnIs Tryz.prog 428 x428 := ⟨Tryz.f428, _, Tryz.func428, by kernel_rfl, rfl, by kernel_rfl, by decide, by kernel_rfl⟩

/-- slices.BinarySearch[[]uint64,uint64] -/
def x435 : XDecl := .code ⟨2, 
 (.seq (.ops [⟨(some 4), none, .move (.c (.int .i64 0))⟩,
   ⟨(some 5), none, .move (.c (.bool false))⟩] (some [0, 1]))
 (.seq (.ops [⟨(some 10), none, .move (.t 0)⟩,
   ⟨(some 11), none, .len (.t 10)⟩,
   ⟨(some 6), none, .move (.t 11)⟩] (some [0, 1, 6]))
 (.seq (.ops [⟨(some 12), none, .move (.t 6)⟩,
   ⟨(some 7), none, .move (.c (.int .i64 0))⟩,
   ⟨(some 8), none, .move (.t 12)⟩] (some [0, 1, 6, 7, 8]))
 (.seq (.block 0
  (.loop
   (.seq (.seq (.ops [⟨(some 13), none, .move (.t 7)⟩,
     ⟨(some 14), none, .move (.t 8)⟩,
     ⟨(some 15), none, .bin .lss 3 (.t 13) (.t 14)⟩] (some [0, 1, 6, 7, 8, 15]))
   (.cond (.t 15)
    .skip
    (.exit 0)))
   (.block 1
    (.seq (.ops [⟨(some 16), none, .move (.t 7)⟩,
      ⟨(some 17), none, .move (.t 8)⟩,
      ⟨(some 18), none, .bin .add 3 (.t 16) (.t 17)⟩,
      ⟨(some 19), none, .conv 3 441 (.t 18)⟩,
      ⟨(some 20), none, .bin .shr 441 (.t 19) (.c (.int .u64 1))⟩,
      ⟨(some 21), none, .conv 441 3 (.t 20)⟩,
      ⟨(some 9), none, .move (.t 21)⟩] (some [0, 1, 6, 7, 8, 9]))
    (.seq (.ops [⟨(some 22), none, .move (.t 0)⟩,
      ⟨(some 23), none, .move (.t 9)⟩,
      ⟨(some 24), none, .indexAddr 1 (.t 22) (.t 23)⟩,
      ⟨(some 25), none, .load false 1 (.t 24)⟩,
      ⟨(some 26), none, .move (.t 1)⟩,
      ⟨(some 27), none, .call (.c (.func (.func 481) #[] #[])) [(.t 25), (.t 26)]⟩] (some [0, 1, 6, 7, 8, 9, 27]))
    (.cond (.t 27)
     (.ops [⟨(some 28), none, .move (.t 9)⟩,
       ⟨(some 29), none, .bin .add 3 (.t 28) (.c (.int .i64 1))⟩,
       ⟨(some 7), none, .move (.t 29)⟩] (some [0, 1, 6, 7, 8]))
     (.ops [⟨(some 30), none, .move (.t 9)⟩,
       ⟨(some 8), none, .move (.t 30)⟩] (some [0, 1, 6, 7, 8])))))))))
 (.seq (.ops [⟨(some 31), none, .move (.t 7)⟩,
   ⟨(some 32), none, .move (.t 7)⟩,
   ⟨(some 33), none, .move (.t 6)⟩,
   ⟨(some 34), none, .bin .lss 3 (.t 32) (.t 33)⟩,
   ⟨(some 35), none, .move (.t 34)⟩,
   ⟨(some 36), (some (35, true)), .move (.t 0)⟩,
   ⟨(some 37), (some (35, true)), .move (.t 7)⟩,
   ⟨(some 38), (some (35, true)), .indexAddr 1 (.t 36) (.t 37)⟩,
   ⟨(some 39), (some (35, true)), .load false 1 (.t 38)⟩,
   ⟨(some 40), (some (35, true)), .move (.t 1)⟩,
   ⟨(some 41), (some (35, true)), .bin .eql 23 (.t 39) (.t 40)⟩,
   ⟨(some 42), (some (35, true)), .move (.t 41)⟩,
   ⟨(some 43), (some (42, false)), .move (.t 0)⟩,
   ⟨(some 44), (some (42, false)), .move (.t 7)⟩,
   ⟨(some 45), (some (42, false)), .indexAddr 1 (.t 43) (.t 44)⟩,
   ⟨(some 46), (some (42, false)), .load false 1 (.t 45)⟩,
   ⟨(some 47), (some (42, false)), .call (.c (.func (.func 482) #[] #[])) [(.t 46)]⟩,
   ⟨(some 48), (some (42, false)), .move (.t 47)⟩,
   ⟨(some 49), (some (48, true)), .move (.t 1)⟩,
   ⟨(some 50), (some (48, true)), .call (.c (.func (.func 482) #[] #[])) [(.t 49)]⟩,
   ⟨(some 51), (some (42, false)), .pick (.t 48) (.t 50) (.c (.bool false))⟩,
   ⟨(some 52), (some (35, true)), .pick (.t 42) (.c (.bool true)) (.t 51)⟩,
   ⟨(some 53), none, .pick (.t 35) (.t 52) (.c (.bool false))⟩,
   ⟨(some 4), none, .move (.t 31)⟩,
   ⟨(some 5), none, .move (.t 53)⟩] (some [4, 5]))
 .ret))))), [.tmp 4, .tmp 5]⟩

theorem is435 : FnIs Tryz.prog 435 x435 := ⟨Tryz.f435, _, Tryz.func435, by kernel_rfl, rfl, by kernel_rfl, by decide, by kernel_rfl⟩

/-- (*cloisonne/wset.Set).at -/
def x440 : XDecl := .code ⟨2, 
 (.seq (.ops [⟨(some 4), none, .move (.c (.int .i64 0))⟩,
   ⟨(some 5), none, .move (.c (.bool false))⟩] (some [0, 1]))
 (.seq (.ops [⟨(some 6), none, .move (.t 0)⟩,
   ⟨(some 7), none, .nilCheck (.t 6)⟩,
   ⟨(some 8), none, .fieldAddr 0 (.t 7)⟩,
   ⟨(some 9), none, .load false 1 (.t 8)⟩,
   ⟨(some 10), none, .move (.t 1)⟩,
   ⟨(some 11), none, .call (.c (.func (.func 488) #[] #[])) [(.t 9), (.t 10), (.c (.func (.func 489) #[] #[]))]⟩,
   ⟨(some 12), none, .extract (.t 11) 0⟩,
   ⟨(some 13), none, .extract (.t 11) 1⟩,
   ⟨(some 4), none, .move (.t 12)⟩,
   ⟨(some 5), none, .move (.t 13)⟩] (some [4, 5]))
 .ret)), [.tmp 4, .tmp 5]⟩

theorem is440 : FnIs Tryz.prog 440 x440 := ⟨Tryz.f440, _, Tryz.func440, by kernel_rfl, rfl, by kernel_rfl, by decide, by kernel_rfl⟩

/-- slices.Insert[[]cloisonne/api.Write,cloisonne/api.Write] -/
def x443 : XDecl := .code ⟨3, 
 (.seq (.ops [⟨(some 6), none, .move (.c (.slice none 0 0))⟩] (some [0, 1, 2]))
 (.seq (.ops [⟨(some 10), none, .move (.t 0)⟩,
   ⟨(some 11), none, .move (.t 1)⟩,
   ⟨(some 12), none, .slice 5 (.t 10) (some (.t 11)) none none⟩] (some [0, 1, 2]))
 (.seq (.ops [⟨(some 13), none, .move (.t 2)⟩,
   ⟨(some 14), none, .len (.t 13)⟩,
   ⟨(some 7), none, .move (.t 14)⟩] (some [0, 1, 2, 7]))
 (.seq (.seq (.ops [⟨(some 15), none, .move (.t 7)⟩,
   ⟨(some 16), none, .bin .eql 3 (.t 15) (.c (.int .i64 0))⟩] (some [0, 1, 2, 7, 16]))
 (.cond (.t 16)
  (.seq (.ops [⟨(some 17), none, .move (.t 0)⟩,
    ⟨(some 6), none, .move (.t 17)⟩] (some [6]))
  .ret)
  .skip))
 (.seq (.ops [⟨(some 18), none, .move (.t 0)⟩,
   ⟨(some 19), none, .len (.t 18)⟩,
   ⟨(some 8), none, .move (.t 19)⟩] (some [0, 1, 2, 7, 8]))
 (.seq (.seq (.ops [⟨(some 20), none, .move (.t 1)⟩,
   ⟨(some 21), none, .move (.t 8)⟩,
   ⟨(some 22), none, .bin .eql 3 (.t 20) (.t 21)⟩] (some [0, 1, 2, 7, 8, 22]))
 (.cond (.t 22)
  (.seq (.ops [⟨(some 23), none, .move (.t 0)⟩,
    ⟨(some 24), none, .move (.t 2)⟩,
    ⟨(some 25), none, .append 5 56 [(.string .empty), (.bool false), (.bool false), (.string .empty), (.int .u64 0)] (.t 23) (.t 24)⟩,
    ⟨(some 6), none, .move (.t 25)⟩] (some [6]))
  .ret)
  .skip))
 (.seq (.seq (.ops [⟨(some 26), none, .move (.t 8)⟩,
   ⟨(some 27), none, .move (.t 7)⟩,
   ⟨(some 28), none, .bin .add 3 (.t 26) (.t 27)⟩,
   ⟨(some 29), none, .move (.t 0)⟩,
   ⟨(some 30), none, .cap (.t 29)⟩,
   ⟨(some 31), none, .bin .gtr 3 (.t 28) (.t 30)⟩] (some [0, 1, 2, 7, 8, 31]))
 (.cond (.t 31)
  (.seq (.ops [⟨(some 32), none, .move (.t 0)⟩,
    ⟨(some 33), none, .move (.t 1)⟩,
    ⟨(some 34), none, .slice 5 (.t 32) none (some (.t 33)) none⟩,
    ⟨(some 35), none, .move (.t 8)⟩,
    ⟨(some 36), none, .move (.t 7)⟩,
    ⟨(some 37), none, .bin .add 3 (.t 35) (.t 36)⟩,
    ⟨(some 38), none, .move (.t 1)⟩,
    ⟨(some 39), none, .bin .sub 3 (.t 37) (.t 38)⟩,
    ⟨(some 40), none, .appendZeros 5 56 [(.string .empty), (.bool false), (.bool false), (.string .empty), (.int .u64 0)] (.t 34) (.t 39)⟩,
    ⟨(some 9), none, .move (.t 40)⟩] (some [0, 1, 2, 7, 9]))
  (.seq (.ops [⟨(some 41), none, .move (.t 9)⟩,
    ⟨(some 42), none, .move (.t 1)⟩,
    ⟨(some 43), none, .slice 5 (.t 41) (some (.t 42)) none none⟩,
    ⟨(some 44), none, .move (.t 2)⟩,
    ⟨(some 45), none, .copy 5 (.t 43) (.t 44)⟩] (some [0, 1, 7, 9]))
  (.seq (.opsd [(0, 0, ⟨(some 46), none, .move (.t 9)⟩),
    (1, 0, ⟨(some 47), none, .move (.t 1)⟩),
    (2, 0, ⟨(some 48), none, .move (.t 7)⟩),
    (3, 6, ⟨(some 49), none, .bin .add 3 (.t 47) (.t 48)⟩),
    (4, 15, ⟨(some 50), none, .slice 5 (.t 46) (some (.t 49)) none none⟩),
    (5, 0, ⟨(some 51), none, .move (.t 0)⟩),
    (6, 0, ⟨(some 52), none, .move (.t 1)⟩),
    (7, 96, ⟨(some 53), none, .slice 5 (.t 51) (some (.t 52)) none none⟩),
    (8, 255, ⟨(some 54), none, .copy 5 (.t 50) (.t 53)⟩)] (some [9]))
  (.seq (.ops [⟨(some 55), none, .move (.t 9)⟩,
    ⟨(some 6), none, .move (.t 55)⟩] (some [6]))
  .ret))))
  .skip))
 (.seq (.ops [⟨(some 56), none, .move (.t 0)⟩,
   ⟨(some 57), none, .move (.t 8)⟩,
   ⟨(some 58), none, .move (.t 7)⟩,
   ⟨(some 59), none, .bin .add 3 (.t 57) (.t 58)⟩,
   ⟨(some 60), none, .slice 5 (.t 56) none (some (.t 59)) none⟩,
   ⟨(some 0), none, .move (.t 60)⟩] (some [0, 1, 2, 7, 8]))
 (.seq (.seq (.ops [⟨(some 61), none, .move (.t 2)⟩,
   ⟨(some 62), none, .move (.t 0)⟩,
   ⟨(some 63), none, .move (.t 1)⟩,
   ⟨(some 64), none, .move (.t 7)⟩,
   ⟨(some 65), none, .bin .add 3 (.t 63) (.t 64)⟩,
   ⟨(some 66), none, .slice 5 (.t 62) (some (.t 65)) none none⟩,
   ⟨(some 67), none, .call (.c (.func (.func 492) #[] #[])) [(.t 61), (.t 66)]⟩,
   ⟨(some 68), none, .un .not (.t 67)⟩] (some [0, 1, 2, 7, 8, 68]))
 (.cond (.t 68)
  (.seq (.opsd [(0, 0, ⟨(some 69), none, .move (.t 0)⟩),
    (1, 0, ⟨(some 70), none, .move (.t 1)⟩),
    (2, 0, ⟨(some 71), none, .move (.t 7)⟩),
    (3, 6, ⟨(some 72), none, .bin .add 3 (.t 70) (.t 71)⟩),
    (4, 15, ⟨(some 73), none, .slice 5 (.t 69) (some (.t 72)) none none⟩),
    (5, 0, ⟨(some 74), none, .move (.t 0)⟩),
    (6, 0, ⟨(some 75), none, .move (.t 1)⟩),
    (7, 96, ⟨(some 76), none, .slice 5 (.t 74) (some (.t 75)) none none⟩),
    (8, 255, ⟨(some 77), none, .copy 5 (.t 73) (.t 76)⟩)] (some [0, 1, 2]))
  (.seq (.ops [⟨(some 78), none, .move (.t 0)⟩,
    ⟨(some 79), none, .move (.t 1)⟩,
    ⟨(some 80), none, .slice 5 (.t 78) (some (.t 79)) none none⟩,
    ⟨(some 81), none, .move (.t 2)⟩,
    ⟨(some 82), none, .copy 5 (.t 80) (.t 81)⟩] (some [0]))
  (.seq (.ops [⟨(some 83), none, .move (.t 0)⟩,
    ⟨(some 6), none, .move (.t 83)⟩] (some [6]))
  .ret)))
  .skip))
 (.seq (.ops [⟨(some 84), none, .move (.t 0)⟩,
   ⟨(some 85), none, .move (.t 8)⟩,
   ⟨(some 86), none, .slice 5 (.t 84) (some (.t 85)) none none⟩,
   ⟨(some 87), none, .move (.t 2)⟩,
   ⟨(some 88), none, .copy 5 (.t 86) (.t 87)⟩] (some [0, 1, 7]))
 (.seq (.ops [⟨(some 89), none, .move (.t 0)⟩,
   ⟨(some 90), none, .move (.t 1)⟩,
   ⟨(some 91), none, .slice 5 (.t 89) (some (.t 90)) none none⟩,
   ⟨(some 92), none, .move (.t 7)⟩,
   ⟨(some 93), none, .call (.c (.func (.func 493) #[] #[])) [(.t 91), (.t 92)]⟩] (some [0]))
 (.seq (.ops [⟨(some 94), none, .move (.t 0)⟩,
   ⟨(some 6), none, .move (.t 94)⟩] (some [6]))
 .ret)))))))))))), [.tmp 6]⟩

theorem is443 : FnIs Tryz.prog 443 x443 := ⟨Tryz.f443, _, Tryz.func443, by kernel_rfl, rfl, by kernel_rfl, by decide, by kernel_rfl⟩

/-- strings.IndexByte -/
def x444 : XDecl := .code ⟨2, 
 (.seq (.ops [⟨(some 4), none, .move (.c (.int .i64 0))⟩] (some [0, 1]))
 (.seq (.ops [⟨(some 5), none, .move (.t 0)⟩,
   ⟨(some 6), none, .move (.t 1)⟩,
   ⟨(some 7), none, .call (.c (.func (.func 494) #[] #[])) [(.t 5), (.t 6)]⟩,
   ⟨(some 4), none, .move (.t 7)⟩] (some [4]))
 .ret)), [.tmp 4]⟩

theorem is444 : FnIs Tryz.prog 444 x444 := ⟨Tryz.f444, _, Tryz.func444, by kernel_rfl, rfl, by kernel_rfl, by decide, by kernel_rfl⟩

/-- cloisonne/sector.within -/
def x468 : XDecl := .code ⟨3, 
 (.seq (.ops [⟨(some 6), none, .move (.c (.bool false))⟩] (some [0, 1, 2]))
 (.seq (.ops [⟨(some 7), none, .move (.t 0)⟩,
   ⟨(some 8), none, .move (.t 1)⟩,
   ⟨(some 9), none, .bin .geq 3 (.t 7) (.t 8)⟩,
   ⟨(some 10), none, .move (.t 9)⟩,
   ⟨(some 11), (some (10, true)), .move (.t 0)⟩,
   ⟨(some 12), (some (10, true)), .move (.t 2)⟩,
   ⟨(some 13), (some (10, true)), .bin .leq 3 (.t 11) (.t 12)⟩,
   ⟨(some 14), none, .pick (.t 10) (.t 13) (.c (.bool false))⟩,
   ⟨(some 6), none, .move (.t 14)⟩] (some [6]))
 .ret)), [.tmp 6]⟩

theorem is468 : FnIs Tryz.prog 468 x468 := ⟨Tryz.f468, _, Tryz.func468, by kernel_rfl, rfl, by kernel_rfl, by decide, by kernel_rfl⟩

/-- cloisonne/sector.put -/
def x477 : XDecl := .code ⟨3, 
 (.seq (.ops [⟨(some 6), none, .move (.c (.slice none 0 0))⟩] (some [0, 1, 2]))
 (.seq (.seq (.ops [⟨(some 8), none, .move (.t 2)⟩,
   ⟨(some 9), none, .bin .sub 3 (.t 8) (.c (.int .i64 1))⟩,
   ⟨(some 7), none, .move (.t 9)⟩] (some [0, 1, 7]))
 (.block 0
  (.loop
   (.seq (.seq (.ops [⟨(some 10), none, .move (.t 7)⟩,
     ⟨(some 11), none, .bin .geq 3 (.t 10) (.c (.int .i64 0))⟩] (some [0, 1, 7, 11]))
   (.cond (.t 11)
    .skip
    (.exit 0)))
   (.seq (.block 1
    (.ops [⟨(some 14), none, .move (.t 0)⟩,
      ⟨(some 15), none, .move (.t 1)⟩,
      ⟨(some 16), none, .move (.t 7)⟩,
      ⟨(some 17), none, .bin .mul 3 (.c (.int .i64 8)) (.t 16)⟩,
      ⟨(some 18), none, .bin .shr 3 (.t 15) (.t 17)⟩,
      ⟨(some 19), none, .conv 3 5 (.t 18)⟩,
      ⟨(some 20), none, .buildSlice [(.int .u8 0)] 1 1 [(0, (.t 19))]⟩,
      ⟨(some 21), none, .append 1 1 [(.int .u8 0)] (.t 14) (.t 20)⟩,
      ⟨(some 0), none, .move (.t 21)⟩] (some [0, 1, 7])))
   (.ops [⟨(some 12), none, .move (.t 7)⟩,
     ⟨(some 13), none, .bin .sub 3 (.t 12) (.c (.int .i64 1))⟩,
     ⟨(some 7), none, .move (.t 13)⟩] (some [0, 1, 7])))))))
 (.seq (.ops [⟨(some 22), none, .move (.t 0)⟩,
   ⟨(some 6), none, .move (.t 22)⟩] (some [6]))
 .ret))), [.tmp 6]⟩

theorem is477 : FnIs Tryz.prog 477 x477 := ⟨Tryz.f477, _, Tryz.func477, by kernel_rfl, rfl, by kernel_rfl, by decide, by kernel_rfl⟩

/-- slices.BinarySearchFunc[[]cloisonne/api.Write,cloisonne/api.Write,string] -/
def x488 : XDecl := .code ⟨3, 
 (.seq (.ops [⟨(some 6), none, .move (.c (.int .i64 0))⟩,
   ⟨(some 7), none, .move (.c (.bool false))⟩] (some [0, 1, 2]))
 (.seq (.ops [⟨(some 12), none, .move (.t 0)⟩,
   ⟨(some 13), none, .len (.t 12)⟩,
   ⟨(some 8), none, .move (.t 13)⟩] (some [0, 1, 2, 8]))
 (.seq (.ops [⟨(some 14), none, .move (.t 8)⟩,
   ⟨(some 9), none, .move (.c (.int .i64 0))⟩,
   ⟨(some 10), none, .move (.t 14)⟩] (some [0, 1, 2, 8, 9, 10]))
 (.seq (.block 0
  (.loop
   (.seq (.seq (.ops [⟨(some 15), none, .move (.t 9)⟩,
     ⟨(some 16), none, .move (.t 10)⟩,
     ⟨(some 17), none, .bin .lss 3 (.t 15) (.t 16)⟩] (some [0, 1, 2, 8, 9, 10, 17]))
   (.cond (.t 17)
    .skip
    (.exit 0)))
   (.block 1
    (.seq (.ops [⟨(some 18), none, .move (.t 9)⟩,
      ⟨(some 19), none, .move (.t 10)⟩,
      ⟨(some 20), none, .bin .add 3 (.t 18) (.t 19)⟩,
      ⟨(some 21), none, .conv 3 441 (.t 20)⟩,
      ⟨(some 22), none, .bin .shr 441 (.t 21) (.c (.int .u64 1))⟩,
      ⟨(some 23), none, .conv 441 3 (.t 22)⟩,
      ⟨(some 11), none, .move (.t 23)⟩] (some [0, 1, 2, 8, 9, 10, 11]))
    (.seq (.ops [⟨(some 24), none, .move (.t 2)⟩,
      ⟨(some 25), none, .move (.t 0)⟩,
      ⟨(some 26), none, .move (.t 11)⟩,
      ⟨(some 27), none, .indexAddr 5 (.t 25) (.t 26)⟩,
      ⟨(some 28), none, .load true 5 (.t 27)⟩,
      ⟨(some 29), none, .move (.t 1)⟩,
      ⟨(some 30), none, .call (.t 24) [(.t 28), (.t 29)]⟩,
      ⟨(some 31), none, .bin .lss 3 (.t 30) (.c (.int .i64 0))⟩] (some [0, 1, 2, 8, 9, 10, 11, 31]))
    (.cond (.t 31)
     (.ops [⟨(some 32), none, .move (.t 11)⟩,
       ⟨(some 33), none, .bin .add 3 (.t 32) (.c (.int .i64 1))⟩,
       ⟨(some 9), none, .move (.t 33)⟩] (some [0, 1, 2, 8, 9, 10]))
     (.ops [⟨(some 34), none, .move (.t 11)⟩,
       ⟨(some 10), none, .move (.t 34)⟩] (some [0, 1, 2, 8, 9, 10])))))))))
 (.seq (.ops [⟨(some 35), none, .move (.t 9)⟩,
   ⟨(some 36), none, .move (.t 9)⟩,
   ⟨(some 37), none, .move (.t 8)⟩,
   ⟨(some 38), none, .bin .lss 3 (.t 36) (.t 37)⟩,
   ⟨(some 39), none, .move (.t 38)⟩,
   ⟨(some 40), (some (39, true)), .move (.t 2)⟩,
   ⟨(some 41), (some (39, true)), .move (.t 0)⟩,
   ⟨(some 42), (some (39, true)), .move (.t 9)⟩,
   ⟨(some 43), (some (39, true)), .indexAddr 5 (.t 41) (.t 42)⟩,
   ⟨(some 44), (some (39, true)), .load true 5 (.t 43)⟩,
   ⟨(some 45), (some (39, true)), .move (.t 1)⟩,
   ⟨(some 46), (some (39, true)), .call (.t 40) [(.t 44), (.t 45)]⟩,
   ⟨(some 47), (some (39, true)), .bin .eql 3 (.t 46) (.c (.int .i64 0))⟩,
   ⟨(some 48), none, .pick (.t 39) (.t 47) (.c (.bool false))⟩,
   ⟨(some 6), none, .move (.t 35)⟩,
   ⟨(some 7), none, .move (.t 48)⟩] (some [6, 7]))
 .ret))))), [.tmp 6, .tmp 7]⟩

theorem is488 : FnIs Tryz.prog 488 x488 := ⟨Tryz.f488, _, Tryz.func488, by kernel_rfl, rfl, by kernel_rfl, by decide, by kernel_rfl⟩

/-- internal/stringslite.IndexByte -/
def x494 : XDecl := .code ⟨2, 
 (.seq (.ops [⟨(some 4), none, .move (.c (.int .i64 0))⟩] (some [0, 1]))
 (.seq (.ops [⟨(some 5), none, .move (.t 0)⟩,
   ⟨(some 6), none, .move (.t 1)⟩,
   ⟨(some 7), none, .call (.c (.func (.func 524) #[] #[])) [(.t 5), (.t 6)]⟩,
   ⟨(some 4), none, .move (.t 7)⟩] (some [4]))
 .ret)), [.tmp 4]⟩

theorem is494 : FnIs Tryz.prog 494 x494 := ⟨Tryz.f494, _, Tryz.func494, by kernel_rfl, rfl, by kernel_rfl, by decide, by kernel_rfl⟩

-- 524 internal/bytealg.IndexByteString: no body
def x524 : XDecl := .ext 524

theorem is524 : FnIs Tryz.prog 524 x524 := rfl

/-- (cloisonne/job.commit).check -/
def x567 : XDecl := .code ⟨2, 
 (.seq (.ops [⟨(some 2), none, .box (.t 0)⟩,
   ⟨(some 4), none, .move (.c (.pointer none))⟩,
   ⟨(some 5), none, .move (.c (.int .i64 0))⟩] (some [1, 2]))
 (.seq (.ops [⟨(some 10), none, .move (.t 1)⟩,
   ⟨(some 11), none, .fieldAddr 0 (.t 2)⟩,
   ⟨(some 12), none, .load false 1 (.t 11)⟩,
   ⟨(some 13), none, .call (.c (.func (.func 65) #[] #[])) [(.t 10), (.t 12)]⟩,
   ⟨(some 6), none, .move (.t 13)⟩] (some [1, 2, 6]))
 (.seq (.ops [⟨(some 15), none, .move (.t 6)⟩,
   ⟨(some 16), none, .fieldAddr 2 (.t 2)⟩,
   ⟨(some 17), none, .load false 1 (.t 16)⟩,
   ⟨(some 18), none, .call (.c (.func (.func 259) #[] #[])) [(.t 15), (.t 17)]⟩,
   ⟨(some 14), none, .move (.t 18)⟩,
   ⟨(some 19), none, .extract (.t 14) 0⟩,
   ⟨(some 20), none, .extract (.t 14) 1⟩,
   ⟨(some 7), none, .move (.t 19)⟩,
   ⟨(some 8), none, .move (.t 20)⟩] (some [1, 2, 6, 7, 8]))
 (.seq (.seq (.ops [⟨(some 21), none, .move (.t 8)⟩,
   ⟨(some 22), none, .bin .eql 34 (.t 21) (.c (.int .i64 0))⟩] (some [1, 2, 6, 7, 8, 22]))
 (.cond (.t 22)
  (.ops [⟨(some 23), none, .move (.t 6)⟩,
    ⟨(some 24), none, .fieldAddr 1 (.t 2)⟩,
    ⟨(some 25), none, .load false 1 (.t 24)⟩,
    ⟨(some 26), none, .move (.t 7)⟩,
    ⟨(some 27), none, .call (.c (.func (.func 569) #[] #[])) [(.t 23), (.t 25), (.t 26)]⟩,
    ⟨(some 8), none, .move (.t 27)⟩] (some [1, 2, 6, 8]))
  .skip))
 (.seq (.seq (.ops [⟨(some 28), none, .move (.t 8)⟩,
   ⟨(some 29), none, .bin .neq 34 (.t 28) (.c (.int .i64 0))⟩] (some [1, 2, 6, 8, 29]))
 (.cond (.t 29)
  (.seq (.ops [⟨(some 30), none, .move (.t 8)⟩,
    ⟨(some 4), none, .move (.c (.pointer none))⟩,
    ⟨(some 5), none, .move (.t 30)⟩] (some [4, 5]))
  .ret)
  .skip))
 (.seq (.opsd [(0, 0, ⟨(some 32), none, .move (.t 6)⟩),
   (3, 0, ⟨(some 35), none, .fieldAddr 1 (.t 2)⟩),
   (4, 8, ⟨(some 36), none, .load false 1 (.t 35)⟩),
   (1, 1, ⟨(some 33), none, .call (.c (.func (.func 242) #[] #[])) [(.t 32)]⟩),
   (2, 3, ⟨(some 34), none, .bin .add 3 (.t 33) (.c (.int .i64 1))⟩),
   (5, 31, ⟨(some 37), none, .call (.c (.func (.func 570) #[] #[])) [(.t 34), (.t 36)]⟩),
   (6, 63, ⟨(some 31), none, .move (.t 37)⟩),
   (7, 127, ⟨(some 38), none, .extract (.t 31) 0⟩),
   (8, 127, ⟨(some 39), none, .extract (.t 31) 1⟩),
   (9, 255, ⟨(some 9), none, .move (.t 38)⟩),
   (10, 1023, ⟨(some 8), none, .move (.t 39)⟩)] (some [1, 2, 8, 9]))
 (.seq (.seq (.ops [⟨(some 40), none, .move (.t 8)⟩,
   ⟨(some 41), none, .bin .neq 34 (.t 40) (.c (.int .i64 0))⟩] (some [1, 2, 8, 9, 41]))
 (.cond (.t 41)
  (.seq (.ops [⟨(some 42), none, .move (.t 8)⟩,
    ⟨(some 4), none, .move (.c (.pointer none))⟩,
    ⟨(some 5), none, .move (.t 42)⟩] (some [4, 5]))
  .ret)
  .skip))
 (.seq (.ops [⟨(some 43), none, .move (.t 1)⟩,
   ⟨(some 44), none, .fieldAddr 0 (.t 2)⟩,
   ⟨(some 45), none, .load false 1 (.t 44)⟩,
   ⟨(some 46), none, .call (.c (.func (.func 201) #[] #[])) [(.t 43), (.t 45)]⟩,
   ⟨(some 47), none, .move (.t 9)⟩,
   ⟨(some 48), none, .call (.c (.func (.func 571) #[] #[])) [(.t 46), (.t 47)]⟩,
   ⟨(some 49), none, .extract (.t 48) 0⟩,
   ⟨(some 50), none, .extract (.t 48) 1⟩,
   ⟨(some 4), none, .move (.t 49)⟩,
   ⟨(some 5), none, .move (.t 50)⟩] (some [4, 5]))
 .ret)))))))), [.tmp 4, .tmp 5]⟩

theorem is567 : FnIs Tryz.prog 567 x567 := ⟨Tryz.f567, _, Tryz.func567, by kernel_rfl, rfl, by kernel_rfl, by decide, by kernel_rfl⟩

/-- (cloisonne/job.commit).install -/
def x568 : XDecl := .code ⟨2, 
 (.seq (.ops [⟨(some 2), none, .box (.t 0)⟩,
   ⟨(some 4), none, .move (.c (.int .u64 0))⟩,
   ⟨(some 5), none, .move (.c (.int .i64 0))⟩] (some [1, 2]))
 (.seq (.opsd [(0, 0, ⟨(some 9), none, .move (.t 1)⟩),
   (1, 0, ⟨(some 10), none, .fieldAddr 0 (.t 2)⟩),
   (2, 2, ⟨(some 11), none, .load false 1 (.t 10)⟩),
   (4, 0, ⟨(some 13), none, .fieldAddr 1 (.t 2)⟩),
   (5, 16, ⟨(some 14), none, .load false 1 (.t 13)⟩),
   (6, 0, ⟨(some 15), none, .move (.t 1)⟩),
   (3, 7, ⟨(some 12), none, .call (.c (.func (.func 65) #[] #[])) [(.t 9), (.t 11)]⟩),
   (7, 79, ⟨(some 16), none, .call (.c (.func (.func 572) #[] #[])) [(.t 15)]⟩),
   (8, 255, ⟨(some 17), none, .call (.c (.func (.func 243) #[] #[])) [(.t 12), (.t 14), (.t 16)]⟩),
   (9, 511, ⟨(some 8), none, .move (.t 17)⟩),
   (10, 1023, ⟨(some 18), none, .extract (.t 8) 0⟩),
   (11, 1023, ⟨(some 19), none, .extract (.t 8) 1⟩),
   (12, 2047, ⟨(some 6), none, .move (.t 18)⟩),
   (13, 8191, ⟨(some 7), none, .move (.t 19)⟩)] (some [6, 7]))
 (.seq (.ops [⟨(some 20), none, .move (.t 6)⟩,
   ⟨(some 21), none, .conv 3 23 (.t 20)⟩,
   ⟨(some 22), none, .move (.t 7)⟩,
   ⟨(some 4), none, .move (.t 21)⟩,
   ⟨(some 5), none, .move (.t 22)⟩] (some [4, 5]))
 .ret))), [.tmp 4, .tmp 5]⟩

theorem is568 : FnIs Tryz.prog 568 x568 := ⟨Tryz.f568, _, Tryz.func568, by kernel_rfl, rfl, by kernel_rfl, by decide, by kernel_rfl⟩

/-- (*cloisonne/room.Room).Check -/
def x569 : XDecl := .code ⟨3, 
 (.seq (.ops [⟨(some 6), none, .move (.c (.int .i64 0))⟩] (some [0, 1, 2]))
 (.seq (.block 0
  (.seq (.ops [⟨(some 12), none, .move (.t 0)⟩,
    ⟨(some 13), none, .isNil .ptr false (.t 12)⟩,
    ⟨(some 11), none, .move (.t 13)⟩] (some [0, 1, 2, 11]))
  (.cond (.t 11)
   (.seq (.ops [⟨(some 6), none, .move (.c (.int .i64 2))⟩] (some [6]))
   .ret)
   (.seq (.ops [⟨(some 15), none, .move (.t 1)⟩,
     ⟨(some 16), none, .call (.c (.func (.func 339) #[] #[])) [(.t 15)]⟩,
     ⟨(some 17), none, .un .not (.t 16)⟩,
     ⟨(some 14), none, .move (.t 17)⟩] (some [0, 1, 2, 14]))
   (.cond (.t 14)
    (.seq (.ops [⟨(some 6), none, .move (.c (.int .i64 1))⟩] (some [6]))
    .ret)
    (.seq (.ops [⟨(some 19), none, .move (.t 2)⟩,
      ⟨(some 20), none, .move (.t 0)⟩,
      ⟨(some 21), none, .call (.c (.func (.func 122) #[] #[])) [(.t 20)]⟩,
      ⟨(some 22), none, .move (.t 0)⟩,
      ⟨(some 23), none, .call (.c (.func (.func 242) #[] #[])) [(.t 22)]⟩,
      ⟨(some 24), none, .call (.c (.func (.func 220) #[] #[])) [(.t 19), (.t 21), (.t 23)]⟩,
      ⟨(some 25), none, .un .not (.t 24)⟩,
      ⟨(some 18), none, .move (.t 25)⟩] (some [0, 1, 2, 18]))
    (.cond (.t 18)
     (.seq (.ops [⟨(some 6), none, .move (.c (.int .i64 14))⟩] (some [6]))
     .ret)
     .skip)))))))
 (.seq (.seq (.ops [⟨(some 26), none, .move (.t 1)⟩,
   ⟨(some 27), none, .len (.t 26)⟩,
   ⟨(some 28), none, .move (.c (.int .i64 0))⟩] (some [0, 1, 2, 26, 27, 28]))
 (.block 1
  (.loop
   (.seq (.ops [⟨(some 29), none, .bin .lss 3 (.t 28) (.t 27)⟩] (some [0, 1, 2, 26, 27, 28, 29]))
   (.seq (.cond (.t 29)
    .skip
    (.exit 1))
   (.seq (.block 2
    (.seq (.ops [⟨(some 30), none, .indexAddr 5 (.t 26) (.t 28)⟩,
      ⟨(some 31), none, .load true 5 (.t 30)⟩,
      ⟨(some 8), none, .alloc [(.string .empty), (.bool false), (.bool false), (.string .empty), (.int .u64 0)]⟩,
      ⟨none, none, .store 5 (.t 8) (.t 31)⟩] (some [0, 1, 2, 8, 26, 27, 28]))
    (.seq (.ops [⟨(some 33), none, .move (.t 0)⟩,
      ⟨(some 34), none, .fieldAddr 0 (.t 8)⟩,
      ⟨(some 35), none, .load false 1 (.t 34)⟩,
      ⟨(some 36), none, .call (.c (.func (.func 120) #[] #[])) [(.t 33), (.t 35)]⟩,
      ⟨(some 37), none, .call (.c (.func (.func 380) #[] #[])) [(.t 36)]⟩,
      ⟨(some 32), none, .move (.t 37)⟩,
      ⟨(some 38), none, .extract (.t 32) 0⟩,
      ⟨(some 39), none, .extract (.t 32) 1⟩,
      ⟨(some 9), none, .alloc [(.int .i64 0), (.bool false), (.bool false), (.string .empty), (.int .u64 0)]⟩,
      ⟨none, none, .store 5 (.t 9) (.t 38)⟩,
      ⟨(some 10), none, .move (.t 39)⟩] (some [0, 1, 2, 9, 10, 26, 27, 28]))
    (.seq (.ops [⟨(some 40), none, .move (.t 10)⟩,
      ⟨(some 41), none, .move (.t 40)⟩,
      ⟨(some 42), (some (41, true)), .fieldAddr 0 (.t 9)⟩,
      ⟨(some 43), (some (41, true)), .load false 1 (.t 42)⟩,
      ⟨(some 44), (some (41, true)), .move (.t 2)⟩,
      ⟨(some 45), (some (41, true)), .bin .gtr 3 (.t 43) (.t 44)⟩,
      ⟨(some 46), none, .pick (.t 41) (.t 45) (.c (.bool false))⟩] (some [0, 1, 2, 26, 27, 28, 46]))
    (.cond (.t 46)
     (.seq (.ops [⟨(some 6), none, .move (.c (.int .i64 13))⟩] (some [6]))
     .ret)
     .skip)))))
   (.ops [⟨(some 47), none, .bin .add 3 (.t 28) (.c (.int .i64 1))⟩,
     ⟨(some 28), none, .move (.t 47)⟩] (some [0, 1, 2, 26, 27, 28]))))))))
 (.seq (.ops [⟨(some 48), none, .move (.t 0)⟩,
   ⟨(some 49), none, .move (.t 1)⟩,
   ⟨(some 50), none, .call (.c (.func (.func 340) #[] #[])) [(.t 48), (.t 49)]⟩,
   ⟨(some 6), none, .move (.t 50)⟩] (some [6]))
 .ret)))), [.tmp 6]⟩

theorem is569 : FnIs Tryz.prog 569 x569 := ⟨Tryz.f569, _, Tryz.func569, by kernel_rfl, rfl, by kernel_rfl, by decide, by kernel_rfl⟩

/-- cloisonne/record.Commit -/
def x570 : XDecl := .code ⟨2, 
 (.seq (.ops [⟨(some 4), none, .move (.c (.string .empty))⟩,
   ⟨(some 5), none, .alloc [(.int .i64 0)]⟩] (some [0, 1, 5]))
 (.seq (.ops [⟨none, none, .dfr [(.t 5), (.c (.int .i64 1))]⟩] (some [0, 1, 5]))
 (.seq (.ops [⟨(some 9), none, .move (.t 0)⟩,
   ⟨(some 10), none, .bin .geq 3 (.t 9) (.c (.int .i64 1))⟩,
   ⟨(some 11), none, .move (.t 10)⟩,
   ⟨(some 12), (some (11, true)), .move (.t 0)⟩,
   ⟨(some 13), (some (11, true)), .bin .leq 3 (.t 12) (.c (.int .i64 1073741824))⟩,
   ⟨(some 14), none, .pick (.t 11) (.t 13) (.c (.bool false))⟩,
   ⟨(some 15), none, .move (.t 14)⟩,
   ⟨(some 16), (some (15, true)), .move (.t 1)⟩,
   ⟨(some 17), (some (15, true)), .call (.c (.func (.func 339) #[] #[])) [(.t 16)]⟩,
   ⟨(some 18), none, .pick (.t 15) (.t 17) (.c (.bool false))⟩,
   ⟨(some 19), none, .call (.c (.func (.func 236) #[] #[])) [(.t 18)]⟩] (some [0, 1, 5]))
 (.seq (.ops [⟨(some 20), none, .call (.c (.func (.func 226) #[] #[])) [(.c (.int .i64 1))]⟩,
   ⟨(some 21), none, .move (.t 0)⟩,
   ⟨(some 22), none, .call (.c (.func (.func 226) #[] #[])) [(.t 21)]⟩,
   ⟨(some 23), none, .buildSlice [(.int .u64 0), (.string .empty), (.slice none 0 0), (.slice none 0 0)] 4 2 [(0, (.t 20)), (1, (.t 22))]⟩,
   ⟨(some 24), none, .call (.c (.func (.func 225) #[] #[])) [(.c (.string ⟨#[98, 110]⟩)), (.t 23)]⟩,
   ⟨(some 6), none, .move (.t 24)⟩] (some [1, 5, 6]))
 (.seq (.seq (.ops [⟨(some 25), none, .move (.t 1)⟩,
   ⟨(some 26), none, .len (.t 25)⟩,
   ⟨(some 27), none, .move (.c (.int .i64 0))⟩] (some [5, 6, 25, 26, 27]))
 (.block 0
  (.loop
   (.seq (.ops [⟨(some 28), none, .bin .lss 3 (.t 27) (.t 26)⟩] (some [5, 6, 25, 26, 27, 28]))
   (.seq (.cond (.t 28)
    .skip
    (.exit 0))
   (.seq (.block 1
    (.seq (.ops [⟨(some 29), none, .indexAddr 5 (.t 25) (.t 27)⟩,
      ⟨(some 30), none, .load true 5 (.t 29)⟩,
      ⟨(some 8), none, .alloc [(.string .empty), (.bool false), (.bool false), (.string .empty), (.int .u64 0)]⟩,
      ⟨none, none, .store 5 (.t 8) (.t 30)⟩] (some [5, 6, 8, 25, 26, 27]))
    (.opsd [(0, 0, ⟨(some 31), none, .move (.t 6)⟩),
      (1, 0, ⟨(some 32), none, .fieldAddr 1 (.t 8)⟩),
      (2, 2, ⟨(some 33), none, .load false 1 (.t 32)⟩),
      (4, 0, ⟨(some 35), none, .fieldAddr 0 (.t 8)⟩),
      (5, 16, ⟨(some 36), none, .load false 1 (.t 35)⟩),
      (6, 48, ⟨(some 37), none, .build [(.int .u64 0), (.string .empty), (.slice none 0 0), (.slice none 0 0)] [(0, 1), (1, 1), (2, 1), (3, 1)] [(1, (.t 36))]⟩),
      (7, 0, ⟨(some 38), none, .fieldAddr 2 (.t 8)⟩),
      (8, 128, ⟨(some 39), none, .load true 3 (.t 38)⟩),
      (9, 0, ⟨(some 40), none, .fieldAddr 1 (.t 8)⟩),
      (10, 512, ⟨(some 41), none, .load false 1 (.t 40)⟩),
      (3, 6, ⟨(some 34), none, .call (.c (.func (.func 573) #[] #[])) [(.t 33)]⟩),
      (11, 1934, ⟨(some 42), none, .call (.c (.func (.func 238) #[] #[])) [(.t 39), (.t 41)]⟩),
      (12, 3982, ⟨(some 43), none, .build [(.int .u64 0), (.string .empty), (.slice none 0 0), (.slice none 0 0)] [(0, 1), (1, 1), (2, 1), (3, 1)] [(1, (.t 42))]⟩),
      (13, 8190, ⟨(some 44), none, .buildSlice [(.int .u64 0), (.string .empty), (.slice none 0 0), (.slice none 0 0)] 4 3 [(0, (.t 34)), (1, (.t 37)), (2, (.t 43))]⟩),
      (14, 16382, ⟨(some 45), none, .call (.c (.func (.func 225) #[] #[])) [(.c (.string ⟨#[98, 116, 116]⟩)), (.t 44)]⟩),
      (15, 32767, ⟨(some 46), none, .bin .add 9 (.t 31) (.t 45)⟩),
      (16, 65535, ⟨(some 6), none, .move (.t 46)⟩)] (some [5, 6, 25, 26, 27]))))
   (.ops [⟨(some 47), none, .bin .add 3 (.t 27) (.c (.int .i64 1))⟩,
     ⟨(some 27), none, .move (.t 47)⟩] (some [5, 6, 25, 26, 27]))))))))
 (.seq (.ops [⟨(some 48), none, .move (.t 6)⟩,
   ⟨(some 4), none, .move (.t 48)⟩,
   ⟨none, none, .store 1 (.t 5) (.c (.int .i64 0))⟩] (some [4, 5]))
 .ret)))))), [.tmp 4, .cell false 1 5]⟩

theorem is570 : FnIs Tryz.prog 570 x570 := ⟨Tryz.f570, _, Tryz.func570, by kernel_rfl, rfl, by kernel_rfl, by decide, by kernel_rfl⟩

/-- (*cloisonne/seglog.Log).Record -/
def x571 : XDecl := .code ⟨2, 
 (.seq (.ops [⟨(some 4), none, .move (.c (.pointer none))⟩,
   ⟨(some 5), none, .move (.c (.int .i64 0))⟩] (some [0, 1]))
 (.seq (.block 0
  (.seq (.ops [⟨(some 7), none, .move (.t 0)⟩,
    ⟨(some 8), none, .isNil .ptr false (.t 7)⟩,
    ⟨(some 6), none, .move (.t 8)⟩] (some [0, 1, 6]))
  (.cond (.t 6)
   (.seq (.ops [⟨(some 4), none, .move (.c (.pointer none))⟩,
     ⟨(some 5), none, .move (.c (.int .i64 2))⟩] (some [4, 5]))
   .ret)
   (.seq (.ops [⟨(some 10), none, .move (.t 0)⟩,
     ⟨(some 11), none, .call (.c (.func (.func 320) #[] #[])) [(.t 10)]⟩,
     ⟨(some 9), none, .move (.t 11)⟩] (some [0, 1, 9]))
   (.cond (.t 9)
    (.seq (.ops [⟨(some 4), none, .move (.c (.pointer none))⟩,
      ⟨(some 5), none, .move (.c (.int .i64 9))⟩] (some [4, 5]))
    .ret)
    (.seq (.ops [⟨(some 13), none, .move (.t 0)⟩,
      ⟨(some 14), none, .nilCheck (.t 13)⟩,
      ⟨(some 15), none, .fieldAddr 3 (.t 14)⟩,
      ⟨(some 16), none, .load false 1 (.t 15)⟩,
      ⟨(some 17), none, .bin .eql 3 (.t 16) (.c (.int .i64 0))⟩,
      ⟨(some 12), none, .move (.t 17)⟩] (some [0, 1, 12]))
    (.cond (.t 12)
     (.seq (.ops [⟨(some 4), none, .move (.c (.pointer none))⟩,
       ⟨(some 5), none, .move (.c (.int .i64 7))⟩] (some [4, 5]))
     .ret)
     (.seq (.ops [⟨(some 19), none, .move (.t 0)⟩,
       ⟨(some 20), none, .move (.t 1)⟩,
       ⟨(some 21), none, .calcB .len [9] 3 [(.t 20)]⟩,
       ⟨(some 22), none, .call (.c (.func (.func 574) #[] #[])) [(.t 19), (.t 21)]⟩,
       ⟨(some 23), none, .un .not (.t 22)⟩,
       ⟨(some 18), none, .move (.t 23)⟩] (some [0, 1, 18]))
     (.cond (.t 18)
      (.seq (.ops [⟨(some 4), none, .move (.c (.pointer none))⟩,
        ⟨(some 5), none, .move (.c (.int .i64 16))⟩] (some [4, 5]))
      .ret)
      .skip)))))))))
 (.seq (.opsd [(0, 0, ⟨(some 24), none, .move (.t 0)⟩),
   (1, 0, ⟨(some 25), none, .move (.t 0)⟩),
   (2, 2, ⟨(some 26), none, .nilCheck (.t 25)⟩),
   (3, 6, ⟨(some 27), none, .fieldAddr 2 (.t 26)⟩),
   (4, 14, ⟨(some 28), none, .load false 1 (.t 27)⟩),
   (5, 0, ⟨(some 29), none, .move (.t 0)⟩),
   (6, 32, ⟨(some 30), none, .nilCheck (.t 29)⟩),
   (7, 96, ⟨(some 31), none, .fieldAddr 3 (.t 30)⟩),
   (8, 224, ⟨(some 32), none, .load false 1 (.t 31)⟩),
   (9, 0, ⟨(some 33), none, .move (.t 0)⟩),
   (10, 512, ⟨(some 34), none, .nilCheck (.t 33)⟩),
   (11, 1536, ⟨(some 35), none, .fieldAddr 4 (.t 34)⟩),
   (12, 3584, ⟨(some 36), none, .load false 1 (.t 35)⟩),
   (13, 0, ⟨(some 37), none, .move (.t 1)⟩),
   (14, 8192, ⟨(some 38), none, .call (.c (.func (.func 323) #[] #[])) [(.t 37)]⟩),
   (15, 32766, ⟨(some 39), none, .build [(.pointer none), (.int .i64 0), (.int .i64 0), (.int .i64 0), (.slice none 0 0), (.int .i64 0), (.bool false)] [(0, 1), (1, 1), (2, 1), (3, 1), (4, 1), (5, 1), (6, 1)] [(1, (.t 28)), (2, (.t 32)), (3, (.t 36)), (4, (.t 38))]⟩),
   (16, 65534, ⟨(some 40), none, .box (.t 39)⟩),
   (17, 131071, ⟨(some 41), none, .call (.c (.func (.func 322) #[] #[])) [(.t 24), (.t 40)]⟩),
   (18, 262143, ⟨(some 42), none, .extract (.t 41) 0⟩),
   (19, 262143, ⟨(some 43), none, .extract (.t 41) 1⟩),
   (20, 1048575, ⟨(some 4), none, .move (.t 42)⟩),
   (21, 2097151, ⟨(some 5), none, .move (.t 43)⟩)] (some [4, 5]))
 .ret))), [.tmp 4, .tmp 5]⟩

theorem is571 : FnIs Tryz.prog 571 x571 := ⟨Tryz.f571, _, Tryz.func571, by kernel_rfl, rfl, by kernel_rfl, by decide, by kernel_rfl⟩

/-- (*cloisonne/vault.Vault).Next -/
def x572 : XDecl := .code ⟨1, 
 (.seq (.ops [⟨(some 2), none, .move (.c (.int .u64 0))⟩] (some [0]))
 (.seq (.seq (.ops [⟨(some 3), none, .move (.t 0)⟩,
   ⟨(some 4), none, .isNil .ptr false (.t 3)⟩] (some [0, 4]))
 (.cond (.t 4)
  (.seq (.ops [⟨(some 2), none, .move (.c (.int .u64 0))⟩] (some [2]))
  .ret)
  .skip))
 (.seq (.ops [⟨(some 5), none, .move (.t 0)⟩,
   ⟨(some 6), none, .nilCheck (.t 5)⟩,
   ⟨(some 7), none, .fieldAddr 9 (.t 6)⟩,
   ⟨(some 8), none, .load false 1 (.t 7)⟩,
   ⟨(some 9), none, .bin .add 23 (.t 8) (.c (.int .u64 1))⟩,
   ⟨(some 10), none, .nilCheck (.t 5)⟩,
   ⟨(some 11), none, .fieldAddr 9 (.t 10)⟩,
   ⟨none, none, .store 1 (.t 11) (.t 9)⟩] (some [0]))
 (.seq (.ops [⟨(some 12), none, .move (.t 0)⟩,
   ⟨(some 13), none, .nilCheck (.t 12)⟩,
   ⟨(some 14), none, .fieldAddr 9 (.t 13)⟩,
   ⟨(some 15), none, .load false 1 (.t 14)⟩,
   ⟨(some 2), none, .move (.t 15)⟩] (some [2]))
 .ret)))), [.tmp 2]⟩

theorem is572 : FnIs Tryz.prog 572 x572 := ⟨Tryz.f572, _, Tryz.func572, by kernel_rfl, rfl, by kernel_rfl, by decide, by kernel_rfl⟩

/-- cloisonne/record.truth -/
def x573 : XDecl := .code ⟨1, 
 (.seq (.ops [⟨(some 2), none, .alloc [(.int .u64 0), (.string .empty), (.slice none 0 0), (.slice none 0 0)]⟩] (some [0, 2]))
 (.seq (.seq (.ops [⟨(some 3), none, .move (.t 0)⟩] (some [2, 3]))
 (.cond (.t 3)
  (.seq (.ops [⟨(some 4), none, .build [(.int .u64 0), (.string .empty), (.slice none 0 0), (.slice none 0 0)] [(0, 1), (1, 1), (2, 1), (3, 1)] [(0, (.c (.int .u64 1)))]⟩,
    ⟨none, none, .store 4 (.t 2) (.t 4)⟩] (some [2]))
  .ret)
  .skip))
 (.seq (.ops [⟨(some 5), none, .build [(.int .u64 0), (.string .empty), (.slice none 0 0), (.slice none 0 0)] [(0, 1), (1, 1), (2, 1), (3, 1)] []⟩,
   ⟨none, none, .store 4 (.t 2) (.t 5)⟩] (some [2]))
 .ret))), [.cell true 4 2]⟩

theorem is573 : FnIs Tryz.prog 573 x573 := ⟨Tryz.f573, _, Tryz.func573, by kernel_rfl, rfl, by kernel_rfl, by decide, by kernel_rfl⟩

/-- (*cloisonne/seglog.Log).Room -/
def x574 : XDecl := .code ⟨2, 
 (.seq (.ops [⟨(some 4), none, .move (.c (.bool false))⟩] (some [0, 1]))
 (.seq (.ops [⟨(some 5), none, .move (.t 0)⟩,
   ⟨(some 6), none, .isNil .ptr true (.t 5)⟩,
   ⟨(some 7), none, .move (.t 6)⟩,
   ⟨(some 8), (some (7, true)), .move (.t 0)⟩,
   ⟨(some 9), (some (7, true)), .nilCheck (.t 8)⟩,
   ⟨(some 10), (some (7, true)), .fieldAddr 3 (.t 9)⟩,
   ⟨(some 11), (some (7, true)), .load false 1 (.t 10)⟩,
   ⟨(some 12), (some (7, true)), .bin .gtr 3 (.t 11) (.c (.int .i64 0))⟩,
   ⟨(some 13), none, .pick (.t 7) (.t 12) (.c (.bool false))⟩,
   ⟨(some 14), none, .move (.t 13)⟩,
   ⟨(some 15), (some (14, true)), .move (.t 0)⟩,
   ⟨(some 16), (some (14, true)), .move (.t 1)⟩,
   ⟨(some 17), (some (14, true)), .move (.t 0)⟩,
   ⟨(some 18), (some (14, true)), .nilCheck (.t 17)⟩,
   ⟨(some 19), (some (14, true)), .fieldAddr 4 (.t 18)⟩,
   ⟨(some 20), (some (14, true)), .load false 1 (.t 19)⟩,
   ⟨(some 21), (some (14, true)), .call (.c (.func (.func 321) #[] #[])) [(.t 15), (.t 16), (.t 20)]⟩,
   ⟨(some 22), none, .pick (.t 14) (.t 21) (.c (.bool false))⟩,
   ⟨(some 4), none, .move (.t 22)⟩] (some [4]))
 .ret)), [.tmp 4]⟩

theorem is574 : FnIs Tryz.prog 574 x574 := ⟨Tryz.f574, _, Tryz.func574, by kernel_rfl, rfl, by kernel_rfl, by decide, by kernel_rfl⟩


end Go.Proofs.YtlhinicapcdikaaGreatDoor.X
