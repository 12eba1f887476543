/-
  Own work, printed by a program of ours (mkprog.py): the functions of this seat as code of the abstract run, and that each is the model's.
-/
import Derived.Test.YtepadpjpmmaodaaGreatDoorXLaw
import Derived.Test.YtepadpjpmmaodaaGreatDoorChecked
set_option maxRecDepth 100000
namespace Go.Proofs.YtepadpjpmmaodaaGreatDoor.X
open Go

/-- cloisonne/chain.Right -/
def x176 : XDecl := .code ⟨1, 
 (.seq (.ops [⟨(some 2), none, .move (.c (.bool false))⟩] (some [0]))
 (.seq (.seq (.ops [⟨(some 5), none, .move (.t 0)⟩,
   ⟨(some 6), none, .len (.t 5)⟩,
   ⟨(some 7), none, .move (.c (.int .i64 0))⟩] (some [0, 5, 6, 7]))
 (.block 0
  (.loop
   (.seq (.ops [⟨(some 8), none, .bin .lss 3 (.t 7) (.t 6)⟩] (some [0, 5, 6, 7, 8]))
   (.seq (.cond (.t 8)
    .skip
    (.exit 0))
   (.seq (.block 1
    (.seq (.ops [⟨(some 9), none, .move (.t 7)⟩,
      ⟨(some 10), none, .indexAddr 5 (.t 5) (.t 7)⟩,
      ⟨(some 11), none, .load true 5 (.t 10)⟩,
      ⟨(some 4), none, .alloc [(.int .i64 0), (.bool false), (.bool false), (.string .empty), (.int .u64 0)]⟩,
      ⟨(some 3), none, .move (.t 9)⟩,
      ⟨none, none, .store 5 (.t 4) (.t 11)⟩] (some [0, 3, 4, 5, 6, 7]))
    (.seq (.opsd [(0, 0, ⟨(some 12), none, .load true 5 (.t 4)⟩),
      (1, 1, ⟨(some 13), none, .call (.c (.func (.func 204) #[] #[])) [(.t 12)]⟩),
      (2, 3, ⟨(some 14), none, .un .not (.t 13)⟩),
      (3, 7, ⟨(some 15), none, .move (.t 14)⟩),
      (4, 15, ⟨(some 16), (some (15, false)), .move (.t 3)⟩),
      (5, 31, ⟨(some 17), (some (15, false)), .bin .gtr 3 (.t 16) (.c (.int .i64 0))⟩),
      (6, 63, ⟨(some 18), (some (15, false)), .move (.t 17)⟩),
      (7, 127, ⟨(some 19), (some (18, true)), .move (.t 0)⟩),
      (8, 127, ⟨(some 20), (some (18, true)), .move (.t 3)⟩),
      (9, 383, ⟨(some 21), (some (18, true)), .bin .sub 3 (.t 20) (.c (.int .i64 1))⟩),
      (10, 1023, ⟨(some 22), (some (18, true)), .indexAddr 5 (.t 19) (.t 21)⟩),
      (11, 2047, ⟨(some 23), (some (18, true)), .fieldAddr 0 (.t 22)⟩),
      (12, 4095, ⟨(some 24), (some (18, true)), .load false 1 (.t 23)⟩),
      (13, 127, ⟨(some 25), (some (18, true)), .fieldAddr 0 (.t 4)⟩),
      (14, 8319, ⟨(some 26), (some (18, true)), .load false 1 (.t 25)⟩),
      (15, 32767, ⟨(some 27), (some (18, true)), .bin .geq 3 (.t 24) (.t 26)⟩),
      (16, 65535, ⟨(some 28), (some (15, false)), .pick (.t 18) (.t 27) (.c (.bool false))⟩),
      (17, 131071, ⟨(some 29), none, .pick (.t 15) (.c (.bool true)) (.t 28)⟩)] (some [0, 5, 6, 7, 29]))
    (.cond (.t 29)
     (.seq (.ops [⟨(some 2), none, .move (.c (.bool false))⟩] (some [2]))
     .ret)
     .skip))))
   (.ops [⟨(some 30), none, .bin .add 3 (.t 7) (.c (.int .i64 1))⟩,
     ⟨(some 7), none, .move (.t 30)⟩] (some [0, 5, 6, 7]))))))))
 (.seq (.ops [⟨(some 2), none, .move (.c (.bool true))⟩] (some [2]))
 .ret))), [.tmp 2]⟩

theorem is176 : FnIs Tryz.prog 176 x176 := ⟨Tryz.f176, _, Tryz.func176, by kernel_rfl, rfl, by kernel_rfl, by decide, by kernel_rfl⟩

/-- (*cloisonne/tree.Tree).Get -/
def x178 : XDecl := .code ⟨2, 
 (.seq (.ops [⟨(some 4), none, .move (.c (.int .i64 0))⟩,
   ⟨(some 5), none, .move (.c (.bool false))⟩] (some [0, 1]))
 (.seq (.ops [⟨(some 10), none, .move (.t 0)⟩,
   ⟨(some 11), none, .move (.t 1)⟩,
   ⟨(some 12), none, .call (.c (.func (.func 207) #[] #[])) [(.t 10), (.t 11)]⟩,
   ⟨(some 9), none, .move (.t 12)⟩,
   ⟨(some 13), none, .extract (.t 9) 0⟩,
   ⟨(some 14), none, .extract (.t 9) 1⟩,
   ⟨(some 15), none, .extract (.t 9) 2⟩,
   ⟨(some 6), none, .move (.t 13)⟩,
   ⟨(some 7), none, .move (.t 14)⟩,
   ⟨(some 8), none, .move (.t 15)⟩] (some [6, 7, 8]))
 (.seq (.seq (.ops [⟨(some 16), none, .move (.t 8)⟩,
   ⟨(some 17), none, .un .not (.t 16)⟩] (some [6, 7, 17]))
 (.cond (.t 17)
  (.seq (.ops [⟨(some 4), none, .move (.c (.int .i64 0))⟩,
    ⟨(some 5), none, .move (.c (.bool false))⟩] (some [4, 5]))
  .ret)
  .skip))
 (.seq (.ops [⟨(some 18), none, .move (.t 6)⟩,
   ⟨(some 19), none, .nilCheck (.t 18)⟩,
   ⟨(some 20), none, .fieldAddr 1 (.t 19)⟩,
   ⟨(some 21), none, .load false 1 (.t 20)⟩,
   ⟨(some 22), none, .move (.t 7)⟩,
   ⟨(some 23), none, .indexAddr 1 (.t 21) (.t 22)⟩,
   ⟨(some 24), none, .load false 1 (.t 23)⟩,
   ⟨(some 4), none, .move (.t 24)⟩,
   ⟨(some 5), none, .move (.c (.bool true))⟩] (some [4, 5]))
 .ret)))), [.tmp 4, .tmp 5]⟩

theorem is178 : FnIs Tryz.prog 178 x178 := ⟨Tryz.f178, _, Tryz.func178, by kernel_rfl, rfl, by kernel_rfl, by decide, by kernel_rfl⟩

/-- cloisonne/sector.put -/
def x179 : XDecl := .code ⟨3, 
 (.seq (.ops [⟨(some 6), none, .move (.c (.slice none 0 0))⟩] (some [0, 1, 2]))
 (.seq (.seq (.ops [⟨(some 8), none, .move (.t 2)⟩,
   ⟨(some 9), none, .bin .sub 3 (.t 8) (.c (.int .i64 1))⟩,
   ⟨(some 7), none, .move (.t 9)⟩] (some [0, 1, 7]))
 (.block 0
  (.loop
   (.seq (.seq (.ops [⟨(some 10), none, .move (.t 7)⟩,
     ⟨(some 11), none, .bin .geq 3 (.t 10) (.c (.int .i64 0))⟩] (some [0, 1, 7, 11]))
   (.cond (.t 11)
    .skip
    (.exit 0)))
   (.seq (.block 1
    (.ops [⟨(some 14), none, .move (.t 0)⟩,
      ⟨(some 15), none, .move (.t 1)⟩,
      ⟨(some 16), none, .move (.t 7)⟩,
      ⟨(some 17), none, .bin .mul 3 (.c (.int .i64 8)) (.t 16)⟩,
      ⟨(some 18), none, .bin .shr 3 (.t 15) (.t 17)⟩,
      ⟨(some 19), none, .conv 3 5 (.t 18)⟩,
      ⟨(some 20), none, .buildSlice [(.int .u8 0)] 1 1 [(0, (.t 19))]⟩,
      ⟨(some 21), none, .append 1 1 [(.int .u8 0)] (.t 14) (.t 20)⟩,
      ⟨(some 0), none, .move (.t 21)⟩] (some [0, 1, 7])))
   (.ops [⟨(some 12), none, .move (.t 7)⟩,
     ⟨(some 13), none, .bin .sub 3 (.t 12) (.c (.int .i64 1))⟩,
     ⟨(some 7), none, .move (.t 13)⟩] (some [0, 1, 7])))))))
 (.seq (.ops [⟨(some 22), none, .move (.t 0)⟩,
   ⟨(some 6), none, .move (.t 22)⟩] (some [6]))
 .ret))), [.tmp 6]⟩

theorem is179 : FnIs Tryz.prog 179 x179 := ⟨Tryz.f179, _, Tryz.func179, by kernel_rfl, rfl, by kernel_rfl, by decide, by kernel_rfl⟩

/-- cloisonne/sector.within -/
def x180 : XDecl := .code ⟨3, 
 (.seq (.ops [⟨(some 6), none, .move (.c (.bool false))⟩] (some [0, 1, 2]))
 (.seq (.ops [⟨(some 7), none, .move (.t 0)⟩,
   ⟨(some 8), none, .move (.t 1)⟩,
   ⟨(some 9), none, .bin .geq 3 (.t 7) (.t 8)⟩,
   ⟨(some 10), none, .move (.t 9)⟩,
   ⟨(some 11), (some (10, true)), .move (.t 0)⟩,
   ⟨(some 12), (some (10, true)), .move (.t 2)⟩,
   ⟨(some 13), (some (10, true)), .bin .leq 3 (.t 11) (.t 12)⟩,
   ⟨(some 14), none, .pick (.t 10) (.t 13) (.c (.bool false))⟩,
   ⟨(some 6), none, .move (.t 14)⟩] (some [6]))
 .ret)), [.tmp 6]⟩

theorem is180 : FnIs Tryz.prog 180 x180 := ⟨Tryz.f180, _, Tryz.func180, by kernel_rfl, rfl, by kernel_rfl, by decide, by kernel_rfl⟩

/-- cloisonne/wire.letter -/
def x189 : XDecl := .code ⟨1, 
 (.seq (.ops [⟨(some 2), none, .move (.c (.bool false))⟩] (some [0]))
 (.seq (.ops [⟨(some 3), none, .move (.t 0)⟩,
   ⟨(some 4), none, .call (.c (.func (.func 213) #[] #[])) [(.c (.string ⟨#[98, 110, 116, 102, 108]⟩)), (.t 3)]⟩,
   ⟨(some 5), none, .bin .geq 3 (.t 4) (.c (.int .i64 0))⟩,
   ⟨(some 2), none, .move (.t 5)⟩] (some [2]))
 .ret)), [.tmp 2]⟩

theorem is189 : FnIs Tryz.prog 189 x189 := ⟨Tryz.f189, _, Tryz.func189, by kernel_rfl, rfl, by kernel_rfl, by decide, by kernel_rfl⟩

/-- cloisonne/wire.empty -/
def x190 : XDecl := .code ⟨4, 
 (.seq (.ops [⟨(some 4), none, .box (.t 0)⟩,
   ⟨(some 8), none, .move (.c (.bool false))⟩] (some [1, 2, 3, 4]))
 (.seq (.ops [⟨(some 9), none, .move (.t 1)⟩,
   ⟨(some 10), none, .move (.t 9)⟩,
   ⟨(some 11), (some (10, false)), .fieldAddr 0 (.t 4)⟩,
   ⟨(some 12), (some (10, false)), .load false 1 (.t 11)⟩,
   ⟨(some 13), (some (10, false)), .bin .eql 40 (.t 12) (.c (.int .u64 0))⟩,
   ⟨(some 14), none, .pick (.t 10) (.c (.bool true)) (.t 13)⟩,
   ⟨(some 15), none, .move (.t 14)⟩,
   ⟨(some 16), (some (15, true)), .move (.t 2)⟩,
   ⟨(some 17), (some (15, true)), .move (.t 16)⟩,
   ⟨(some 18), (some (17, false)), .fieldAddr 1 (.t 4)⟩,
   ⟨(some 19), (some (17, false)), .load false 1 (.t 18)⟩,
   ⟨(some 20), (some (17, false)), .bin .eql 9 (.t 19) (.c (.string .empty))⟩,
   ⟨(some 21), (some (15, true)), .pick (.t 17) (.c (.bool true)) (.t 20)⟩,
   ⟨(some 22), none, .pick (.t 15) (.t 21) (.c (.bool false))⟩,
   ⟨(some 23), none, .move (.t 22)⟩,
   ⟨(some 24), (some (23, true)), .move (.t 3)⟩,
   ⟨(some 25), (some (23, true)), .move (.t 24)⟩,
   ⟨(some 26), (some (25, false)), .fieldAddr 2 (.t 4)⟩,
   ⟨(some 27), (some (25, false)), .load false 1 (.t 26)⟩,
   ⟨(some 28), (some (25, false)), .len (.t 27)⟩,
   ⟨(some 29), (some (25, false)), .bin .eql 3 (.t 28) (.c (.int .i64 0))⟩,
   ⟨(some 30), (some (23, true)), .pick (.t 25) (.c (.bool true)) (.t 29)⟩,
   ⟨(some 31), none, .pick (.t 23) (.t 30) (.c (.bool false))⟩,
   ⟨(some 8), none, .move (.t 31)⟩] (some [8]))
 .ret)), [.tmp 8]⟩

theorem is190 : FnIs Tryz.prog 190 x190 := ⟨Tryz.f190, _, Tryz.func190, by kernel_rfl, rfl, by kernel_rfl, by decide, by kernel_rfl⟩

/-- (*cloisonne/wire.printer).number -/
def x191 : XDecl := .code ⟨2, 
 (.seq (.block 0
  (.loop
   (.seq (.seq (.ops [⟨(some 4), none, .move (.t 1)⟩,
     ⟨(some 5), none, .bin .geq 40 (.t 4) (.c (.int .u64 128))⟩] (some [0, 1, 5]))
   (.cond (.t 5)
    .skip
    (.exit 0)))
   (.block 1
    (.seq (.ops [⟨(some 6), none, .move (.t 0)⟩,
      ⟨(some 7), none, .move (.t 0)⟩,
      ⟨(some 8), none, .nilCheck (.t 7)⟩,
      ⟨(some 9), none, .fieldAddr 0 (.t 8)⟩,
      ⟨(some 10), none, .load false 1 (.t 9)⟩,
      ⟨(some 11), none, .move (.t 1)⟩,
      ⟨(some 12), none, .bin .rem 40 (.t 11) (.c (.int .u64 128))⟩,
      ⟨(some 13), none, .conv 40 5 (.t 12)⟩,
      ⟨(some 14), none, .bin .or 5 (.t 13) (.c (.int .u8 128))⟩,
      ⟨(some 15), none, .buildSlice [(.int .u8 0)] 1 1 [(0, (.t 14))]⟩,
      ⟨(some 16), none, .append 1 1 [(.int .u8 0)] (.t 10) (.t 15)⟩,
      ⟨(some 17), none, .nilCheck (.t 6)⟩,
      ⟨(some 18), none, .fieldAddr 0 (.t 17)⟩,
      ⟨none, none, .store 1 (.t 18) (.t 16)⟩] (some [0, 1]))
    (.ops [⟨(some 19), none, .move (.t 1)⟩,
      ⟨(some 20), none, .bin .quo 40 (.t 19) (.c (.int .u64 128))⟩,
      ⟨(some 1), none, .move (.t 20)⟩] (some [0, 1])))))))
 (.ops [⟨(some 21), none, .move (.t 0)⟩,
   ⟨(some 22), none, .move (.t 0)⟩,
   ⟨(some 23), none, .nilCheck (.t 22)⟩,
   ⟨(some 24), none, .fieldAddr 0 (.t 23)⟩,
   ⟨(some 25), none, .load false 1 (.t 24)⟩,
   ⟨(some 26), none, .move (.t 1)⟩,
   ⟨(some 27), none, .conv 40 5 (.t 26)⟩,
   ⟨(some 28), none, .buildSlice [(.int .u8 0)] 1 1 [(0, (.t 27))]⟩,
   ⟨(some 29), none, .append 1 1 [(.int .u8 0)] (.t 25) (.t 28)⟩,
   ⟨(some 30), none, .nilCheck (.t 21)⟩,
   ⟨(some 31), none, .fieldAddr 0 (.t 30)⟩,
   ⟨none, none, .store 1 (.t 31) (.t 29)⟩] (some []))), []⟩

theorem is191 : FnIs Tryz.prog 191 x191 := ⟨Tryz.f191, _, Tryz.func191, by kernel_rfl, rfl, by kernel_rfl, by decide, by kernel_rfl⟩

/-- slices.Clone[[]cloisonne/api.Version,cloisonne/api.Version] -/
def x198 : XDecl := .code ⟨1, 
 (.seq (.ops [⟨(some 2), none, .move (.c (.slice none 0 0))⟩] (some [0]))
 (.seq (.seq (.ops [⟨(some 3), none, .move (.t 0)⟩,
   ⟨(some 4), none, .isNil .slice false (.t 3)⟩] (some [0, 4]))
 (.cond (.t 4)
  (.seq (.ops [⟨(some 2), none, .move (.c (.slice none 0 0))⟩] (some [2]))
  .ret)
  .skip))
 (.seq (.ops [⟨(some 5), none, .buildSlice [(.int .i64 0), (.bool false), (.bool false), (.string .empty), (.int .u64 0)] 5 0 []⟩,
   ⟨(some 6), none, .move (.t 0)⟩,
   ⟨(some 7), none, .append 5 48 [(.int .i64 0), (.bool false), (.bool false), (.string .empty), (.int .u64 0)] (.t 5) (.t 6)⟩,
   ⟨(some 2), none, .move (.t 7)⟩] (some [2]))
 .ret))), [.tmp 2]⟩

theorem is198 : FnIs Tryz.prog 198 x198 := ⟨Tryz.f198, _, Tryz.func198, by kernel_rfl, rfl, by kernel_rfl, by decide, by kernel_rfl⟩

/-- (*cloisonne/tree.Tree).Put -/
def x200 : XDecl := .code ⟨3, 
 (.seq (.ops [⟨(some 6), none, .move (.c (.int .i64 0))⟩,
   ⟨(some 7), none, .move (.c (.bool false))⟩,
   ⟨(some 8), none, .move (.c (.int .i64 0))⟩] (some [0, 1, 2]))
 (.seq (.seq (.ops [⟨(some 16), none, .move (.t 0)⟩,
   ⟨(some 17), none, .isNil .ptr false (.t 16)⟩] (some [0, 1, 2, 17]))
 (.cond (.t 17)
  (.seq (.ops [⟨(some 6), none, .move (.c (.int .i64 0))⟩,
    ⟨(some 7), none, .move (.c (.bool false))⟩,
    ⟨(some 8), none, .move (.c (.int .i64 2))⟩] (some [6, 7, 8]))
  .ret)
  .skip))
 (.seq (.seq (.ops [⟨(some 19), none, .move (.t 0)⟩,
   ⟨(some 20), none, .move (.t 1)⟩,
   ⟨(some 21), none, .call (.c (.func (.func 207) #[] #[])) [(.t 19), (.t 20)]⟩,
   ⟨(some 18), none, .move (.t 21)⟩,
   ⟨(some 22), none, .extract (.t 18) 0⟩,
   ⟨(some 23), none, .extract (.t 18) 1⟩,
   ⟨(some 24), none, .extract (.t 18) 2⟩,
   ⟨(some 9), none, .move (.t 22)⟩,
   ⟨(some 10), none, .move (.t 23)⟩,
   ⟨(some 11), none, .move (.t 24)⟩] (some [0, 1, 2, 9, 10, 11]))
 (.seq (.ops [⟨(some 25), none, .move (.t 11)⟩] (some [0, 1, 2, 9, 10, 25]))
 (.cond (.t 25)
  (.seq (.ops [⟨(some 26), none, .move (.t 9)⟩,
    ⟨(some 27), none, .nilCheck (.t 26)⟩,
    ⟨(some 28), none, .fieldAddr 1 (.t 27)⟩,
    ⟨(some 29), none, .load false 1 (.t 28)⟩,
    ⟨(some 30), none, .move (.t 10)⟩,
    ⟨(some 31), none, .indexAddr 1 (.t 29) (.t 30)⟩,
    ⟨(some 32), none, .load false 1 (.t 31)⟩,
    ⟨(some 12), none, .move (.t 32)⟩] (some [2, 9, 10, 12]))
  (.seq (.ops [⟨(some 33), none, .move (.t 9)⟩,
    ⟨(some 34), none, .nilCheck (.t 33)⟩,
    ⟨(some 35), none, .fieldAddr 1 (.t 34)⟩,
    ⟨(some 36), none, .load false 1 (.t 35)⟩,
    ⟨(some 37), none, .move (.t 10)⟩,
    ⟨(some 38), none, .move (.t 2)⟩,
    ⟨(some 39), none, .indexAddr 1 (.t 36) (.t 37)⟩,
    ⟨none, none, .store 1 (.t 39) (.t 38)⟩] (some [12]))
  (.seq (.ops [⟨(some 40), none, .move (.t 12)⟩,
    ⟨(some 6), none, .move (.t 40)⟩,
    ⟨(some 7), none, .move (.c (.bool true))⟩,
    ⟨(some 8), none, .move (.c (.int .i64 0))⟩] (some [6, 7, 8]))
  .ret)))
  .skip)))
 (.seq (.seq (.ops [⟨(some 41), none, .move (.t 0)⟩,
   ⟨(some 42), none, .nilCheck (.t 41)⟩,
   ⟨(some 43), none, .fieldAddr 3 (.t 42)⟩,
   ⟨(some 44), none, .load false 1 (.t 43)⟩,
   ⟨(some 45), none, .bin .geq 3 (.t 44) (.c (.int .i64 100000))⟩] (some [0, 1, 2, 45]))
 (.cond (.t 45)
  (.seq (.ops [⟨(some 6), none, .move (.c (.int .i64 0))⟩,
    ⟨(some 7), none, .move (.c (.bool false))⟩,
    ⟨(some 8), none, .move (.c (.int .i64 5))⟩] (some [6, 7, 8]))
  .ret)
  .skip))
 (.seq (.ops [⟨(some 46), none, .move (.t 0)⟩,
   ⟨(some 47), none, .nilCheck (.t 46)⟩,
   ⟨(some 48), none, .fieldAddr 3 (.t 47)⟩,
   ⟨(some 49), none, .load false 1 (.t 48)⟩,
   ⟨(some 50), none, .bin .add 3 (.t 49) (.c (.int .i64 1))⟩,
   ⟨(some 51), none, .nilCheck (.t 46)⟩,
   ⟨(some 52), none, .fieldAddr 3 (.t 51)⟩,
   ⟨none, none, .store 1 (.t 52) (.t 50)⟩] (some [0, 1, 2]))
 (.seq (.seq (.ops [⟨(some 53), none, .move (.t 0)⟩,
   ⟨(some 54), none, .nilCheck (.t 53)⟩,
   ⟨(some 55), none, .fieldAddr 2 (.t 54)⟩,
   ⟨(some 56), none, .load false 1 (.t 55)⟩,
   ⟨(some 57), none, .bin .lss 3 (.t 56) (.c (.int .i64 0))⟩] (some [0, 1, 2, 57]))
 (.cond (.t 57)
  (.seq (.ops [⟨(some 58), none, .move (.t 0)⟩,
    ⟨(some 59), none, .move (.t 0)⟩,
    ⟨(some 60), none, .move (.t 1)⟩,
    ⟨(some 61), none, .buildSlice [(.string .empty)] 1 1 [(0, (.t 60))]⟩,
    ⟨(some 62), none, .move (.t 2)⟩,
    ⟨(some 63), none, .buildSlice [(.int .i64 0)] 1 1 [(0, (.t 62))]⟩,
    ⟨(some 64), none, .build [(.slice none 0 0), (.slice none 0 0), (.slice none 0 0)] [(0, 1), (1, 1), (2, 1)] [(0, (.t 61)), (1, (.t 63))]⟩,
    ⟨(some 65), none, .call (.c (.func (.func 223) #[] #[])) [(.t 59), (.t 64)]⟩,
    ⟨(some 66), none, .nilCheck (.t 58)⟩,
    ⟨(some 67), none, .fieldAddr 2 (.t 66)⟩,
    ⟨none, none, .store 1 (.t 67) (.t 65)⟩] (some []))
  (.seq (.ops [⟨(some 6), none, .move (.c (.int .i64 0))⟩,
    ⟨(some 7), none, .move (.c (.bool false))⟩,
    ⟨(some 8), none, .move (.c (.int .i64 0))⟩] (some [6, 7, 8]))
  .ret))
  .skip))
 (.seq (.ops [⟨(some 68), none, .move (.t 0)⟩,
   ⟨(some 69), none, .move (.t 0)⟩,
   ⟨(some 70), none, .nilCheck (.t 69)⟩,
   ⟨(some 71), none, .fieldAddr 2 (.t 70)⟩,
   ⟨(some 72), none, .load false 1 (.t 71)⟩,
   ⟨(some 73), none, .move (.t 1)⟩,
   ⟨(some 74), none, .move (.t 2)⟩,
   ⟨(some 75), none, .call (.c (.func (.func 224) #[] #[])) [(.t 68), (.t 72), (.t 73), (.t 74)]⟩] (some [0]))
 (.seq (.seq (.opsd [(0, 0, ⟨(some 76), none, .move (.t 0)⟩),
   (1, 1, ⟨(some 77), none, .nilCheck (.t 76)⟩),
   (2, 3, ⟨(some 78), none, .fieldAddr 0 (.t 77)⟩),
   (3, 7, ⟨(some 79), none, .load false 1 (.t 78)⟩),
   (4, 0, ⟨(some 80), none, .move (.t 0)⟩),
   (5, 16, ⟨(some 81), none, .nilCheck (.t 80)⟩),
   (6, 48, ⟨(some 82), none, .fieldAddr 2 (.t 81)⟩),
   (7, 112, ⟨(some 83), none, .load false 1 (.t 82)⟩),
   (8, 255, ⟨(some 84), none, .indexAddr 3 (.t 79) (.t 83)⟩),
   (9, 511, ⟨(some 85), none, .call (.c (.func (.func 225) #[] #[])) [(.t 84)]⟩),
   (10, 1023, ⟨(some 86), none, .bin .gtr 3 (.t 85) (.c (.int .i64 4))⟩)] (some [0, 86]))
 (.cond (.t 86)
  (.seq (.ops [⟨(some 87), none, .move (.t 0)⟩,
    ⟨(some 88), none, .nilCheck (.t 87)⟩,
    ⟨(some 89), none, .fieldAddr 2 (.t 88)⟩,
    ⟨(some 90), none, .load false 1 (.t 89)⟩,
    ⟨(some 13), none, .move (.t 90)⟩] (some [0, 13]))
  (.seq (.ops [⟨(some 92), none, .move (.t 0)⟩,
    ⟨(some 93), none, .move (.t 13)⟩,
    ⟨(some 94), none, .call (.c (.func (.func 226) #[] #[])) [(.t 92), (.t 93)]⟩,
    ⟨(some 91), none, .move (.t 94)⟩,
    ⟨(some 95), none, .extract (.t 91) 0⟩,
    ⟨(some 96), none, .extract (.t 91) 1⟩,
    ⟨(some 14), none, .move (.t 95)⟩,
    ⟨(some 15), none, .move (.t 96)⟩] (some [0, 13, 14, 15]))
  (.ops [⟨(some 97), none, .move (.t 0)⟩,
    ⟨(some 98), none, .move (.t 0)⟩,
    ⟨(some 99), none, .move (.t 15)⟩,
    ⟨(some 100), none, .buildSlice [(.string .empty)] 1 1 [(0, (.t 99))]⟩,
    ⟨(some 101), none, .move (.t 13)⟩,
    ⟨(some 102), none, .move (.t 14)⟩,
    ⟨(some 103), none, .buildSlice [(.int .i64 0)] 1 2 [(0, (.t 101)), (1, (.t 102))]⟩,
    ⟨(some 104), none, .build [(.slice none 0 0), (.slice none 0 0), (.slice none 0 0)] [(0, 1), (1, 1), (2, 1)] [(0, (.t 100)), (2, (.t 103))]⟩,
    ⟨(some 105), none, .call (.c (.func (.func 223) #[] #[])) [(.t 98), (.t 104)]⟩,
    ⟨(some 106), none, .nilCheck (.t 97)⟩,
    ⟨(some 107), none, .fieldAddr 2 (.t 106)⟩,
    ⟨none, none, .store 1 (.t 107) (.t 105)⟩] (some []))))
  .skip))
 (.seq (.ops [⟨(some 6), none, .move (.c (.int .i64 0))⟩,
   ⟨(some 7), none, .move (.c (.bool false))⟩,
   ⟨(some 8), none, .move (.c (.int .i64 0))⟩] (some [6, 7, 8]))
 .ret))))))))), [.tmp 6, .tmp 7, .tmp 8]⟩

theorem is200 : FnIs Tryz.prog 200 x200 := ⟨Tryz.f200, _, Tryz.func200, by kernel_rfl, rfl, by kernel_rfl, by decide, by kernel_rfl⟩

/-- cloisonne/chain.Weight -/
def x201 : XDecl := .code ⟨1, 
 (.seq (.ops [⟨(some 2), none, .move (.c (.int .i64 0))⟩] (some [0]))
 (.seq (.ops [⟨(some 6), none, .move (.t 0)⟩,
   ⟨(some 7), none, .call (.c (.func (.func 227) #[] #[])) [(.t 6)]⟩,
   ⟨(some 5), none, .move (.t 7)⟩,
   ⟨(some 8), none, .extract (.t 5) 0⟩,
   ⟨(some 9), none, .extract (.t 5) 1⟩,
   ⟨(some 3), none, .alloc [(.int .i64 0), (.bool false), (.bool false), (.string .empty), (.int .u64 0)]⟩,
   ⟨none, none, .store 5 (.t 3) (.t 8)⟩,
   ⟨(some 4), none, .move (.t 9)⟩] (some [3, 4]))
 (.seq (.seq (.ops [⟨(some 10), none, .move (.t 4)⟩,
   ⟨(some 11), none, .un .not (.t 10)⟩,
   ⟨(some 12), none, .move (.t 11)⟩,
   ⟨(some 13), (some (12, false)), .fieldAddr 1 (.t 3)⟩,
   ⟨(some 14), (some (12, false)), .load false 1 (.t 13)⟩,
   ⟨(some 15), none, .pick (.t 12) (.c (.bool true)) (.t 14)⟩] (some [3, 15]))
 (.cond (.t 15)
  (.seq (.ops [⟨(some 2), none, .move (.c (.int .i64 0))⟩] (some [2]))
  .ret)
  .skip))
 (.seq (.ops [⟨(some 16), none, .fieldAddr 2 (.t 3)⟩,
   ⟨(some 17), none, .load true 3 (.t 16)⟩,
   ⟨(some 18), none, .call (.c (.func (.func 171) #[] #[])) [(.t 17)]⟩,
   ⟨(some 2), none, .move (.t 18)⟩] (some [2]))
 .ret)))), [.tmp 2]⟩

theorem is201 : FnIs Tryz.prog 201 x201 := ⟨Tryz.f201, _, Tryz.func201, by kernel_rfl, rfl, by kernel_rfl, by decide, by kernel_rfl⟩

/-- cloisonne/chain.right -/
def x204 : XDecl := .code ⟨1, 
 (.seq (.ops [⟨(some 1), none, .box (.t 0)⟩,
   ⟨(some 2), none, .move (.c (.bool false))⟩] (some [1]))
 (.seq (.ops [⟨(some 3), none, .fieldAddr 0 (.t 1)⟩,
   ⟨(some 4), none, .load false 1 (.t 3)⟩,
   ⟨(some 5), none, .bin .geq 3 (.t 4) (.c (.int .i64 1))⟩,
   ⟨(some 6), none, .move (.t 5)⟩,
   ⟨(some 7), (some (6, true)), .fieldAddr 0 (.t 1)⟩,
   ⟨(some 8), (some (6, true)), .load false 1 (.t 7)⟩,
   ⟨(some 9), (some (6, true)), .bin .leq 3 (.t 8) (.c (.int .i64 1073741824))⟩,
   ⟨(some 10), none, .pick (.t 6) (.t 9) (.c (.bool false))⟩,
   ⟨(some 11), none, .move (.t 10)⟩,
   ⟨(some 12), (some (11, true)), .fieldAddr 2 (.t 1)⟩,
   ⟨(some 13), (some (11, true)), .load true 3 (.t 12)⟩,
   ⟨(some 14), (some (11, true)), .call (.c (.func (.func 77) #[] #[])) [(.t 13)]⟩,
   ⟨(some 15), none, .pick (.t 11) (.t 14) (.c (.bool false))⟩,
   ⟨(some 16), none, .move (.t 15)⟩,
   ⟨(some 17), (some (16, true)), .fieldAddr 1 (.t 1)⟩,
   ⟨(some 18), (some (16, true)), .load false 1 (.t 17)⟩,
   ⟨(some 19), (some (16, true)), .un .not (.t 18)⟩,
   ⟨(some 20), (some (16, true)), .move (.t 19)⟩,
   ⟨(some 21), (some (20, false)), .fieldAddr 2 (.t 1)⟩,
   ⟨(some 22), (some (20, false)), .load true 3 (.t 21)⟩,
   ⟨(some 23), (some (20, false)), .build [(.bool false), (.string .empty), (.int .u64 0)] [(0, 1), (1, 1), (2, 1)] []⟩,
   ⟨(some 24), (some (20, false)), .bin .eql 95 (.t 22) (.t 23)⟩,
   ⟨(some 25), (some (16, true)), .pick (.t 20) (.c (.bool true)) (.t 24)⟩,
   ⟨(some 26), none, .pick (.t 16) (.t 25) (.c (.bool false))⟩,
   ⟨(some 2), none, .move (.t 26)⟩] (some [2]))
 .ret)), [.tmp 2]⟩

theorem is204 : FnIs Tryz.prog 204 x204 := ⟨Tryz.f204, _, Tryz.func204, by kernel_rfl, rfl, by kernel_rfl, by decide, by kernel_rfl⟩

/-- (*cloisonne/tree.Tree).find -/
def x207 : XDecl := .code ⟨2, 
 (.seq (.ops [⟨(some 4), none, .move (.c (.pointer none))⟩,
   ⟨(some 5), none, .move (.c (.int .i64 0))⟩,
   ⟨(some 6), none, .move (.c (.bool false))⟩] (some [0, 1]))
 (.seq (.seq (.ops [⟨(some 10), none, .move (.t 0)⟩,
   ⟨(some 11), none, .isNil .ptr false (.t 10)⟩,
   ⟨(some 12), none, .move (.t 11)⟩,
   ⟨(some 13), (some (12, false)), .move (.t 0)⟩,
   ⟨(some 14), (some (12, false)), .nilCheck (.t 13)⟩,
   ⟨(some 15), (some (12, false)), .fieldAddr 2 (.t 14)⟩,
   ⟨(some 16), (some (12, false)), .load false 1 (.t 15)⟩,
   ⟨(some 17), (some (12, false)), .bin .lss 3 (.t 16) (.c (.int .i64 0))⟩,
   ⟨(some 18), none, .pick (.t 12) (.c (.bool true)) (.t 17)⟩] (some [0, 1, 18]))
 (.cond (.t 18)
  (.seq (.ops [⟨(some 4), none, .move (.c (.pointer none))⟩,
    ⟨(some 5), none, .move (.c (.int .i64 0))⟩,
    ⟨(some 6), none, .move (.c (.bool false))⟩] (some [4, 5, 6]))
  .ret)
  .skip))
 (.seq (.opsr [⟨(some 19), none, .move (.t 0)⟩,
   ⟨(some 20), none, .nilCheck (.t 19)⟩,
   ⟨(some 21), none, .fieldAddr 0 (.t 20)⟩,
   ⟨(some 22), none, .load false 1 (.t 21)⟩,
   ⟨(some 23), none, .move (.t 0)⟩,
   ⟨(some 24), none, .nilCheck (.t 23)⟩,
   ⟨(some 25), none, .fieldAddr 2 (.t 24)⟩,
   ⟨(some 26), none, .load false 1 (.t 25)⟩,
   ⟨(some 27), none, .indexAddr 3 (.t 22) (.t 26)⟩,
   ⟨(some 7), none, .move (.t 27)⟩] (some [0, 1, 7]))
 (.seq (.block 0
  (.loop
   (.seq (.seq (.ops [⟨(some 28), none, .move (.t 7)⟩,
     ⟨(some 29), none, .call (.c (.func (.func 222) #[] #[])) [(.t 28)]⟩,
     ⟨(some 30), none, .un .not (.t 29)⟩] (some [0, 1, 7, 30]))
   (.cond (.t 30)
    .skip
    (.exit 0)))
   (.block 1
    (.opsd [(0, 0, ⟨(some 31), none, .move (.t 0)⟩),
      (1, 1, ⟨(some 32), none, .nilCheck (.t 31)⟩),
      (2, 3, ⟨(some 33), none, .fieldAddr 0 (.t 32)⟩),
      (3, 7, ⟨(some 34), none, .load false 1 (.t 33)⟩),
      (4, 0, ⟨(some 35), none, .move (.t 7)⟩),
      (5, 16, ⟨(some 36), none, .nilCheck (.t 35)⟩),
      (6, 48, ⟨(some 37), none, .fieldAddr 2 (.t 36)⟩),
      (7, 112, ⟨(some 38), none, .load false 1 (.t 37)⟩),
      (8, 0, ⟨(some 39), none, .move (.t 7)⟩),
      (9, 0, ⟨(some 40), none, .move (.t 1)⟩),
      (10, 768, ⟨(some 41), none, .call (.c (.func (.func 230) #[] #[])) [(.t 39), (.t 40)]⟩),
      (11, 2032, ⟨(some 42), none, .indexAddr 1 (.t 38) (.t 41)⟩),
      (12, 4080, ⟨(some 43), none, .load false 1 (.t 42)⟩),
      (13, 8191, ⟨(some 44), none, .indexAddr 3 (.t 34) (.t 43)⟩),
      (14, 16383, ⟨(some 7), none, .move (.t 44)⟩)] (some [0, 1, 7]))))))
 (.seq (.ops [⟨(some 46), none, .move (.t 7)⟩,
   ⟨(some 47), none, .nilCheck (.t 46)⟩,
   ⟨(some 48), none, .fieldAddr 0 (.t 47)⟩,
   ⟨(some 49), none, .load false 1 (.t 48)⟩,
   ⟨(some 50), none, .move (.t 1)⟩,
   ⟨(some 51), none, .call (.c (.func (.func 231) #[] #[])) [(.t 49), (.t 50)]⟩,
   ⟨(some 45), none, .move (.t 51)⟩,
   ⟨(some 52), none, .extract (.t 45) 0⟩,
   ⟨(some 53), none, .extract (.t 45) 1⟩,
   ⟨(some 8), none, .move (.t 52)⟩,
   ⟨(some 9), none, .move (.t 53)⟩] (some [7, 8, 9]))
 (.seq (.ops [⟨(some 54), none, .move (.t 7)⟩,
   ⟨(some 55), none, .move (.t 8)⟩,
   ⟨(some 56), none, .move (.t 9)⟩,
   ⟨(some 4), none, .move (.t 54)⟩,
   ⟨(some 5), none, .move (.t 55)⟩,
   ⟨(some 6), none, .move (.t 56)⟩] (some [4, 5, 6]))
 .ret)))))), [.tmp 4, .tmp 5, .tmp 6]⟩

theorem is207 : FnIs Tryz.prog 207 x207 := ⟨Tryz.f207, _, Tryz.func207, by kernel_rfl, rfl, by kernel_rfl, by decide, by kernel_rfl⟩

/-- strings.IndexByte -/
def x213 : XDecl := .code ⟨2, 
 (.seq (.ops [⟨(some 4), none, .move (.c (.int .i64 0))⟩] (some [0, 1]))
 (.seq (.ops [⟨(some 5), none, .move (.t 0)⟩,
   ⟨(some 6), none, .move (.t 1)⟩,
   ⟨(some 7), none, .call (.c (.func (.func 235) #[] #[])) [(.t 5), (.t 6)]⟩,
   ⟨(some 4), none, .move (.t 7)⟩] (some [4]))
 .ret)), [.tmp 4]⟩

theorem is213 : FnIs Tryz.prog 213 x213 := ⟨Tryz.f213, _, Tryz.func213, by kernel_rfl, rfl, by kernel_rfl, by decide, by kernel_rfl⟩

/-- (*cloisonne/tree.Tree).add -/
def x223 : XDecl := .code ⟨2, 
 (.seq (.ops [⟨(some 3), none, .box (.t 1)⟩,
   ⟨(some 4), none, .move (.c (.int .i64 0))⟩] (some [0, 3]))
 (.seq (.seq (.ops [⟨(some 7), none, .move (.t 0)⟩,
   ⟨(some 8), none, .nilCheck (.t 7)⟩,
   ⟨(some 9), none, .fieldAddr 1 (.t 8)⟩,
   ⟨(some 10), none, .load false 1 (.t 9)⟩,
   ⟨(some 11), none, .len (.t 10)⟩,
   ⟨(some 5), none, .move (.t 11)⟩] (some [0, 3, 5]))
 (.seq (.ops [⟨(some 12), none, .move (.t 5)⟩,
   ⟨(some 13), none, .bin .gtr 3 (.t 12) (.c (.int .i64 0))⟩] (some [0, 3, 5, 13]))
 (.cond (.t 13)
  (.seq (.ops [⟨(some 14), none, .move (.t 0)⟩,
    ⟨(some 15), none, .nilCheck (.t 14)⟩,
    ⟨(some 16), none, .fieldAddr 1 (.t 15)⟩,
    ⟨(some 17), none, .load false 1 (.t 16)⟩,
    ⟨(some 18), none, .move (.t 5)⟩,
    ⟨(some 19), none, .bin .sub 3 (.t 18) (.c (.int .i64 1))⟩,
    ⟨(some 20), none, .indexAddr 1 (.t 17) (.t 19)⟩,
    ⟨(some 21), none, .load false 1 (.t 20)⟩,
    ⟨(some 6), none, .move (.t 21)⟩] (some [0, 3, 5, 6]))
  (.seq (.ops [⟨(some 22), none, .move (.t 0)⟩,
    ⟨(some 23), none, .move (.t 0)⟩,
    ⟨(some 24), none, .nilCheck (.t 23)⟩,
    ⟨(some 25), none, .fieldAddr 1 (.t 24)⟩,
    ⟨(some 26), none, .load false 1 (.t 25)⟩,
    ⟨(some 27), none, .move (.t 5)⟩,
    ⟨(some 28), none, .bin .sub 3 (.t 27) (.c (.int .i64 1))⟩,
    ⟨(some 29), none, .slice 1 (.t 26) none (some (.t 28)) none⟩,
    ⟨(some 30), none, .nilCheck (.t 22)⟩,
    ⟨(some 31), none, .fieldAddr 1 (.t 30)⟩,
    ⟨none, none, .store 1 (.t 31) (.t 29)⟩] (some [0, 3, 6]))
  (.seq (.opsd [(0, 0, ⟨(some 32), none, .move (.t 0)⟩),
    (1, 1, ⟨(some 33), none, .nilCheck (.t 32)⟩),
    (2, 3, ⟨(some 34), none, .fieldAddr 0 (.t 33)⟩),
    (3, 7, ⟨(some 35), none, .load false 1 (.t 34)⟩),
    (4, 0, ⟨(some 36), none, .move (.t 6)⟩),
    (5, 0, ⟨(some 37), none, .load true 3 (.t 3)⟩),
    (6, 63, ⟨(some 38), none, .indexAddr 3 (.t 35) (.t 36)⟩),
    (7, 127, ⟨none, none, .store 3 (.t 38) (.t 37)⟩)] (some [6]))
  (.seq (.ops [⟨(some 39), none, .move (.t 6)⟩,
    ⟨(some 4), none, .move (.t 39)⟩] (some [4]))
  .ret))))
  .skip)))
 (.seq (.opsd [(0, 0, ⟨(some 40), none, .move (.t 0)⟩),
   (1, 0, ⟨(some 41), none, .move (.t 0)⟩),
   (2, 2, ⟨(some 42), none, .nilCheck (.t 41)⟩),
   (3, 6, ⟨(some 43), none, .fieldAddr 0 (.t 42)⟩),
   (4, 14, ⟨(some 44), none, .load false 1 (.t 43)⟩),
   (5, 0, ⟨(some 45), none, .load true 3 (.t 3)⟩),
   (6, 32, ⟨(some 46), none, .buildSlice [(.slice none 0 0), (.slice none 0 0), (.slice none 0 0)] 3 1 [(0, (.t 45))]⟩),
   (7, 126, ⟨(some 47), none, .append 3 72 [(.slice none 0 0), (.slice none 0 0), (.slice none 0 0)] (.t 44) (.t 46)⟩),
   (8, 255, ⟨(some 48), none, .nilCheck (.t 40)⟩),
   (9, 511, ⟨(some 49), none, .fieldAddr 0 (.t 48)⟩),
   (10, 1023, ⟨none, none, .store 1 (.t 49) (.t 47)⟩)] (some [0]))
 (.seq (.ops [⟨(some 50), none, .move (.t 0)⟩,
   ⟨(some 51), none, .nilCheck (.t 50)⟩,
   ⟨(some 52), none, .fieldAddr 0 (.t 51)⟩,
   ⟨(some 53), none, .load false 1 (.t 52)⟩,
   ⟨(some 54), none, .len (.t 53)⟩,
   ⟨(some 55), none, .bin .sub 3 (.t 54) (.c (.int .i64 1))⟩,
   ⟨(some 4), none, .move (.t 55)⟩] (some [4]))
 .ret)))), [.tmp 4]⟩

theorem is223 : FnIs Tryz.prog 223 x223 := ⟨Tryz.f223, _, Tryz.func223, by kernel_rfl, rfl, by kernel_rfl, by decide, by kernel_rfl⟩

/-- cloisonne/chain.Last -/
def x227 : XDecl := .code ⟨1, 
 (.seq (.ops [⟨(some 2), none, .alloc [(.int .i64 0), (.bool false), (.bool false), (.string .empty), (.int .u64 0)]⟩,
   ⟨(some 3), none, .move (.c (.bool false))⟩] (some [0, 2]))
 (.seq (.seq (.ops [⟨(some 4), none, .move (.t 0)⟩,
   ⟨(some 5), none, .call (.c (.func (.func 176) #[] #[])) [(.t 4)]⟩,
   ⟨(some 6), none, .un .not (.t 5)⟩,
   ⟨(some 7), none, .move (.t 6)⟩,
   ⟨(some 8), (some (7, false)), .move (.t 0)⟩,
   ⟨(some 9), (some (7, false)), .len (.t 8)⟩,
   ⟨(some 10), (some (7, false)), .bin .eql 3 (.t 9) (.c (.int .i64 0))⟩,
   ⟨(some 11), none, .pick (.t 7) (.c (.bool true)) (.t 10)⟩] (some [0, 2, 11]))
 (.cond (.t 11)
  (.seq (.ops [⟨(some 12), none, .build [(.int .i64 0), (.bool false), (.bool false), (.string .empty), (.int .u64 0)] [(0, 1), (1, 1), (2, 3)] []⟩,
    ⟨none, none, .store 5 (.t 2) (.t 12)⟩,
    ⟨(some 3), none, .move (.c (.bool false))⟩] (some [2, 3]))
  .ret)
  .skip))
 (.seq (.ops [⟨(some 13), none, .move (.t 0)⟩,
   ⟨(some 14), none, .move (.t 0)⟩,
   ⟨(some 15), none, .len (.t 14)⟩,
   ⟨(some 16), none, .bin .sub 3 (.t 15) (.c (.int .i64 1))⟩,
   ⟨(some 17), none, .indexAddr 5 (.t 13) (.t 16)⟩,
   ⟨(some 18), none, .load true 5 (.t 17)⟩,
   ⟨none, none, .store 5 (.t 2) (.t 18)⟩,
   ⟨(some 3), none, .move (.c (.bool true))⟩] (some [2, 3]))
 .ret))), [.cell true 5 2, .tmp 3]⟩

theorem is227 : FnIs Tryz.prog 227 x227 := ⟨Tryz.f227, _, Tryz.func227, by kernel_rfl, rfl, by kernel_rfl, by decide, by kernel_rfl⟩

/-- internal/stringslite.IndexByte -/
def x235 : XDecl := .code ⟨2, 
 (.seq (.ops [⟨(some 4), none, .move (.c (.int .i64 0))⟩] (some [0, 1]))
 (.seq (.ops [⟨(some 5), none, .move (.t 0)⟩,
   ⟨(some 6), none, .move (.t 1)⟩,
   ⟨(some 7), none, .call (.c (.func (.func 255) #[] #[])) [(.t 5), (.t 6)]⟩,
   ⟨(some 4), none, .move (.t 7)⟩] (some [4]))
 .ret)), [.tmp 4]⟩

theorem is235 : FnIs Tryz.prog 235 x235 := ⟨Tryz.f235, _, Tryz.func235, by kernel_rfl, rfl, by kernel_rfl, by decide, by kernel_rfl⟩

-- 255 internal/bytealg.IndexByteString: no body
def x255 : XDecl := .ext 255

theorem is255 : FnIs Tryz.prog 255 x255 := rfl

/-- (*cloisonne/room.Room).Floor -/
def x286 : XDecl := .code ⟨1, 
 (.seq (.ops [⟨(some 2), none, .move (.c (.int .i64 0))⟩] (some [0]))
 (.seq (.seq (.ops [⟨(some 3), none, .move (.t 0)⟩,
   ⟨(some 4), none, .isNil .ptr false (.t 3)⟩] (some [0, 4]))
 (.cond (.t 4)
  (.seq (.ops [⟨(some 2), none, .move (.c (.int .i64 0))⟩] (some [2]))
  .ret)
  .skip))
 (.seq (.ops [⟨(some 5), none, .move (.t 0)⟩,
   ⟨(some 6), none, .nilCheck (.t 5)⟩,
   ⟨(some 7), none, .fieldAddr 4 (.t 6)⟩,
   ⟨(some 8), none, .load false 1 (.t 7)⟩,
   ⟨(some 9), none, .call (.c (.func (.func 294) #[] #[])) [(.t 8)]⟩,
   ⟨(some 2), none, .move (.t 9)⟩] (some [2]))
 .ret))), [.tmp 2]⟩

theorem is286 : FnIs Tryz.prog 286 x286 := ⟨Tryz.f286, _, Tryz.func286, by kernel_rfl, rfl, by kernel_rfl, by decide, by kernel_rfl⟩

/-- (cloisonne/job.commit).check -/
def x287 : XDecl := .code ⟨2, 
 (.seq (.ops [⟨(some 2), none, .box (.t 0)⟩,
   ⟨(some 4), none, .move (.c (.pointer none))⟩,
   ⟨(some 5), none, .move (.c (.int .i64 0))⟩] (some [1, 2]))
 (.seq (.ops [⟨(some 10), none, .move (.t 1)⟩,
   ⟨(some 11), none, .fieldAddr 0 (.t 2)⟩,
   ⟨(some 12), none, .load false 1 (.t 11)⟩,
   ⟨(some 13), none, .call (.c (.func (.func 11) #[] #[])) [(.t 10), (.t 12)]⟩,
   ⟨(some 6), none, .move (.t 13)⟩] (some [1, 2, 6]))
 (.seq (.ops [⟨(some 15), none, .move (.t 6)⟩,
   ⟨(some 16), none, .fieldAddr 2 (.t 2)⟩,
   ⟨(some 17), none, .load false 1 (.t 16)⟩,
   ⟨(some 18), none, .call (.c (.func (.func 289) #[] #[])) [(.t 15), (.t 17)]⟩,
   ⟨(some 14), none, .move (.t 18)⟩,
   ⟨(some 19), none, .extract (.t 14) 0⟩,
   ⟨(some 20), none, .extract (.t 14) 1⟩,
   ⟨(some 7), none, .move (.t 19)⟩,
   ⟨(some 8), none, .move (.t 20)⟩] (some [1, 2, 6, 7, 8]))
 (.seq (.seq (.ops [⟨(some 21), none, .move (.t 8)⟩,
   ⟨(some 22), none, .bin .eql 28 (.t 21) (.c (.int .i64 0))⟩] (some [1, 2, 6, 7, 8, 22]))
 (.cond (.t 22)
  (.ops [⟨(some 23), none, .move (.t 6)⟩,
    ⟨(some 24), none, .fieldAddr 1 (.t 2)⟩,
    ⟨(some 25), none, .load false 1 (.t 24)⟩,
    ⟨(some 26), none, .move (.t 7)⟩,
    ⟨(some 27), none, .call (.c (.func (.func 290) #[] #[])) [(.t 23), (.t 25), (.t 26)]⟩,
    ⟨(some 8), none, .move (.t 27)⟩] (some [1, 2, 6, 8]))
  .skip))
 (.seq (.seq (.ops [⟨(some 28), none, .move (.t 8)⟩,
   ⟨(some 29), none, .bin .neq 28 (.t 28) (.c (.int .i64 0))⟩] (some [1, 2, 6, 8, 29]))
 (.cond (.t 29)
  (.seq (.ops [⟨(some 30), none, .move (.t 8)⟩,
    ⟨(some 4), none, .move (.c (.pointer none))⟩,
    ⟨(some 5), none, .move (.t 30)⟩] (some [4, 5]))
  .ret)
  .skip))
 (.seq (.opsd [(0, 0, ⟨(some 32), none, .move (.t 6)⟩),
   (3, 0, ⟨(some 35), none, .fieldAddr 1 (.t 2)⟩),
   (4, 8, ⟨(some 36), none, .load false 1 (.t 35)⟩),
   (1, 1, ⟨(some 33), none, .call (.c (.func (.func 34) #[] #[])) [(.t 32)]⟩),
   (2, 3, ⟨(some 34), none, .bin .add 3 (.t 33) (.c (.int .i64 1))⟩),
   (5, 31, ⟨(some 37), none, .call (.c (.func (.func 291) #[] #[])) [(.t 34), (.t 36)]⟩),
   (6, 63, ⟨(some 31), none, .move (.t 37)⟩),
   (7, 127, ⟨(some 38), none, .extract (.t 31) 0⟩),
   (8, 127, ⟨(some 39), none, .extract (.t 31) 1⟩),
   (9, 255, ⟨(some 9), none, .move (.t 38)⟩),
   (10, 1023, ⟨(some 8), none, .move (.t 39)⟩)] (some [1, 2, 8, 9]))
 (.seq (.seq (.ops [⟨(some 40), none, .move (.t 8)⟩,
   ⟨(some 41), none, .bin .neq 28 (.t 40) (.c (.int .i64 0))⟩] (some [1, 2, 8, 9, 41]))
 (.cond (.t 41)
  (.seq (.ops [⟨(some 42), none, .move (.t 8)⟩,
    ⟨(some 4), none, .move (.c (.pointer none))⟩,
    ⟨(some 5), none, .move (.t 42)⟩] (some [4, 5]))
  .ret)
  .skip))
 (.seq (.ops [⟨(some 43), none, .move (.t 1)⟩,
   ⟨(some 44), none, .fieldAddr 0 (.t 2)⟩,
   ⟨(some 45), none, .load false 1 (.t 44)⟩,
   ⟨(some 46), none, .call (.c (.func (.func 12) #[] #[])) [(.t 43), (.t 45)]⟩,
   ⟨(some 47), none, .move (.t 9)⟩,
   ⟨(some 48), none, .call (.c (.func (.func 292) #[] #[])) [(.t 46), (.t 47)]⟩,
   ⟨(some 49), none, .extract (.t 48) 0⟩,
   ⟨(some 50), none, .extract (.t 48) 1⟩,
   ⟨(some 4), none, .move (.t 49)⟩,
   ⟨(some 5), none, .move (.t 50)⟩] (some [4, 5]))
 .ret)))))))), [.tmp 4, .tmp 5]⟩

theorem is287 : FnIs Tryz.prog 287 x287 := ⟨Tryz.f287, _, Tryz.func287, by kernel_rfl, rfl, by kernel_rfl, by decide, by kernel_rfl⟩

/-- (cloisonne/job.commit).install -/
def x288 : XDecl := .code ⟨2, 
 (.seq (.ops [⟨(some 2), none, .box (.t 0)⟩,
   ⟨(some 4), none, .move (.c (.int .u64 0))⟩,
   ⟨(some 5), none, .move (.c (.int .i64 0))⟩] (some [1, 2]))
 (.seq (.opsd [(0, 0, ⟨(some 9), none, .move (.t 1)⟩),
   (1, 0, ⟨(some 10), none, .fieldAddr 0 (.t 2)⟩),
   (2, 2, ⟨(some 11), none, .load false 1 (.t 10)⟩),
   (4, 0, ⟨(some 13), none, .fieldAddr 1 (.t 2)⟩),
   (5, 16, ⟨(some 14), none, .load false 1 (.t 13)⟩),
   (6, 0, ⟨(some 15), none, .move (.t 1)⟩),
   (3, 7, ⟨(some 12), none, .call (.c (.func (.func 11) #[] #[])) [(.t 9), (.t 11)]⟩),
   (7, 79, ⟨(some 16), none, .call (.c (.func (.func 14) #[] #[])) [(.t 15)]⟩),
   (8, 255, ⟨(some 17), none, .call (.c (.func (.func 102) #[] #[])) [(.t 12), (.t 14), (.t 16)]⟩),
   (9, 511, ⟨(some 8), none, .move (.t 17)⟩),
   (10, 1023, ⟨(some 18), none, .extract (.t 8) 0⟩),
   (11, 1023, ⟨(some 19), none, .extract (.t 8) 1⟩),
   (12, 2047, ⟨(some 6), none, .move (.t 18)⟩),
   (13, 8191, ⟨(some 7), none, .move (.t 19)⟩)] (some [6, 7]))
 (.seq (.ops [⟨(some 20), none, .move (.t 6)⟩,
   ⟨(some 21), none, .conv 3 40 (.t 20)⟩,
   ⟨(some 22), none, .move (.t 7)⟩,
   ⟨(some 4), none, .move (.t 21)⟩,
   ⟨(some 5), none, .move (.t 22)⟩] (some [4, 5]))
 .ret))), [.tmp 4, .tmp 5]⟩

theorem is288 : FnIs Tryz.prog 288 x288 := ⟨Tryz.f288, _, Tryz.func288, by kernel_rfl, rfl, by kernel_rfl, by decide, by kernel_rfl⟩

/-- (*cloisonne/room.Room).AsOf -/
def x289 : XDecl := .code ⟨2, 
 (.seq (.ops [⟨(some 4), none, .move (.c (.int .i64 0))⟩,
   ⟨(some 5), none, .move (.c (.int .i64 0))⟩] (some [0, 1]))
 (.seq (.seq (.ops [⟨(some 6), none, .move (.t 0)⟩,
   ⟨(some 7), none, .isNil .ptr false (.t 6)⟩] (some [0, 1, 7]))
 (.cond (.t 7)
  (.seq (.ops [⟨(some 4), none, .move (.c (.int .i64 0))⟩,
    ⟨(some 5), none, .move (.c (.int .i64 2))⟩] (some [4, 5]))
  .ret)
  .skip))
 (.seq (.ops [⟨(some 8), none, .move (.t 0)⟩,
   ⟨(some 9), none, .nilCheck (.t 8)⟩,
   ⟨(some 10), none, .fieldAddr 4 (.t 9)⟩,
   ⟨(some 11), none, .load false 1 (.t 10)⟩,
   ⟨(some 12), none, .move (.t 1)⟩,
   ⟨(some 13), none, .call (.c (.func (.func 293) #[] #[])) [(.t 11), (.t 12)]⟩,
   ⟨(some 14), none, .extract (.t 13) 0⟩,
   ⟨(some 15), none, .extract (.t 13) 1⟩,
   ⟨(some 4), none, .move (.t 14)⟩,
   ⟨(some 5), none, .move (.t 15)⟩] (some [4, 5]))
 .ret))), [.tmp 4, .tmp 5]⟩

theorem is289 : FnIs Tryz.prog 289 x289 := ⟨Tryz.f289, _, Tryz.func289, by kernel_rfl, rfl, by kernel_rfl, by decide, by kernel_rfl⟩

/-- (*cloisonne/room.Room).Check -/
def x290 : XDecl := .code ⟨3, 
 (.seq (.ops [⟨(some 6), none, .move (.c (.int .i64 0))⟩] (some [0, 1, 2]))
 (.seq (.block 0
  (.seq (.ops [⟨(some 12), none, .move (.t 0)⟩,
    ⟨(some 13), none, .isNil .ptr false (.t 12)⟩,
    ⟨(some 11), none, .move (.t 13)⟩] (some [0, 1, 2, 11]))
  (.cond (.t 11)
   (.seq (.ops [⟨(some 6), none, .move (.c (.int .i64 2))⟩] (some [6]))
   .ret)
   (.seq (.ops [⟨(some 15), none, .move (.t 1)⟩,
     ⟨(some 16), none, .call (.c (.func (.func 51) #[] #[])) [(.t 15)]⟩,
     ⟨(some 17), none, .un .not (.t 16)⟩,
     ⟨(some 14), none, .move (.t 17)⟩] (some [0, 1, 2, 14]))
   (.cond (.t 14)
    (.seq (.ops [⟨(some 6), none, .move (.c (.int .i64 1))⟩] (some [6]))
    .ret)
    (.seq (.ops [⟨(some 19), none, .move (.t 2)⟩,
      ⟨(some 20), none, .move (.t 0)⟩,
      ⟨(some 21), none, .call (.c (.func (.func 286) #[] #[])) [(.t 20)]⟩,
      ⟨(some 22), none, .move (.t 0)⟩,
      ⟨(some 23), none, .call (.c (.func (.func 34) #[] #[])) [(.t 22)]⟩,
      ⟨(some 24), none, .call (.c (.func (.func 78) #[] #[])) [(.t 19), (.t 21), (.t 23)]⟩,
      ⟨(some 25), none, .un .not (.t 24)⟩,
      ⟨(some 18), none, .move (.t 25)⟩] (some [0, 1, 2, 18]))
    (.cond (.t 18)
     (.seq (.ops [⟨(some 6), none, .move (.c (.int .i64 14))⟩] (some [6]))
     .ret)
     .skip)))))))
 (.seq (.seq (.ops [⟨(some 26), none, .move (.t 1)⟩,
   ⟨(some 27), none, .len (.t 26)⟩,
   ⟨(some 28), none, .move (.c (.int .i64 0))⟩] (some [0, 1, 2, 26, 27, 28]))
 (.block 1
  (.loop
   (.seq (.ops [⟨(some 29), none, .bin .lss 3 (.t 28) (.t 27)⟩] (some [0, 1, 2, 26, 27, 28, 29]))
   (.seq (.cond (.t 29)
    .skip
    (.exit 1))
   (.seq (.block 2
    (.seq (.ops [⟨(some 30), none, .indexAddr 5 (.t 26) (.t 28)⟩,
      ⟨(some 31), none, .load true 5 (.t 30)⟩,
      ⟨(some 8), none, .alloc [(.string .empty), (.bool false), (.bool false), (.string .empty), (.int .u64 0)]⟩,
      ⟨none, none, .store 5 (.t 8) (.t 31)⟩] (some [0, 1, 2, 8, 26, 27, 28]))
    (.seq (.ops [⟨(some 33), none, .move (.t 0)⟩,
      ⟨(some 34), none, .fieldAddr 0 (.t 8)⟩,
      ⟨(some 35), none, .load false 1 (.t 34)⟩,
      ⟨(some 36), none, .call (.c (.func (.func 136) #[] #[])) [(.t 33), (.t 35)]⟩,
      ⟨(some 37), none, .call (.c (.func (.func 227) #[] #[])) [(.t 36)]⟩,
      ⟨(some 32), none, .move (.t 37)⟩,
      ⟨(some 38), none, .extract (.t 32) 0⟩,
      ⟨(some 39), none, .extract (.t 32) 1⟩,
      ⟨(some 9), none, .alloc [(.int .i64 0), (.bool false), (.bool false), (.string .empty), (.int .u64 0)]⟩,
      ⟨none, none, .store 5 (.t 9) (.t 38)⟩,
      ⟨(some 10), none, .move (.t 39)⟩] (some [0, 1, 2, 9, 10, 26, 27, 28]))
    (.seq (.ops [⟨(some 40), none, .move (.t 10)⟩,
      ⟨(some 41), none, .move (.t 40)⟩,
      ⟨(some 42), (some (41, true)), .fieldAddr 0 (.t 9)⟩,
      ⟨(some 43), (some (41, true)), .load false 1 (.t 42)⟩,
      ⟨(some 44), (some (41, true)), .move (.t 2)⟩,
      ⟨(some 45), (some (41, true)), .bin .gtr 3 (.t 43) (.t 44)⟩,
      ⟨(some 46), none, .pick (.t 41) (.t 45) (.c (.bool false))⟩] (some [0, 1, 2, 26, 27, 28, 46]))
    (.cond (.t 46)
     (.seq (.ops [⟨(some 6), none, .move (.c (.int .i64 13))⟩] (some [6]))
     .ret)
     .skip)))))
   (.ops [⟨(some 47), none, .bin .add 3 (.t 28) (.c (.int .i64 1))⟩,
     ⟨(some 28), none, .move (.t 47)⟩] (some [0, 1, 2, 26, 27, 28]))))))))
 (.seq (.ops [⟨(some 48), none, .move (.t 0)⟩,
   ⟨(some 49), none, .move (.t 1)⟩,
   ⟨(some 50), none, .call (.c (.func (.func 132) #[] #[])) [(.t 48), (.t 49)]⟩,
   ⟨(some 6), none, .move (.t 50)⟩] (some [6]))
 .ret)))), [.tmp 6]⟩

theorem is290 : FnIs Tryz.prog 290 x290 := ⟨Tryz.f290, _, Tryz.func290, by kernel_rfl, rfl, by kernel_rfl, by decide, by kernel_rfl⟩

/-- cloisonne/record.Commit -/
def x291 : XDecl := .code ⟨2, 
 (.seq (.ops [⟨(some 4), none, .move (.c (.string .empty))⟩,
   ⟨(some 5), none, .alloc [(.int .i64 0)]⟩] (some [0, 1, 5]))
 (.seq (.ops [⟨none, none, .dfr [(.t 5), (.c (.int .i64 1))]⟩] (some [0, 1, 5]))
 (.seq (.ops [⟨(some 9), none, .move (.t 0)⟩,
   ⟨(some 10), none, .bin .geq 3 (.t 9) (.c (.int .i64 1))⟩,
   ⟨(some 11), none, .move (.t 10)⟩,
   ⟨(some 12), (some (11, true)), .move (.t 0)⟩,
   ⟨(some 13), (some (11, true)), .bin .leq 3 (.t 12) (.c (.int .i64 1073741824))⟩,
   ⟨(some 14), none, .pick (.t 11) (.t 13) (.c (.bool false))⟩,
   ⟨(some 15), none, .move (.t 14)⟩,
   ⟨(some 16), (some (15, true)), .move (.t 1)⟩,
   ⟨(some 17), (some (15, true)), .call (.c (.func (.func 51) #[] #[])) [(.t 16)]⟩,
   ⟨(some 18), none, .pick (.t 15) (.t 17) (.c (.bool false))⟩,
   ⟨(some 19), none, .call (.c (.func (.func 96) #[] #[])) [(.t 18)]⟩] (some [0, 1, 5]))
 (.seq (.ops [⟨(some 20), none, .call (.c (.func (.func 88) #[] #[])) [(.c (.int .i64 1))]⟩,
   ⟨(some 21), none, .move (.t 0)⟩,
   ⟨(some 22), none, .call (.c (.func (.func 88) #[] #[])) [(.t 21)]⟩,
   ⟨(some 23), none, .buildSlice [(.int .u64 0), (.string .empty), (.slice none 0 0), (.slice none 0 0)] 4 2 [(0, (.t 20)), (1, (.t 22))]⟩,
   ⟨(some 24), none, .call (.c (.func (.func 87) #[] #[])) [(.c (.string ⟨#[98, 110]⟩)), (.t 23)]⟩,
   ⟨(some 6), none, .move (.t 24)⟩] (some [1, 5, 6]))
 (.seq (.seq (.ops [⟨(some 25), none, .move (.t 1)⟩,
   ⟨(some 26), none, .len (.t 25)⟩,
   ⟨(some 27), none, .move (.c (.int .i64 0))⟩] (some [5, 6, 25, 26, 27]))
 (.block 0
  (.loop
   (.seq (.ops [⟨(some 28), none, .bin .lss 3 (.t 27) (.t 26)⟩] (some [5, 6, 25, 26, 27, 28]))
   (.seq (.cond (.t 28)
    .skip
    (.exit 0))
   (.seq (.block 1
    (.seq (.ops [⟨(some 29), none, .indexAddr 5 (.t 25) (.t 27)⟩,
      ⟨(some 30), none, .load true 5 (.t 29)⟩,
      ⟨(some 8), none, .alloc [(.string .empty), (.bool false), (.bool false), (.string .empty), (.int .u64 0)]⟩,
      ⟨none, none, .store 5 (.t 8) (.t 30)⟩] (some [5, 6, 8, 25, 26, 27]))
    (.opsd [(0, 0, ⟨(some 31), none, .move (.t 6)⟩),
      (1, 0, ⟨(some 32), none, .fieldAddr 1 (.t 8)⟩),
      (2, 2, ⟨(some 33), none, .load false 1 (.t 32)⟩),
      (4, 0, ⟨(some 35), none, .fieldAddr 0 (.t 8)⟩),
      (5, 16, ⟨(some 36), none, .load false 1 (.t 35)⟩),
      (6, 48, ⟨(some 37), none, .build [(.int .u64 0), (.string .empty), (.slice none 0 0), (.slice none 0 0)] [(0, 1), (1, 1), (2, 1), (3, 1)] [(1, (.t 36))]⟩),
      (7, 0, ⟨(some 38), none, .fieldAddr 2 (.t 8)⟩),
      (8, 128, ⟨(some 39), none, .load true 3 (.t 38)⟩),
      (9, 0, ⟨(some 40), none, .fieldAddr 1 (.t 8)⟩),
      (10, 512, ⟨(some 41), none, .load false 1 (.t 40)⟩),
      (3, 6, ⟨(some 34), none, .call (.c (.func (.func 295) #[] #[])) [(.t 33)]⟩),
      (11, 1934, ⟨(some 42), none, .call (.c (.func (.func 98) #[] #[])) [(.t 39), (.t 41)]⟩),
      (12, 3982, ⟨(some 43), none, .build [(.int .u64 0), (.string .empty), (.slice none 0 0), (.slice none 0 0)] [(0, 1), (1, 1), (2, 1), (3, 1)] [(1, (.t 42))]⟩),
      (13, 8190, ⟨(some 44), none, .buildSlice [(.int .u64 0), (.string .empty), (.slice none 0 0), (.slice none 0 0)] 4 3 [(0, (.t 34)), (1, (.t 37)), (2, (.t 43))]⟩),
      (14, 16382, ⟨(some 45), none, .call (.c (.func (.func 87) #[] #[])) [(.c (.string ⟨#[98, 116, 116]⟩)), (.t 44)]⟩),
      (15, 32767, ⟨(some 46), none, .bin .add 9 (.t 31) (.t 45)⟩),
      (16, 65535, ⟨(some 6), none, .move (.t 46)⟩)] (some [5, 6, 25, 26, 27]))))
   (.ops [⟨(some 47), none, .bin .add 3 (.t 27) (.c (.int .i64 1))⟩,
     ⟨(some 27), none, .move (.t 47)⟩] (some [5, 6, 25, 26, 27]))))))))
 (.seq (.ops [⟨(some 48), none, .move (.t 6)⟩,
   ⟨(some 4), none, .move (.t 48)⟩,
   ⟨none, none, .store 1 (.t 5) (.c (.int .i64 0))⟩] (some [4, 5]))
 .ret)))))), [.tmp 4, .cell false 1 5]⟩

theorem is291 : FnIs Tryz.prog 291 x291 := ⟨Tryz.f291, _, Tryz.func291, by kernel_rfl, rfl, by kernel_rfl, by decide, by kernel_rfl⟩

/-- (*cloisonne/seglog.Log).Record -/
def x292 : XDecl := .code ⟨2, 
 (.seq (.ops [⟨(some 4), none, .move (.c (.pointer none))⟩,
   ⟨(some 5), none, .move (.c (.int .i64 0))⟩] (some [0, 1]))
 (.seq (.block 0
  (.seq (.ops [⟨(some 7), none, .move (.t 0)⟩,
    ⟨(some 8), none, .isNil .ptr false (.t 7)⟩,
    ⟨(some 6), none, .move (.t 8)⟩] (some [0, 1, 6]))
  (.cond (.t 6)
   (.seq (.ops [⟨(some 4), none, .move (.c (.pointer none))⟩,
     ⟨(some 5), none, .move (.c (.int .i64 2))⟩] (some [4, 5]))
   .ret)
   (.seq (.ops [⟨(some 10), none, .move (.t 0)⟩,
     ⟨(some 11), none, .call (.c (.func (.func 117) #[] #[])) [(.t 10)]⟩,
     ⟨(some 9), none, .move (.t 11)⟩] (some [0, 1, 9]))
   (.cond (.t 9)
    (.seq (.ops [⟨(some 4), none, .move (.c (.pointer none))⟩,
      ⟨(some 5), none, .move (.c (.int .i64 9))⟩] (some [4, 5]))
    .ret)
    (.seq (.ops [⟨(some 13), none, .move (.t 0)⟩,
      ⟨(some 14), none, .nilCheck (.t 13)⟩,
      ⟨(some 15), none, .fieldAddr 3 (.t 14)⟩,
      ⟨(some 16), none, .load false 1 (.t 15)⟩,
      ⟨(some 17), none, .bin .eql 3 (.t 16) (.c (.int .i64 0))⟩,
      ⟨(some 12), none, .move (.t 17)⟩] (some [0, 1, 12]))
    (.cond (.t 12)
     (.seq (.ops [⟨(some 4), none, .move (.c (.pointer none))⟩,
       ⟨(some 5), none, .move (.c (.int .i64 7))⟩] (some [4, 5]))
     .ret)
     (.seq (.ops [⟨(some 19), none, .move (.t 0)⟩,
       ⟨(some 20), none, .move (.t 1)⟩,
       ⟨(some 21), none, .calcB .len [9] 3 [(.t 20)]⟩,
       ⟨(some 22), none, .call (.c (.func (.func 296) #[] #[])) [(.t 19), (.t 21)]⟩,
       ⟨(some 23), none, .un .not (.t 22)⟩,
       ⟨(some 18), none, .move (.t 23)⟩] (some [0, 1, 18]))
     (.cond (.t 18)
      (.seq (.ops [⟨(some 4), none, .move (.c (.pointer none))⟩,
        ⟨(some 5), none, .move (.c (.int .i64 16))⟩] (some [4, 5]))
      .ret)
      .skip)))))))))
 (.seq (.opsd [(0, 0, ⟨(some 24), none, .move (.t 0)⟩),
   (1, 0, ⟨(some 25), none, .move (.t 0)⟩),
   (2, 2, ⟨(some 26), none, .nilCheck (.t 25)⟩),
   (3, 6, ⟨(some 27), none, .fieldAddr 2 (.t 26)⟩),
   (4, 14, ⟨(some 28), none, .load false 1 (.t 27)⟩),
   (5, 0, ⟨(some 29), none, .move (.t 0)⟩),
   (6, 32, ⟨(some 30), none, .nilCheck (.t 29)⟩),
   (7, 96, ⟨(some 31), none, .fieldAddr 3 (.t 30)⟩),
   (8, 224, ⟨(some 32), none, .load false 1 (.t 31)⟩),
   (9, 0, ⟨(some 33), none, .move (.t 0)⟩),
   (10, 512, ⟨(some 34), none, .nilCheck (.t 33)⟩),
   (11, 1536, ⟨(some 35), none, .fieldAddr 4 (.t 34)⟩),
   (12, 3584, ⟨(some 36), none, .load false 1 (.t 35)⟩),
   (13, 0, ⟨(some 37), none, .move (.t 1)⟩),
   (14, 8192, ⟨(some 38), none, .call (.c (.func (.func 120) #[] #[])) [(.t 37)]⟩),
   (15, 32766, ⟨(some 39), none, .build [(.pointer none), (.int .i64 0), (.int .i64 0), (.int .i64 0), (.slice none 0 0), (.int .i64 0), (.bool false)] [(0, 1), (1, 1), (2, 1), (3, 1), (4, 1), (5, 1), (6, 1)] [(1, (.t 28)), (2, (.t 32)), (3, (.t 36)), (4, (.t 38))]⟩),
   (16, 65534, ⟨(some 40), none, .box (.t 39)⟩),
   (17, 131071, ⟨(some 41), none, .call (.c (.func (.func 119) #[] #[])) [(.t 24), (.t 40)]⟩),
   (18, 262143, ⟨(some 42), none, .extract (.t 41) 0⟩),
   (19, 262143, ⟨(some 43), none, .extract (.t 41) 1⟩),
   (20, 1048575, ⟨(some 4), none, .move (.t 42)⟩),
   (21, 2097151, ⟨(some 5), none, .move (.t 43)⟩)] (some [4, 5]))
 .ret))), [.tmp 4, .tmp 5]⟩

theorem is292 : FnIs Tryz.prog 292 x292 := ⟨Tryz.f292, _, Tryz.func292, by kernel_rfl, rfl, by kernel_rfl, by decide, by kernel_rfl⟩

/-- (*cloisonne/ring.Ring).AsOf -/
def x293 : XDecl := .code ⟨2, 
 (.seq (.ops [⟨(some 4), none, .move (.c (.int .i64 0))⟩,
   ⟨(some 5), none, .move (.c (.int .i64 0))⟩] (some [0, 1]))
 (.seq (.seq (.ops [⟨(some 9), none, .move (.t 0)⟩,
   ⟨(some 10), none, .isNil .ptr false (.t 9)⟩] (some [0, 1, 10]))
 (.cond (.t 10)
  (.seq (.ops [⟨(some 4), none, .move (.c (.int .i64 0))⟩,
    ⟨(some 5), none, .move (.c (.int .i64 2))⟩] (some [4, 5]))
  .ret)
  .skip))
 (.seq (.ops [⟨(some 12), none, .move (.t 0)⟩,
   ⟨(some 13), none, .nilCheck (.t 12)⟩,
   ⟨(some 14), none, .fieldAddr 3 (.t 13)⟩,
   ⟨(some 15), none, .load false 1 (.t 14)⟩,
   ⟨(some 16), none, .move (.t 1)⟩,
   ⟨(some 17), none, .call (.c (.func (.func 297) #[] #[])) [(.t 15), (.t 16)]⟩,
   ⟨(some 11), none, .move (.t 17)⟩,
   ⟨(some 18), none, .extract (.t 11) 0⟩,
   ⟨(some 19), none, .extract (.t 11) 1⟩,
   ⟨(some 6), none, .move (.t 18)⟩,
   ⟨(some 7), none, .move (.t 19)⟩] (some [0, 6, 7]))
 (.seq (.seq (.ops [⟨(some 20), none, .move (.t 7)⟩] (some [0, 6, 20]))
 (.cond (.t 20)
  (.ops [⟨(some 21), none, .move (.t 6)⟩,
    ⟨(some 22), none, .bin .add 3 (.t 21) (.c (.int .i64 1))⟩,
    ⟨(some 6), none, .move (.t 22)⟩] (some [0, 6]))
  .skip))
 (.seq (.opsr [⟨(some 23), none, .move (.t 0)⟩,
   ⟨(some 24), none, .nilCheck (.t 23)⟩,
   ⟨(some 25), none, .fieldAddr 2 (.t 24)⟩,
   ⟨(some 26), none, .load false 1 (.t 25)⟩,
   ⟨(some 27), none, .move (.t 0)⟩,
   ⟨(some 28), none, .nilCheck (.t 27)⟩,
   ⟨(some 29), none, .fieldAddr 3 (.t 28)⟩,
   ⟨(some 30), none, .load false 1 (.t 29)⟩,
   ⟨(some 31), none, .len (.t 30)⟩,
   ⟨(some 32), none, .bin .sub 3 (.t 26) (.t 31)⟩,
   ⟨(some 33), none, .move (.t 6)⟩,
   ⟨(some 34), none, .bin .add 3 (.t 32) (.t 33)⟩,
   ⟨(some 8), none, .move (.t 34)⟩] (some [0, 8]))
 (.seq (.seq (.ops [⟨(some 35), none, .move (.t 8)⟩,
   ⟨(some 36), none, .move (.t 0)⟩,
   ⟨(some 37), none, .call (.c (.func (.func 294) #[] #[])) [(.t 36)]⟩,
   ⟨(some 38), none, .bin .lss 3 (.t 35) (.t 37)⟩] (some [8, 38]))
 (.cond (.t 38)
  (.seq (.ops [⟨(some 4), none, .move (.c (.int .i64 0))⟩,
    ⟨(some 5), none, .move (.c (.int .i64 14))⟩] (some [4, 5]))
  .ret)
  .skip))
 (.seq (.ops [⟨(some 39), none, .move (.t 8)⟩,
   ⟨(some 4), none, .move (.t 39)⟩,
   ⟨(some 5), none, .move (.c (.int .i64 0))⟩] (some [4, 5]))
 .ret))))))), [.tmp 4, .tmp 5]⟩

theorem is293 : FnIs Tryz.prog 293 x293 := ⟨Tryz.f293, _, Tryz.func293, by kernel_rfl, rfl, by kernel_rfl, by decide, by kernel_rfl⟩

/-- (*cloisonne/ring.Ring).Floor -/
def x294 : XDecl := .code ⟨1, 
 (.seq (.ops [⟨(some 2), none, .move (.c (.int .i64 0))⟩] (some [0]))
 (.seq (.seq (.ops [⟨(some 3), none, .move (.t 0)⟩,
   ⟨(some 4), none, .isNil .ptr false (.t 3)⟩] (some [0, 4]))
 (.cond (.t 4)
  (.seq (.ops [⟨(some 2), none, .move (.c (.int .i64 0))⟩] (some [2]))
  .ret)
  .skip))
 (.seq (.opsr [⟨(some 5), none, .move (.t 0)⟩,
   ⟨(some 6), none, .nilCheck (.t 5)⟩,
   ⟨(some 7), none, .fieldAddr 2 (.t 6)⟩,
   ⟨(some 8), none, .load false 1 (.t 7)⟩,
   ⟨(some 9), none, .move (.t 0)⟩,
   ⟨(some 10), none, .nilCheck (.t 9)⟩,
   ⟨(some 11), none, .fieldAddr 0 (.t 10)⟩,
   ⟨(some 12), none, .load false 1 (.t 11)⟩,
   ⟨(some 13), none, .bin .sub 3 (.t 8) (.t 12)⟩,
   ⟨(some 14), none, .bin .add 3 (.t 13) (.c (.int .i64 1))⟩,
   ⟨(some 15), none, .move (.t 0)⟩,
   ⟨(some 16), none, .nilCheck (.t 15)⟩,
   ⟨(some 17), none, .fieldAddr 1 (.t 16)⟩,
   ⟨(some 18), none, .load false 1 (.t 17)⟩,
   ⟨(some 19), none, .calcB .max [3, 3] 3 [(.t 14), (.t 18)]⟩,
   ⟨(some 2), none, .move (.t 19)⟩] (some [2]))
 .ret))), [.tmp 2]⟩

theorem is294 : FnIs Tryz.prog 294 x294 := ⟨Tryz.f294, _, Tryz.func294, by kernel_rfl, rfl, by kernel_rfl, by decide, by kernel_rfl⟩

/-- cloisonne/record.truth -/
def x295 : XDecl := .code ⟨1, 
 (.seq (.ops [⟨(some 2), none, .alloc [(.int .u64 0), (.string .empty), (.slice none 0 0), (.slice none 0 0)]⟩] (some [0, 2]))
 (.seq (.seq (.ops [⟨(some 3), none, .move (.t 0)⟩] (some [2, 3]))
 (.cond (.t 3)
  (.seq (.ops [⟨(some 4), none, .build [(.int .u64 0), (.string .empty), (.slice none 0 0), (.slice none 0 0)] [(0, 1), (1, 1), (2, 1), (3, 1)] [(0, (.c (.int .u64 1)))]⟩,
    ⟨none, none, .store 4 (.t 2) (.t 4)⟩] (some [2]))
  .ret)
  .skip))
 (.seq (.ops [⟨(some 5), none, .build [(.int .u64 0), (.string .empty), (.slice none 0 0), (.slice none 0 0)] [(0, 1), (1, 1), (2, 1), (3, 1)] []⟩,
   ⟨none, none, .store 4 (.t 2) (.t 5)⟩] (some [2]))
 .ret))), [.cell true 4 2]⟩

theorem is295 : FnIs Tryz.prog 295 x295 := ⟨Tryz.f295, _, Tryz.func295, by kernel_rfl, rfl, by kernel_rfl, by decide, by kernel_rfl⟩

/-- (*cloisonne/seglog.Log).Room -/
def x296 : XDecl := .code ⟨2, 
 (.seq (.ops [⟨(some 4), none, .move (.c (.bool false))⟩] (some [0, 1]))
 (.seq (.ops [⟨(some 5), none, .move (.t 0)⟩,
   ⟨(some 6), none, .isNil .ptr true (.t 5)⟩,
   ⟨(some 7), none, .move (.t 6)⟩,
   ⟨(some 8), (some (7, true)), .move (.t 0)⟩,
   ⟨(some 9), (some (7, true)), .nilCheck (.t 8)⟩,
   ⟨(some 10), (some (7, true)), .fieldAddr 3 (.t 9)⟩,
   ⟨(some 11), (some (7, true)), .load false 1 (.t 10)⟩,
   ⟨(some 12), (some (7, true)), .bin .gtr 3 (.t 11) (.c (.int .i64 0))⟩,
   ⟨(some 13), none, .pick (.t 7) (.t 12) (.c (.bool false))⟩,
   ⟨(some 14), none, .move (.t 13)⟩,
   ⟨(some 15), (some (14, true)), .move (.t 0)⟩,
   ⟨(some 16), (some (14, true)), .move (.t 1)⟩,
   ⟨(some 17), (some (14, true)), .move (.t 0)⟩,
   ⟨(some 18), (some (14, true)), .nilCheck (.t 17)⟩,
   ⟨(some 19), (some (14, true)), .fieldAddr 4 (.t 18)⟩,
   ⟨(some 20), (some (14, true)), .load false 1 (.t 19)⟩,
   ⟨(some 21), (some (14, true)), .call (.c (.func (.func 118) #[] #[])) [(.t 15), (.t 16), (.t 20)]⟩,
   ⟨(some 22), none, .pick (.t 14) (.t 21) (.c (.bool false))⟩,
   ⟨(some 4), none, .move (.t 22)⟩] (some [4]))
 .ret)), [.tmp 4]⟩

theorem is296 : FnIs Tryz.prog 296 x296 := ⟨Tryz.f296, _, Tryz.func296, by kernel_rfl, rfl, by kernel_rfl, by decide, by kernel_rfl⟩

/-- slices.BinarySearch[[]uint64,uint64] -/
def x297 : XDecl := .code ⟨2, 
 (.seq (.ops [⟨(some 4), none, .move (.c (.int .i64 0))⟩,
   ⟨(some 5), none, .move (.c (.bool false))⟩] (some [0, 1]))
 (.seq (.ops [⟨(some 10), none, .move (.t 0)⟩,
   ⟨(some 11), none, .len (.t 10)⟩,
   ⟨(some 6), none, .move (.t 11)⟩] (some [0, 1, 6]))
 (.seq (.ops [⟨(some 12), none, .move (.t 6)⟩,
   ⟨(some 7), none, .move (.c (.int .i64 0))⟩,
   ⟨(some 8), none, .move (.t 12)⟩] (some [0, 1, 6, 7, 8]))
 (.seq (.block 0
  (.loop
   (.seq (.seq (.ops [⟨(some 13), none, .move (.t 7)⟩,
     ⟨(some 14), none, .move (.t 8)⟩,
     ⟨(some 15), none, .bin .lss 3 (.t 13) (.t 14)⟩] (some [0, 1, 6, 7, 8, 15]))
   (.cond (.t 15)
    .skip
    (.exit 0)))
   (.block 1
    (.seq (.ops [⟨(some 16), none, .move (.t 7)⟩,
      ⟨(some 17), none, .move (.t 8)⟩,
      ⟨(some 18), none, .bin .add 3 (.t 16) (.t 17)⟩,
      ⟨(some 19), none, .conv 3 282 (.t 18)⟩,
      ⟨(some 20), none, .bin .shr 282 (.t 19) (.c (.int .u64 1))⟩,
      ⟨(some 21), none, .conv 282 3 (.t 20)⟩,
      ⟨(some 9), none, .move (.t 21)⟩] (some [0, 1, 6, 7, 8, 9]))
    (.seq (.ops [⟨(some 22), none, .move (.t 0)⟩,
      ⟨(some 23), none, .move (.t 9)⟩,
      ⟨(some 24), none, .indexAddr 1 (.t 22) (.t 23)⟩,
      ⟨(some 25), none, .load false 1 (.t 24)⟩,
      ⟨(some 26), none, .move (.t 1)⟩,
      ⟨(some 27), none, .call (.c (.func (.func 298) #[] #[])) [(.t 25), (.t 26)]⟩] (some [0, 1, 6, 7, 8, 9, 27]))
    (.cond (.t 27)
     (.ops [⟨(some 28), none, .move (.t 9)⟩,
       ⟨(some 29), none, .bin .add 3 (.t 28) (.c (.int .i64 1))⟩,
       ⟨(some 7), none, .move (.t 29)⟩] (some [0, 1, 6, 7, 8]))
     (.ops [⟨(some 30), none, .move (.t 9)⟩,
       ⟨(some 8), none, .move (.t 30)⟩] (some [0, 1, 6, 7, 8])))))))))
 (.seq (.ops [⟨(some 31), none, .move (.t 7)⟩,
   ⟨(some 32), none, .move (.t 7)⟩,
   ⟨(some 33), none, .move (.t 6)⟩,
   ⟨(some 34), none, .bin .lss 3 (.t 32) (.t 33)⟩,
   ⟨(some 35), none, .move (.t 34)⟩,
   ⟨(some 36), (some (35, true)), .move (.t 0)⟩,
   ⟨(some 37), (some (35, true)), .move (.t 7)⟩,
   ⟨(some 38), (some (35, true)), .indexAddr 1 (.t 36) (.t 37)⟩,
   ⟨(some 39), (some (35, true)), .load false 1 (.t 38)⟩,
   ⟨(some 40), (some (35, true)), .move (.t 1)⟩,
   ⟨(some 41), (some (35, true)), .bin .eql 40 (.t 39) (.t 40)⟩,
   ⟨(some 42), (some (35, true)), .move (.t 41)⟩,
   ⟨(some 43), (some (42, false)), .move (.t 0)⟩,
   ⟨(some 44), (some (42, false)), .move (.t 7)⟩,
   ⟨(some 45), (some (42, false)), .indexAddr 1 (.t 43) (.t 44)⟩,
   ⟨(some 46), (some (42, false)), .load false 1 (.t 45)⟩,
   ⟨(some 47), (some (42, false)), .call (.c (.func (.func 299) #[] #[])) [(.t 46)]⟩,
   ⟨(some 48), (some (42, false)), .move (.t 47)⟩,
   ⟨(some 49), (some (48, true)), .move (.t 1)⟩,
   ⟨(some 50), (some (48, true)), .call (.c (.func (.func 299) #[] #[])) [(.t 49)]⟩,
   ⟨(some 51), (some (42, false)), .pick (.t 48) (.t 50) (.c (.bool false))⟩,
   ⟨(some 52), (some (35, true)), .pick (.t 42) (.c (.bool true)) (.t 51)⟩,
   ⟨(some 53), none, .pick (.t 35) (.t 52) (.c (.bool false))⟩,
   ⟨(some 4), none, .move (.t 31)⟩,
   ⟨(some 5), none, .move (.t 53)⟩] (some [4, 5]))
 .ret))))), [.tmp 4, .tmp 5]⟩

theorem is297 : FnIs Tryz.prog 297 x297 := ⟨Tryz.f297, _, Tryz.func297, by kernel_rfl, rfl, by kernel_rfl, by decide, by kernel_rfl⟩


end Go.Proofs.YtepadpjpmmaodaaGreatDoor.X
