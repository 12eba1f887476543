/-
  Own work, printed by a program of ours (mkprog.py): the functions of this seat as code of the abstract run, and that each is the model's.
-/
import Derived.Test.YtglefgcnafoafaaGreatDoorXLaw
import Derived.Test.YtglefgcnafoafaaGreatDoorChecked
set_option maxRecDepth 100000
namespace Go.Proofs.YtglefgcnafoafaaGreatDoor.X
open Go

abbrev mvA (d s : Nat) : XOp := ⟨some d, none, .move (.t s)⟩
abbrev opA (d : Nat) (i : XI) : XOp := ⟨some d, none, i⟩
abbrev clA (f : Nat) (l : List Arg) : XI := .call (.c (.func (.func f) #[] #[])) l
abbrev icA (n : Int) : Arg := .c (.int .i64 n)

/-- cloisonne/cloisonnelaw31.FerryNil -/
def x5 : XDecl := .code ⟨3, 
 (.seq (.ops [⟨(some 6), none, .move (.c (.bool false))⟩] (some [0, 1, 2]))
 (.seq (.seq (.ops [⟨(some 13), none, .call (.c (.func (.func 29) #[] #[])) []⟩,
   ⟨(some 14), none, .un .not (.t 13)⟩] (some [0, 1, 2, 14]))
 (.cond (.t 14)
  (.seq (.ops [⟨(some 6), none, .move (.c (.bool false))⟩] (some [6]))
  .ret)
  .skip))
 (.seq (.seq (.ops [⟨(some 15), none, .move (.t 2)⟩,
   ⟨(some 16), none, .call (.c (.func (.func 30) #[] #[])) [(.t 15)]⟩] (some [0, 1, 2, 16]))
 (.cond (.t 16)
  (.seq (.ops [⟨(some 6), none, .move (.c (.bool true))⟩] (some [6]))
  .ret)
  .skip))
 (.seq (.ops [⟨(some 18), none, .move (.t 0)⟩,
   ⟨(some 19), none, .move (.t 1)⟩,
   ⟨(some 20), none, .call (.c (.func (.func 31) #[] #[])) [(.c (.pointer none)), (.t 18), (.t 19), (.c (.int .i64 1))]⟩,
   ⟨(some 17), none, .move (.t 20)⟩,
   ⟨(some 21), none, .extract (.t 17) 0⟩,
   ⟨(some 22), none, .extract (.t 17) 1⟩,
   ⟨(some 7), none, .move (.t 21)⟩,
   ⟨(some 8), none, .move (.t 22)⟩] (some [0, 1, 2, 7, 8]))
 (.seq (.ops [⟨(some 24), none, .move (.t 0)⟩,
   ⟨(some 25), none, .move (.t 1)⟩,
   ⟨(some 26), none, .move (.t 2)⟩,
   ⟨(some 27), none, .call (.c (.func (.func 32) #[] #[])) [(.c (.pointer none)), (.t 24), (.t 25), (.t 26)]⟩,
   ⟨(some 23), none, .move (.t 27)⟩,
   ⟨(some 28), none, .extract (.t 23) 0⟩,
   ⟨(some 29), none, .extract (.t 23) 1⟩,
   ⟨(some 9), none, .move (.t 28)⟩,
   ⟨(some 10), none, .move (.t 29)⟩] (some [0, 1, 7, 8, 9, 10]))
 (.seq (.ops [⟨(some 31), none, .move (.t 0)⟩,
   ⟨(some 32), none, .move (.t 0)⟩,
   ⟨(some 33), none, .move (.t 1)⟩,
   ⟨(some 34), none, .call (.c (.func (.func 33) #[] #[])) [(.c (.pointer none)), (.t 31), (.c (.pointer none)), (.t 32), (.t 33)]⟩,
   ⟨(some 30), none, .move (.t 34)⟩,
   ⟨(some 35), none, .extract (.t 30) 0⟩,
   ⟨(some 36), none, .extract (.t 30) 1⟩,
   ⟨(some 11), none, .move (.t 35)⟩,
   ⟨(some 12), none, .move (.t 36)⟩] (some [0, 7, 8, 9, 10, 11, 12]))
 (.seq (.ops [⟨(some 37), none, .move (.t 7)⟩,
   ⟨(some 38), none, .len (.t 37)⟩,
   ⟨(some 39), none, .bin .eql 3 (.t 38) (.c (.int .i64 0))⟩,
   ⟨(some 40), none, .move (.t 39)⟩,
   ⟨(some 41), (some (40, true)), .move (.t 8)⟩,
   ⟨(some 42), (some (40, true)), .bin .eql 32 (.t 41) (.c (.int .i64 2))⟩,
   ⟨(some 43), none, .pick (.t 40) (.t 42) (.c (.bool false))⟩,
   ⟨(some 44), none, .move (.t 43)⟩,
   ⟨(some 45), (some (44, true)), .move (.t 9)⟩,
   ⟨(some 46), (some (44, true)), .bin .eql 3 (.t 45) (.c (.int .i64 0))⟩,
   ⟨(some 47), none, .pick (.t 44) (.t 46) (.c (.bool false))⟩,
   ⟨(some 48), none, .move (.t 47)⟩,
   ⟨(some 49), (some (48, true)), .move (.t 10)⟩,
   ⟨(some 50), (some (48, true)), .bin .eql 32 (.t 49) (.c (.int .i64 2))⟩,
   ⟨(some 51), none, .pick (.t 48) (.t 50) (.c (.bool false))⟩,
   ⟨(some 52), none, .move (.t 51)⟩,
   ⟨(some 53), (some (52, true)), .move (.t 11)⟩,
   ⟨(some 54), (some (52, true)), .bin .eql 3 (.t 53) (.c (.int .i64 0))⟩,
   ⟨(some 55), none, .pick (.t 52) (.t 54) (.c (.bool false))⟩,
   ⟨(some 56), none, .move (.t 55)⟩,
   ⟨(some 57), (some (56, true)), .move (.t 12)⟩,
   ⟨(some 58), (some (56, true)), .bin .eql 32 (.t 57) (.c (.int .i64 2))⟩,
   ⟨(some 59), none, .pick (.t 56) (.t 58) (.c (.bool false))⟩,
   ⟨(some 60), none, .move (.t 59)⟩,
   ⟨(some 61), (some (60, true)), .move (.t 0)⟩,
   ⟨(some 62), (some (60, true)), .call (.c (.func (.func 34) #[] #[])) [(.c (.pointer none)), (.t 61)]⟩,
   ⟨(some 63), (some (60, true)), .un .not (.t 62)⟩,
   ⟨(some 64), none, .pick (.t 60) (.t 63) (.c (.bool false))⟩,
   ⟨(some 6), none, .move (.t 64)⟩] (some [6]))
 .ret))))))), [.tmp 6]⟩

theorem is5 : FnIs Tryz.prog 5 x5 := ⟨Tryz.f5, _, Tryz.func5, by kernel_rfl, rfl, by kernel_rfl, by decide, by kernel_rfl⟩

/-- cloisonne/cloisonnelaw18.Far -/
def x7 : XDecl := .code ⟨1, 
(.seq (.ops [opA 1 (.box (.t 0)),
opA 2 (.move (.c (.bool false)))] (some [1]))
(.seq (.seq (.ops [opA 4 (.fieldAddr 3 (.t 1)),
opA 5 (.load false 1 (.t 4)),
opA 6 (.len (.t 5)),
opA 7 (.bin .gtr 3 (.t 6) (icA 20))] (some [1, 7]))
(.cond (.t 7)
(.seq (.ops [opA 2 (.move (.c (.bool true)))] (some [2]))
.ret)
.skip))
(.seq (.seq (.ops [opA 3 (.move (icA 0))] (some [1, 3]))
(.block 0
(.loop
(.seq (.seq (.ops [mvA 8 3,
opA 9 (.fieldAddr 3 (.t 1)),
opA 10 (.load false 1 (.t 9)),
opA 11 (.len (.t 10)),
opA 12 (.bin .lss 3 (.t 8) (.t 11))] (some [1, 3, 12]))
(.cond (.t 12)
.skip
(.exit 0)))
(.seq (.block 1
(.seq (.ops [opA 15 (.fieldAddr 3 (.t 1)),
opA 16 (.load false 1 (.t 15)),
mvA 17 3,
opA 18 (.indexAddr 4 (.t 16) (.t 17)),
opA 19 (.fieldAddr 0 (.t 18)),
opA 20 (.load false 1 (.t 19)),
opA 21 (.len (.t 20)),
opA 22 (.bin .gtr 3 (.t 21) (icA 30))] (some [1, 3, 22]))
(.cond (.t 22)
(.seq (.ops [opA 2 (.move (.c (.bool true)))] (some [2]))
.ret)
.skip)))
(.ops [mvA 13 3,
opA 14 (.bin .add 3 (.t 13) (icA 1)),
mvA 3 14] (some [1, 3])))))))
(.seq (.ops [opA 23 (.fieldAddr 2 (.t 1)),
opA 24 (.load false 1 (.t 23)),
opA 25 (.bin .gtr 3 (.t 24) (icA 20)),
mvA 26 25,
⟨some 27, some (26, true), .fieldAddr 2 (.t 1)⟩,
⟨some 28, some (26, true), .load false 1 (.t 27)⟩,
⟨some 29, some (26, true), .bin .leq 3 (.t 28) (icA 128)⟩,
opA 30 (.pick (.t 26) (.t 29) (.c (.bool false))),
mvA 2 30] (some [2]))
.ret)))), [.tmp 2]⟩

theorem is7 : FnIs Tryz.prog 7 x7 := ⟨Tryz.f7, _, Tryz.func7, by kernel_rfl, rfl, by kernel_rfl, by decide, by kernel_rfl⟩

/-- (*cloisonne/desk.Desk).Do -/
def x9 : XDecl := .code ⟨2, 
(.seq (.ops [opA 3 (.box (.t 1)),
opA 4 (.move (icA 0)),
opA 5 (.move (.c (.string .empty))),
opA 6 (.move (icA 0))] (some [0, 3]))
(.seq (.seq (.ops [mvA 8 0,
opA 9 (.isNil .ptr false (.t 8))] (some [0, 3, 9]))
(.cond (.t 9)
(.seq (.ops [opA 4 (.move (icA 0)),
opA 5 (.move (.c (.string .empty))),
opA 6 (.move (icA 2))] (some [4, 5, 6]))
.ret)
.skip))
(.seq (.ops [mvA 10 0,
opA 11 (.nilCheck (.t 10)),
opA 12 (.fieldAddr 5 (.t 11)),
opA 13 (.load false 1 (.t 12)),
opA 14 (.bin .add 3 (.t 13) (icA 1)),
opA 15 (.nilCheck (.t 10)),
opA 16 (.fieldAddr 5 (.t 15)),
⟨none, none, .store 1 (.t 16) (.t 14)⟩] (some [0, 3]))
(.seq (.seq (.ops [mvA 17 0,
opA 18 (.load true 5 (.t 3)),
opA 19 (clA 40 [(.t 17), (.t 18)]),
mvA 7 19] (some [0, 3, 7]))
(.seq (.ops [mvA 20 7,
opA 21 (.bin .neq 32 (.t 20) (icA 0))] (some [0, 3, 7, 21]))
(.cond (.t 21)
(.seq (.ops [mvA 22 7,
opA 4 (.move (icA 0)),
opA 5 (.move (.c (.string .empty))),
mvA 6 22] (some [4, 5, 6]))
.ret)
.skip)))
(.seq (.seq (.ops [opA 23 (.fieldAddr 0 (.t 3)),
opA 24 (.load false 1 (.t 23))] (some [0, 3, 24]))
(.block 0
(.seq (.ops [opA 26 (.bin .eql 3 (.t 24) (icA 1)),
mvA 25 26] (some [0, 3, 24, 25]))
(.cond (.t 25)
(.seq (.ops [mvA 27 0,
opA 28 (.load true 5 (.t 3)),
opA 29 (clA 41 [(.t 27), (.t 28)]),
opA 30 (.extract (.t 29) 0),
opA 31 (.extract (.t 29) 1),
opA 32 (.extract (.t 29) 2),
mvA 4 30,
mvA 5 31,
mvA 6 32] (some [4, 5, 6]))
.ret)
(.seq (.ops [opA 34 (.bin .eql 3 (.t 24) (icA 2)),
mvA 33 34] (some [0, 3, 24, 33]))
(.cond (.t 33)
(.seq (.ops [mvA 35 0,
opA 36 (.load true 5 (.t 3)),
opA 37 (clA 42 [(.t 35), (.t 36)]),
opA 38 (.extract (.t 37) 0),
opA 39 (.extract (.t 37) 1),
opA 40 (.extract (.t 37) 2),
mvA 4 38,
mvA 5 39,
mvA 6 40] (some [4, 5, 6]))
.ret)
(.seq (.ops [opA 42 (.bin .eql 3 (.t 24) (icA 3)),
mvA 41 42] (some [0, 3, 24, 41]))
(.cond (.t 41)
(.seq (.opsd [(0, 0, mvA 43 0),
(1, 1, opA 44 (.nilCheck (.t 43))),
(2, 3, opA 45 (.fieldAddr 6 (.t 44))),
(3, 7, opA 46 (.load false 1 (.t 45))),
(4, 15, opA 47 (.nilCheck (.t 46))),
(5, 31, opA 48 (.fieldAddr 0 (.t 47))),
(6, 63, opA 49 (.load false 1 (.t 48))),
(7, 0, opA 50 (.fieldAddr 2 (.t 3))),
(8, 128, opA 51 (.load false 1 (.t 50))),
(9, 511, opA 52 (clA 44 [(.t 49), (.t 51)])),
(10, 1023, opA 53 (clA 45 [(.t 52)])),
(11, 2047, opA 54 (.conv 3 77 (.t 53))),
(12, 4095, opA 55 (.build [(.int .i64 0), (.int .u64 0), (.bool false), (.bool false), (.string .empty), (.int .u64 0), (.slice none 0 0), (.int .i64 0), (.int .u64 0), (.int .u64 0), (.int .u64 0), (.int .u64 0)] [(0, 1), (1, 1), (2, 1), (3, 3), (6, 1), (7, 5)] [(1, (.t 54))])),
(13, 8191, opA 56 (clA 43 [(.t 55)])),
(14, 16383, opA 57 (.extract (.t 56) 0)),
(15, 16383, opA 58 (.extract (.t 56) 1)),
(16, 16383, opA 59 (.extract (.t 56) 2)),
(17, 131071, mvA 4 57),
(18, 262143, mvA 5 58),
(19, 524287, mvA 6 59)] (some [4, 5, 6]))
.ret)
(.seq (.ops [opA 61 (.bin .eql 3 (.t 24) (icA 4)),
mvA 60 61] (some [0, 3, 24, 60]))
(.cond (.t 60)
(.seq (.ops [mvA 62 0,
opA 63 (.fieldAddr 2 (.t 3)),
opA 64 (.load false 1 (.t 63)),
opA 65 (clA 46 [(.t 62), (.t 64)]),
opA 66 (.extract (.t 65) 0),
opA 67 (.extract (.t 65) 1),
opA 68 (.extract (.t 65) 2),
mvA 4 66,
mvA 5 67,
mvA 6 68] (some [4, 5, 6]))
.ret)
(.seq (.ops [opA 70 (.bin .eql 3 (.t 24) (icA 5)),
mvA 69 70] (some [0, 3, 69]))
(.cond (.t 69)
(.seq (.ops [mvA 71 0,
opA 72 (.fieldAddr 4 (.t 3)),
opA 73 (.load false 1 (.t 72)),
opA 74 (clA 47 [(.t 71), (.t 73)]),
opA 75 (.extract (.t 74) 0),
opA 76 (.extract (.t 74) 1),
opA 77 (.extract (.t 74) 2),
mvA 4 75,
mvA 5 76,
mvA 6 77] (some [4, 5, 6]))
.ret)
.skip))))))))))))
(.seq (.ops [mvA 78 0,
opA 79 (clA 48 [(.t 78)]),
opA 80 (.extract (.t 79) 0),
opA 81 (.extract (.t 79) 1),
opA 82 (.extract (.t 79) 2),
mvA 4 80,
mvA 5 81,
mvA 6 82] (some [4, 5, 6]))
.ret)))))), [.tmp 4, .tmp 5, .tmp 6]⟩

theorem is9 : FnIs Tryz.prog 9 x9 := ⟨Tryz.f9, _, Tryz.func9, by kernel_rfl, rfl, by kernel_rfl, by decide, by kernel_rfl⟩

/-- cloisonne/desk.Open -/
def x10 : XDecl := .code ⟨2, 
(.seq (.ops [opA 2 (.box (.t 0)),
opA 4 (.move (.c (.pointer none))),
opA 5 (.move (icA 0))] (some [1, 2]))
(.seq (.ops [opA 9 (.load true 4 (.t 2)),
mvA 10 1,
opA 11 (clA 49 [(.t 9), (.t 10)]),
mvA 8 11,
opA 12 (.extract (.t 8) 0),
opA 13 (.extract (.t 8) 1),
mvA 6 12,
mvA 7 13] (some [1, 6, 7]))
(.seq (.seq (.ops [mvA 14 7,
opA 15 (.bin .neq 32 (.t 14) (icA 0))] (some [1, 6, 7, 15]))
(.cond (.t 15)
(.seq (.ops [mvA 16 7,
opA 4 (.move (.c (.pointer none))),
mvA 5 16] (some [4, 5]))
.ret)
.skip))
(.seq (.ops [mvA 17 6,
opA 18 (.nilCheck (.t 17)),
opA 19 (.fieldAddr 0 (.t 18)),
opA 20 (.load false 1 (.t 19)),
opA 21 (clA 50 [(.t 20)]),
mvA 22 1,
mvA 23 6,
opA 24 (.build [(.int .i64 0), (.int .i64 0), (.int .i64 0), (.slice none 0 0), (.pointer none), (.int .i64 0), (.pointer none)] [(0, 4), (4, 1), (5, 1), (6, 1)] [(0, (.t 21)), (1, (.t 22)), (3, (.t 23))]),
opA 25 (.box (.t 24)),
mvA 4 25,
opA 5 (.move (icA 0))] (some [4, 5]))
.ret)))), [.tmp 4, .tmp 5]⟩

theorem is10 : FnIs Tryz.prog 10 x10 := ⟨Tryz.f10, _, Tryz.func10, by kernel_rfl, rfl, by kernel_rfl, by decide, by kernel_rfl⟩

/-- cloisonne/extent.New -/
def x11 : XDecl := .code ⟨2, 
(.seq (.ops [opA 4 (.move (.c (.pointer none))),
opA 5 (.move (icA 0))] (some [0, 1]))
(.seq (.seq (.ops [mvA 7 0,
opA 8 (.bin .lss 3 (.t 7) (icA 1)),
mvA 9 8,
⟨some 10, some (9, false), .move (.t 0)⟩,
⟨some 11, some (9, false), .bin .gtr 3 (.t 10) (icA 32)⟩,
opA 12 (.pick (.t 9) (.c (.bool true)) (.t 11)),
mvA 13 12,
⟨some 14, some (13, false), .move (.t 1)⟩,
⟨some 15, some (13, false), .bin .lss 3 (.t 14) (icA 1)⟩,
opA 16 (.pick (.t 13) (.c (.bool true)) (.t 15)),
mvA 17 16,
⟨some 18, some (17, false), .move (.t 1)⟩,
⟨some 19, some (17, false), .bin .gtr 3 (.t 18) (icA 128)⟩,
opA 20 (.pick (.t 17) (.c (.bool true)) (.t 19))] (some [0, 1, 20]))
(.cond (.t 20)
(.seq (.ops [opA 4 (.move (.c (.pointer none))),
opA 5 (.move (icA 1))] (some [4, 5]))
.ret)
.skip))
(.seq (.ops [mvA 21 1,
opA 22 (.build [(.bool false), (.int .i64 0), (.slice none 0 0), (.slice none 0 0)] [(0, 1), (1, 1), (2, 1), (3, 1)] [(1, (.t 21))]),
opA 23 (.box (.t 22)),
mvA 6 23] (some [0, 1, 6]))
(.seq (.seq (.ops [mvA 24 0,
opA 25 (.move (icA 0))] (some [1, 6, 24, 25]))
(.block 0
(.loop
(.seq (.ops [opA 26 (.bin .lss 3 (.t 25) (.t 24))] (some [1, 6, 24, 25, 26]))
(.seq (.cond (.t 26)
.skip
(.exit 0))
(.seq (.block 1
(.seq (.opsd [(0, 0, mvA 27 6),
(1, 0, mvA 28 6),
(2, 2, opA 29 (.nilCheck (.t 28))),
(3, 6, opA 30 (.fieldAddr 2 (.t 29))),
(4, 14, opA 31 (.load false 1 (.t 30))),
(5, 0, mvA 32 1),
(6, 32, opA 33 (.makeSlice [(.string .empty)] 16 (.t 32) (.t 32))),
(7, 96, opA 34 (.buildSlice [(.slice none 0 0)] 1 1 [(0, (.t 33))])),
(8, 254, opA 35 (.append 1 24 [(.slice none 0 0)] (.t 31) (.t 34))),
(9, 511, opA 36 (.nilCheck (.t 27))),
(10, 1023, opA 37 (.fieldAddr 2 (.t 36))),
(11, 2047, ⟨none, none, .store 1 (.t 37) (.t 35)⟩)] (some [1, 6, 24, 25]))
(.ops [mvA 38 6,
mvA 39 6,
opA 40 (.nilCheck (.t 39)),
opA 41 (.fieldAddr 3 (.t 40)),
opA 42 (.load false 1 (.t 41)),
opA 43 (.makeMap),
opA 44 (.buildSlice [(.map none)] 1 1 [(0, (.t 43))]),
opA 45 (.append 1 8 [(.map none)] (.t 42) (.t 44)),
opA 46 (.nilCheck (.t 38)),
opA 47 (.fieldAddr 3 (.t 46)),
⟨none, none, .store 1 (.t 47) (.t 45)⟩] (some [1, 6, 24, 25]))))
(.ops [opA 48 (.bin .add 3 (.t 25) (icA 1)),
mvA 25 48] (some [1, 6, 24, 25]))))))))
(.seq (.ops [mvA 49 6,
mvA 4 49,
opA 5 (.move (icA 0))] (some [4, 5]))
.ret))))), [.tmp 4, .tmp 5]⟩

theorem is11 : FnIs Tryz.prog 11 x11 := ⟨Tryz.f11, _, Tryz.func11, by kernel_rfl, rfl, by kernel_rfl, by decide, by kernel_rfl⟩

/-- (*cloisonne/desk.Desk).Up -/
def x12 : XDecl := .code ⟨1, 
(.seq (.ops [opA 2 (.move (.c (.bool false)))] (some [0]))
(.seq (.ops [mvA 3 0,
opA 4 (.isNil .ptr true (.t 3)),
mvA 5 4,
⟨some 6, some (5, true), .move (.t 0)⟩,
⟨some 7, some (5, true), .nilCheck (.t 6)⟩,
⟨some 8, some (5, true), .fieldAddr 6 (.t 7)⟩,
⟨some 9, some (5, true), .load false 1 (.t 8)⟩,
⟨some 10, some (5, true), .isNil .ptr true (.t 9)⟩,
opA 11 (.pick (.t 5) (.t 10) (.c (.bool false))),
mvA 2 11] (some [2]))
.ret)), [.tmp 2]⟩

theorem is12 : FnIs Tryz.prog 12 x12 := ⟨Tryz.f12, _, Tryz.func12, by kernel_rfl, rfl, by kernel_rfl, by decide, by kernel_rfl⟩

/-- (*cloisonne/desk.Desk).Vault -/
def x14 : XDecl := .code ⟨1, 
(.seq (.ops [opA 2 (.move (.c (.pointer none)))] (some [0]))
(.seq (.seq (.ops [mvA 3 0,
opA 4 (clA 12 [(.t 3)]),
opA 5 (.un .not (.t 4))] (some [0, 5]))
(.cond (.t 5)
(.seq (.ops [opA 2 (.move (.c (.pointer none)))] (some [2]))
.ret)
.skip))
(.seq (.ops [mvA 6 0,
opA 7 (.nilCheck (.t 6)),
opA 8 (.fieldAddr 6 (.t 7)),
opA 9 (.load false 1 (.t 8)),
opA 10 (.nilCheck (.t 9)),
opA 11 (.fieldAddr 0 (.t 10)),
opA 12 (.load false 1 (.t 11)),
mvA 2 12] (some [2]))
.ret))), [.tmp 2]⟩

theorem is14 : FnIs Tryz.prog 14 x14 := ⟨Tryz.f14, _, Tryz.func14, by kernel_rfl, rfl, by kernel_rfl, by decide, by kernel_rfl⟩

/-- (*cloisonne/desk.Desk).Session -/
def x16 : XDecl := .code ⟨2, 
(.seq (.ops [opA 4 (.move (.c (.pointer none)))] (some [0, 1]))
(.seq (.seq (.ops [mvA 5 0,
opA 6 (clA 12 [(.t 5)]),
opA 7 (.un .not (.t 6)),
mvA 8 7,
⟨some 9, some (8, false), .move (.t 1)⟩,
⟨some 10, some (8, false), .move (.t 0)⟩,
⟨some 11, some (8, false), .nilCheck (.t 10)⟩,
⟨some 12, some (8, false), .fieldAddr 0 (.t 11)⟩,
⟨some 13, some (8, false), .fieldAddr 1 (.t 12)⟩,
⟨some 14, some (8, false), .load false 1 (.t 13)⟩,
⟨some 15, some (8, false), .bin .sub 3 (.t 14) (icA 1)⟩,
⟨some 16, some (8, false), clA 51 [(.t 9), (icA 0), (.t 15)]⟩,
⟨some 17, some (8, false), .un .not (.t 16)⟩,
opA 18 (.pick (.t 8) (.c (.bool true)) (.t 17))] (some [0, 1, 18]))
(.cond (.t 18)
(.seq (.ops [opA 4 (.move (.c (.pointer none)))] (some [4]))
.ret)
.skip))
(.seq (.ops [mvA 19 0,
opA 20 (.nilCheck (.t 19)),
opA 21 (.fieldAddr 6 (.t 20)),
opA 22 (.load false 1 (.t 21)),
opA 23 (.nilCheck (.t 22)),
opA 24 (.fieldAddr 1 (.t 23)),
opA 25 (.load false 1 (.t 24)),
mvA 26 1,
opA 27 (.indexAddr 1 (.t 25) (.t 26)),
opA 28 (.load false 1 (.t 27)),
mvA 4 28] (some [4]))
.ret))), [.tmp 4]⟩

theorem is16 : FnIs Tryz.prog 16 x16 := ⟨Tryz.f16, _, Tryz.func16, by kernel_rfl, rfl, by kernel_rfl, by decide, by kernel_rfl⟩

/-- cloisonne/watch.One -/
def x24 : XDecl := .code ⟨3, 
(.seq (.ops [opA 6 (.move (.c (.string .empty))),
opA 7 (.move (icA 0))] (some [0, 1, 2]))
(.seq (.ops [mvA 12 0,
mvA 13 1,
mvA 14 2,
opA 15 (.build [(.int .i64 0), (.int .i64 0), (.int .i64 0), (.string .empty), (.slice none 0 0)] [(0, 1), (1, 1), (2, 1), (3, 1), (4, 1)] [(0, (icA 1)), (1, (.t 13)), (3, (.t 14))]),
opA 16 (clA 9 [(.t 12), (.t 15)]),
mvA 11 16,
opA 17 (.extract (.t 11) 0),
opA 18 (.extract (.t 11) 1),
opA 19 (.extract (.t 11) 2),
mvA 8 17,
mvA 9 18,
mvA 10 19] (some [0, 1, 8, 9, 10]))
(.seq (.seq (.ops [mvA 20 10,
opA 21 (.bin .neq 32 (.t 20) (icA 0)),
mvA 22 21,
⟨some 23, some (22, false), .move (.t 8)⟩,
⟨some 24, some (22, false), .bin .eql 3 (.t 23) (icA 2)⟩,
opA 25 (.pick (.t 22) (.c (.bool true)) (.t 24))] (some [0, 1, 9, 10, 25]))
(.cond (.t 25)
(.seq (.ops [mvA 26 9,
mvA 27 10,
mvA 6 26,
mvA 7 27] (some [6, 7]))
.ret)
.skip))
(.seq (.ops [mvA 28 0,
mvA 29 1,
opA 30 (.build [(.int .i64 0), (.int .i64 0), (.int .i64 0), (.string .empty), (.slice none 0 0)] [(0, 1), (1, 1), (2, 1), (3, 1), (4, 1)] [(0, (icA 2)), (1, (.t 29))]),
opA 31 (clA 58 [(.t 28), (.t 30)]),
opA 32 (.extract (.t 31) 0),
opA 33 (.extract (.t 31) 1),
mvA 6 32,
mvA 7 33] (some [6, 7]))
.ret)))), [.tmp 6, .tmp 7]⟩

theorem is24 : FnIs Tryz.prog 24 x24 := ⟨Tryz.f24, _, Tryz.func24, by kernel_rfl, rfl, by kernel_rfl, by decide, by kernel_rfl⟩

/-- cloisonne/cloisonnelaw31.awake -/
def x29 : XDecl := .code ⟨0, 
(.seq (.ops [opA 0 (.move (.c (.bool false)))] (some []))
(.seq (.ops [opA 10 (clA 36 []),
opA 11 (clA 35 [(.t 10)]),
mvA 9 11,
opA 12 (.extract (.t 9) 0),
opA 13 (.extract (.t 9) 1),
mvA 1 12,
mvA 2 13] (some [1, 2]))
(.seq (.seq (.ops [mvA 14 2,
opA 15 (.un .not (.t 14))] (some [1, 15]))
(.cond (.t 15)
(.seq (.ops [opA 0 (.move (.c (.bool false)))] (some [0]))
.ret)
.skip))
(.seq (.ops [mvA 17 1,
opA 18 (.build [(.int .i64 0), (.int .i64 0), (.slice none 0 0), (.int .u64 0), (.bool false), (.int .i64 0), (.string .empty), (.bool false), (.string .empty), (.int .u64 0), (.string .empty), (.string .empty), (.int .i64 0), (.int .i64 0), (.slice none 0 0)] [(0, 1), (1, 1), (2, 1), (3, 1), (4, 1), (5, 1), (6, 1), (7, 3), (10, 3), (13, 1), (14, 1)] [(0, (icA 1))]),
opA 19 (clA 54 [(.t 18)]),
opA 20 (clA 24 [(.t 17), (icA 0), (.t 19)]),
mvA 16 20,
opA 21 (.extract (.t 16) 0),
opA 22 (.extract (.t 16) 1),
mvA 3 21,
mvA 4 22] (some [1, 4]))
(.seq (.ops [mvA 24 1,
opA 25 (.build [(.string .empty), (.int .i64 0), (.bool false), (.string .empty), (.int .u64 0)] [(0, 1), (1, 1), (2, 3)] [(0, (.c (.string ⟨#[107]⟩))), (1, (icA 1))]),
opA 26 (.buildSlice [(.string .empty), (.int .i64 0), (.bool false), (.string .empty), (.int .u64 0)] 5 1 [(0, (.t 25))]),
opA 27 (clA 32 [(.t 24), (icA 0), (icA 0), (.t 26)]),
mvA 23 27,
opA 28 (.extract (.t 23) 0),
opA 29 (.extract (.t 23) 1),
mvA 5 28,
mvA 6 29] (some [1, 4, 5, 6]))
(.seq (.ops [mvA 31 1,
opA 32 (clA 31 [(.t 31), (icA 0), (icA 0), (icA 1)]),
mvA 30 32,
opA 33 (.extract (.t 30) 0),
opA 34 (.extract (.t 30) 1),
mvA 7 33,
mvA 8 34] (some [4, 5, 6, 7, 8]))
(.seq (.ops [mvA 35 4,
opA 36 (.bin .eql 32 (.t 35) (icA 0)),
mvA 37 36,
⟨some 38, some (37, true), .move (.t 5)⟩,
⟨some 39, some (37, true), .bin .eql 3 (.t 38) (icA 1)⟩,
opA 40 (.pick (.t 37) (.t 39) (.c (.bool false))),
mvA 41 40,
⟨some 42, some (41, true), .move (.t 6)⟩,
⟨some 43, some (41, true), .bin .eql 32 (.t 42) (icA 0)⟩,
opA 44 (.pick (.t 41) (.t 43) (.c (.bool false))),
mvA 45 44,
⟨some 46, some (45, true), .move (.t 7)⟩,
⟨some 47, some (45, true), .len (.t 46)⟩,
⟨some 48, some (45, true), .bin .eql 3 (.t 47) (icA 1)⟩,
opA 49 (.pick (.t 45) (.t 48) (.c (.bool false))),
mvA 50 49,
⟨some 51, some (50, true), .move (.t 7)⟩,
⟨some 52, some (50, true), .indexAddr 5 (.t 51) (icA 0)⟩,
⟨some 53, some (50, true), .fieldAddr 0 (.t 52)⟩,
⟨some 54, some (50, true), .load false 1 (.t 53)⟩,
⟨some 55, some (50, true), .bin .eql 9 (.t 54) (.c (.string ⟨#[107]⟩))⟩,
opA 56 (.pick (.t 50) (.t 55) (.c (.bool false))),
mvA 57 56,
⟨some 58, some (57, true), .move (.t 8)⟩,
⟨some 59, some (57, true), .bin .eql 32 (.t 58) (icA 0)⟩,
opA 60 (.pick (.t 57) (.t 59) (.c (.bool false))),
mvA 0 60] (some [0]))
.ret))))))), [.tmp 0]⟩

theorem is29 : FnIs Tryz.prog 29 x29 := ⟨Tryz.f29, _, Tryz.func29, by kernel_rfl, rfl, by kernel_rfl, by decide, by kernel_rfl⟩

/-- cloisonne/cloisonnelaw31.far -/
def x30 : XDecl := .code ⟨1, 
 (.seq (.ops [⟨(some 2), none, .move (.c (.bool false))⟩] (some [0]))
 (.seq (.seq (.ops [⟨(some 4), none, .move (.t 0)⟩,
   ⟨(some 5), none, .len (.t 4)⟩,
   ⟨(some 6), none, .bin .gtr 3 (.t 5) (.c (.int .i64 60))⟩] (some [0, 6]))
 (.cond (.t 6)
  (.seq (.ops [⟨(some 2), none, .move (.c (.bool true))⟩] (some [2]))
  .ret)
  .skip))
 (.seq (.seq (.ops [⟨(some 3), none, .move (.c (.int .i64 0))⟩] (some [0, 3]))
 (.block 0
  (.loop
   (.seq (.seq (.ops [⟨(some 7), none, .move (.t 3)⟩,
     ⟨(some 8), none, .move (.t 0)⟩,
     ⟨(some 9), none, .len (.t 8)⟩,
     ⟨(some 10), none, .bin .lss 3 (.t 7) (.t 9)⟩] (some [0, 3, 10]))
   (.cond (.t 10)
    .skip
    (.exit 0)))
   (.seq (.block 1
    (.seq (.ops [⟨(some 13), none, .move (.t 0)⟩,
      ⟨(some 14), none, .move (.t 3)⟩,
      ⟨(some 15), none, .indexAddr 5 (.t 13) (.t 14)⟩,
      ⟨(some 16), none, .fieldAddr 0 (.t 15)⟩,
      ⟨(some 17), none, .load false 1 (.t 16)⟩,
      ⟨(some 18), none, .calcB .len [9] 3 [(.t 17)]⟩,
      ⟨(some 19), none, .bin .gtr 3 (.t 18) (.c (.int .i64 200))⟩,
      ⟨(some 20), none, .move (.t 19)⟩,
      ⟨(some 21), (some (20, false)), .move (.t 0)⟩,
      ⟨(some 22), (some (20, false)), .move (.t 3)⟩,
      ⟨(some 23), (some (20, false)), .indexAddr 5 (.t 21) (.t 22)⟩,
      ⟨(some 24), (some (20, false)), .fieldAddr 2 (.t 23)⟩,
      ⟨(some 25), (some (20, false)), .fieldAddr 1 (.t 24)⟩,
      ⟨(some 26), (some (20, false)), .load false 1 (.t 25)⟩,
      ⟨(some 27), (some (20, false)), .calcB .len [9] 3 [(.t 26)]⟩,
      ⟨(some 28), (some (20, false)), .bin .gtr 3 (.t 27) (.c (.int .i64 200))⟩,
      ⟨(some 29), none, .pick (.t 20) (.c (.bool true)) (.t 28)⟩] (some [0, 3, 29]))
    (.cond (.t 29)
     (.seq (.ops [⟨(some 2), none, .move (.c (.bool true))⟩] (some [2]))
     .ret)
     .skip)))
   (.ops [⟨(some 11), none, .move (.t 3)⟩,
     ⟨(some 12), none, .bin .add 3 (.t 11) (.c (.int .i64 1))⟩,
     ⟨(some 3), none, .move (.t 12)⟩] (some [0, 3])))))))
 (.seq (.ops [⟨(some 2), none, .move (.c (.bool false))⟩] (some [2]))
 .ret)))), [.tmp 2]⟩

theorem is30 : FnIs Tryz.prog 30 x30 := ⟨Tryz.f30, _, Tryz.func30, by kernel_rfl, rfl, by kernel_rfl, by decide, by kernel_rfl⟩

/-- cloisonne/ferry.Out -/
def x31 : XDecl := .code ⟨4, 
 (.seq (.ops [⟨(some 8), none, .move (.c (.slice none 0 0))⟩,
   ⟨(some 9), none, .move (.c (.int .i64 0))⟩] (some [0, 1, 2, 3]))
 (.seq (.seq (.ops [⟨(some 13), none, .move (.t 0)⟩,
   ⟨(some 14), none, .move (.t 1)⟩,
   ⟨(some 15), none, .move (.t 2)⟩,
   ⟨(some 16), none, .move (.t 3)⟩,
   ⟨(some 17), none, .bin .geq 3 (.t 16) (.c (.int .i64 1))⟩,
   ⟨(some 18), none, .move (.t 17)⟩,
   ⟨(some 19), (some (18, true)), .move (.t 3)⟩,
   ⟨(some 20), (some (18, true)), .bin .leq 3 (.t 19) (.c (.int .i64 64))⟩,
   ⟨(some 21), none, .pick (.t 18) (.t 20) (.c (.bool false))⟩,
   ⟨(some 22), none, .call (.c (.func (.func 66) #[] #[])) [(.t 13), (.t 14), (.t 15), (.t 21)]⟩,
   ⟨(some 10), none, .move (.t 22)⟩] (some [0, 1, 2, 3, 10]))
 (.seq (.ops [⟨(some 23), none, .move (.t 10)⟩,
   ⟨(some 24), none, .bin .neq 32 (.t 23) (.c (.int .i64 0))⟩] (some [0, 1, 2, 3, 10, 24]))
 (.cond (.t 24)
  (.seq (.ops [⟨(some 25), none, .move (.t 10)⟩,
    ⟨(some 8), none, .move (.c (.slice none 0 0))⟩,
    ⟨(some 9), none, .move (.t 25)⟩] (some [8, 9]))
  .ret)
  .skip)))
 (.seq (.ops [⟨(some 26), none, .move (.t 0)⟩,
   ⟨(some 27), none, .move (.t 1)⟩,
   ⟨(some 28), none, .build [(.pointer none), (.int .i64 0), (.int .i64 0)] [(0, 1), (1, 1), (2, 1)] [(0, (.t 26)), (1, (.t 27))]⟩,
   ⟨(some 29), none, .box (.t 28)⟩,
   ⟨(some 11), none, .move (.t 29)⟩] (some [2, 3, 11]))
 (.seq (.ops [⟨(some 30), none, .move (.t 11)⟩,
   ⟨(some 31), none, .move (.t 2)⟩,
   ⟨(some 32), none, .move (.t 3)⟩,
   ⟨(some 33), none, .call (.c (.func (.func 67) #[] #[])) [(.t 30), (.t 31), (.t 32)]⟩,
   ⟨(some 12), none, .move (.t 33)⟩] (some [11, 12]))
 (.seq (.seq (.ops [⟨(some 34), none, .move (.t 11)⟩,
   ⟨(some 35), none, .nilCheck (.t 34)⟩,
   ⟨(some 36), none, .fieldAddr 2 (.t 35)⟩,
   ⟨(some 37), none, .load false 1 (.t 36)⟩,
   ⟨(some 38), none, .bin .neq 32 (.t 37) (.c (.int .i64 0))⟩] (some [11, 12, 38]))
 (.cond (.t 38)
  (.seq (.opsr [⟨(some 39), none, .move (.t 11)⟩,
    ⟨(some 40), none, .nilCheck (.t 39)⟩,
    ⟨(some 41), none, .fieldAddr 2 (.t 40)⟩,
    ⟨(some 42), none, .load false 1 (.t 41)⟩,
    ⟨(some 8), none, .move (.c (.slice none 0 0))⟩,
    ⟨(some 9), none, .move (.t 42)⟩] (some [8, 9]))
  .ret)
  .skip))
 (.seq (.ops [⟨(some 43), none, .move (.t 12)⟩,
   ⟨(some 8), none, .move (.t 43)⟩,
   ⟨(some 9), none, .move (.c (.int .i64 0))⟩] (some [8, 9]))
 .ret)))))), [.tmp 8, .tmp 9]⟩

theorem is31 : FnIs Tryz.prog 31 x31 := ⟨Tryz.f31, _, Tryz.func31, by kernel_rfl, rfl, by kernel_rfl, by decide, by kernel_rfl⟩

/-- cloisonne/ferry.In -/
def x32 : XDecl := .code ⟨4, 
 (.seq (.ops [⟨(some 8), none, .move (.c (.int .i64 0))⟩,
   ⟨(some 9), none, .move (.c (.int .i64 0))⟩] (some [0, 1, 2, 3]))
 (.seq (.seq (.ops [⟨(some 18), none, .move (.t 0)⟩,
   ⟨(some 19), none, .move (.t 1)⟩,
   ⟨(some 20), none, .move (.t 2)⟩,
   ⟨(some 21), none, .move (.t 3)⟩,
   ⟨(some 22), none, .call (.c (.func (.func 68) #[] #[])) [(.t 21)]⟩,
   ⟨(some 23), none, .call (.c (.func (.func 66) #[] #[])) [(.t 18), (.t 19), (.t 20), (.t 22)]⟩,
   ⟨(some 10), none, .move (.t 23)⟩] (some [0, 1, 2, 3, 10]))
 (.seq (.ops [⟨(some 24), none, .move (.t 10)⟩,
   ⟨(some 25), none, .bin .neq 32 (.t 24) (.c (.int .i64 0))⟩] (some [0, 1, 2, 3, 10, 25]))
 (.cond (.t 25)
  (.seq (.ops [⟨(some 26), none, .move (.t 10)⟩,
    ⟨(some 8), none, .move (.c (.int .i64 0))⟩,
    ⟨(some 9), none, .move (.t 26)⟩] (some [8, 9]))
  .ret)
  .skip)))
 (.seq (.ops [⟨(some 27), none, .move (.t 0)⟩,
   ⟨(some 28), none, .move (.t 1)⟩,
   ⟨(some 29), none, .build [(.pointer none), (.int .i64 0), (.int .i64 0)] [(0, 1), (1, 1), (2, 1)] [(0, (.t 27)), (1, (.t 28))]⟩,
   ⟨(some 30), none, .box (.t 29)⟩,
   ⟨(some 11), none, .move (.t 30)⟩] (some [2, 3, 11]))
 (.seq (.ops [⟨(some 31), none, .move (.t 11)⟩,
   ⟨(some 32), none, .move (.t 2)⟩,
   ⟨(some 33), none, .call (.c (.func (.func 67) #[] #[])) [(.t 31), (.t 32), (.c (.int .i64 64))]⟩,
   ⟨(some 12), none, .move (.t 33)⟩] (some [2, 3, 11, 12]))
 (.seq (.seq (.ops [⟨(some 34), none, .move (.t 11)⟩,
   ⟨(some 35), none, .nilCheck (.t 34)⟩,
   ⟨(some 36), none, .fieldAddr 2 (.t 35)⟩,
   ⟨(some 37), none, .load false 1 (.t 36)⟩,
   ⟨(some 38), none, .bin .neq 32 (.t 37) (.c (.int .i64 0))⟩] (some [2, 3, 11, 12, 38]))
 (.cond (.t 38)
  (.seq (.opsr [⟨(some 39), none, .move (.t 11)⟩,
    ⟨(some 40), none, .nilCheck (.t 39)⟩,
    ⟨(some 41), none, .fieldAddr 2 (.t 40)⟩,
    ⟨(some 42), none, .load false 1 (.t 41)⟩,
    ⟨(some 8), none, .move (.c (.int .i64 0))⟩,
    ⟨(some 9), none, .move (.t 42)⟩] (some [8, 9]))
  .ret)
  .skip))
 (.seq (.ops [⟨(some 44), none, .move (.t 12)⟩,
   ⟨(some 45), none, .move (.t 3)⟩,
   ⟨(some 46), none, .call (.c (.func (.func 69) #[] #[])) [(.t 44), (.t 45)]⟩,
   ⟨(some 43), none, .move (.t 46)⟩,
   ⟨(some 47), none, .extract (.t 43) 0⟩,
   ⟨(some 48), none, .extract (.t 43) 1⟩,
   ⟨(some 13), none, .move (.t 47)⟩,
   ⟨(some 14), none, .move (.t 48)⟩] (some [2, 11, 13, 14]))
 (.seq (.seq (.ops [⟨(some 49), none, .move (.t 14)⟩,
   ⟨(some 50), none, .bin .neq 32 (.t 49) (.c (.int .i64 0))⟩] (some [2, 11, 13, 14, 50]))
 (.cond (.t 50)
  (.seq (.ops [⟨(some 51), none, .move (.t 14)⟩,
    ⟨(some 8), none, .move (.c (.int .i64 0))⟩,
    ⟨(some 9), none, .move (.t 51)⟩] (some [8, 9]))
  .ret)
  .skip))
 (.seq (.ops [⟨(some 15), none, .move (.c (.int .i64 0))⟩] (some [2, 11, 13, 15]))
 (.seq (.seq (.ops [⟨(some 52), none, .move (.t 13)⟩,
   ⟨(some 53), none, .call (.c (.func (.func 70) #[] #[])) [(.t 52)]⟩,
   ⟨(some 54), none, .len (.t 53)⟩,
   ⟨(some 55), none, .move (.c (.int .i64 0))⟩] (some [2, 11, 15, 53, 54, 55]))
 (.block 0
  (.loop
   (.seq (.ops [⟨(some 56), none, .bin .lss 3 (.t 55) (.t 54)⟩] (some [2, 11, 15, 53, 54, 55, 56]))
   (.seq (.cond (.t 56)
    .skip
    (.exit 0))
   (.seq (.block 1
    (.seq (.ops [⟨(some 57), none, .indexAddr 1 (.t 53) (.t 55)⟩,
      ⟨(some 58), none, .load false 1 (.t 57)⟩,
      ⟨(some 17), none, .move (.t 58)⟩] (some [2, 11, 15, 17, 53, 54, 55]))
    (.seq (.seq (.ops [⟨(some 59), none, .move (.t 11)⟩,
      ⟨(some 60), none, .move (.t 2)⟩,
      ⟨(some 61), none, .move (.t 17)⟩,
      ⟨(some 62), none, .call (.c (.func (.func 71) #[] #[])) [(.t 59), (.t 60), (.t 61)]⟩,
      ⟨(some 63), none, .un .not (.t 62)⟩] (some [2, 11, 15, 53, 54, 55, 63]))
    (.cond (.t 63)
     (.seq (.opsr [⟨(some 64), none, .move (.t 15)⟩,
       ⟨(some 65), none, .move (.t 11)⟩,
       ⟨(some 66), none, .nilCheck (.t 65)⟩,
       ⟨(some 67), none, .fieldAddr 2 (.t 66)⟩,
       ⟨(some 68), none, .load false 1 (.t 67)⟩,
       ⟨(some 8), none, .move (.t 64)⟩,
       ⟨(some 9), none, .move (.t 68)⟩] (some [8, 9]))
     .ret)
     .skip))
    (.ops [⟨(some 69), none, .move (.t 15)⟩,
      ⟨(some 70), none, .bin .add 3 (.t 69) (.c (.int .i64 1))⟩,
      ⟨(some 15), none, .move (.t 70)⟩] (some [2, 11, 15, 53, 54, 55])))))
   (.ops [⟨(some 71), none, .bin .add 3 (.t 55) (.c (.int .i64 1))⟩,
     ⟨(some 55), none, .move (.t 71)⟩] (some [2, 11, 15, 53, 54, 55]))))))))
 (.seq (.ops [⟨(some 72), none, .move (.t 15)⟩,
   ⟨(some 8), none, .move (.t 72)⟩,
   ⟨(some 9), none, .move (.c (.int .i64 0))⟩] (some [8, 9]))
 .ret)))))))))), [.tmp 8, .tmp 9]⟩

theorem is32 : FnIs Tryz.prog 32 x32 := ⟨Tryz.f32, _, Tryz.func32, by kernel_rfl, rfl, by kernel_rfl, by decide, by kernel_rfl⟩

/-- cloisonne/ferry.Copy -/
def x33 : XDecl := .code ⟨5, 
 (.seq (.ops [⟨(some 10), none, .move (.c (.int .i64 0))⟩,
   ⟨(some 11), none, .move (.c (.int .i64 0))⟩] (some [0, 1, 2, 3, 4]))
 (.seq (.ops [⟨(some 15), none, .move (.t 0)⟩,
   ⟨(some 16), none, .move (.t 1)⟩,
   ⟨(some 17), none, .move (.t 4)⟩,
   ⟨(some 18), none, .call (.c (.func (.func 31) #[] #[])) [(.t 15), (.t 16), (.t 17), (.c (.int .i64 64))]⟩,
   ⟨(some 14), none, .move (.t 18)⟩,
   ⟨(some 19), none, .extract (.t 14) 0⟩,
   ⟨(some 20), none, .extract (.t 14) 1⟩,
   ⟨(some 12), none, .move (.t 19)⟩,
   ⟨(some 13), none, .move (.t 20)⟩] (some [2, 3, 4, 12, 13]))
 (.seq (.seq (.ops [⟨(some 21), none, .move (.t 13)⟩,
   ⟨(some 22), none, .bin .neq 32 (.t 21) (.c (.int .i64 0))⟩] (some [2, 3, 4, 12, 13, 22]))
 (.cond (.t 22)
  (.seq (.ops [⟨(some 23), none, .move (.t 13)⟩,
    ⟨(some 10), none, .move (.c (.int .i64 0))⟩,
    ⟨(some 11), none, .move (.t 23)⟩] (some [10, 11]))
  .ret)
  .skip))
 (.seq (.ops [⟨(some 24), none, .move (.t 2)⟩,
   ⟨(some 25), none, .move (.t 3)⟩,
   ⟨(some 26), none, .move (.t 4)⟩,
   ⟨(some 27), none, .move (.t 12)⟩,
   ⟨(some 28), none, .call (.c (.func (.func 32) #[] #[])) [(.t 24), (.t 25), (.t 26), (.t 27)]⟩,
   ⟨(some 29), none, .extract (.t 28) 0⟩,
   ⟨(some 30), none, .extract (.t 28) 1⟩,
   ⟨(some 10), none, .move (.t 29)⟩,
   ⟨(some 11), none, .move (.t 30)⟩] (some [10, 11]))
 .ret)))), [.tmp 10, .tmp 11]⟩

theorem is33 : FnIs Tryz.prog 33 x33 := ⟨Tryz.f33, _, Tryz.func33, by kernel_rfl, rfl, by kernel_rfl, by decide, by kernel_rfl⟩

/-- cloisonne/ferry.Ready -/
def x34 : XDecl := .code ⟨2, 
 (.seq (.ops [⟨(some 4), none, .move (.c (.bool false))⟩] (some [0, 1]))
 (.seq (.ops [⟨(some 6), none, .move (.t 0)⟩,
   ⟨(some 7), none, .move (.t 1)⟩,
   ⟨(some 8), none, .call (.c (.func (.func 16) #[] #[])) [(.t 6), (.t 7)]⟩,
   ⟨(some 5), none, .move (.t 8)⟩] (some [5]))
 (.seq (.ops [⟨(some 9), none, .move (.t 5)⟩,
   ⟨(some 10), none, .call (.c (.func (.func 39) #[] #[])) [(.t 9)]⟩,
   ⟨(some 11), none, .move (.t 10)⟩,
   ⟨(some 12), (some (11, true)), .move (.t 5)⟩,
   ⟨(some 13), (some (11, true)), .call (.c (.func (.func 72) #[] #[])) [(.t 12)]⟩,
   ⟨(some 14), (some (11, true)), .un .not (.t 13)⟩,
   ⟨(some 15), none, .pick (.t 11) (.t 14) (.c (.bool false))⟩,
   ⟨(some 16), none, .move (.t 15)⟩,
   ⟨(some 17), (some (16, true)), .move (.t 5)⟩,
   ⟨(some 18), (some (16, true)), .call (.c (.func (.func 52) #[] #[])) [(.t 17)]⟩,
   ⟨(some 19), (some (16, true)), .un .not (.t 18)⟩,
   ⟨(some 20), none, .pick (.t 16) (.t 19) (.c (.bool false))⟩,
   ⟨(some 4), none, .move (.t 20)⟩] (some [4]))
 .ret))), [.tmp 4]⟩

theorem is34 : FnIs Tryz.prog 34 x34 := ⟨Tryz.f34, _, Tryz.func34, by kernel_rfl, rfl, by kernel_rfl, by decide, by kernel_rfl⟩

/-- cloisonne/cloisonnelaw22.Open -/
def x35 : XDecl := .code ⟨1, 
 (.seq (.ops [⟨(some 1), none, .box (.t 0)⟩,
   ⟨(some 2), none, .move (.c (.pointer none))⟩,
   ⟨(some 3), none, .move (.c (.bool false))⟩] (some [1]))
 (.seq (.seq (.ops [⟨(some 8), none, .load true 4 (.t 1)⟩,
   ⟨(some 9), none, .call (.c (.func (.func 7) #[] #[])) [(.t 8)]⟩,
   ⟨(some 10), none, .move (.t 9)⟩,
   ⟨(some 11), (some (10, false)), .load true 4 (.t 1)⟩,
   ⟨(some 12), (some (10, false)), .call (.c (.func (.func 73) #[] #[])) [(.t 11)]⟩,
   ⟨(some 13), (some (10, false)), .un .not (.t 12)⟩,
   ⟨(some 14), none, .pick (.t 10) (.c (.bool true)) (.t 13)⟩] (some [1, 14]))
 (.cond (.t 14)
  (.seq (.ops [⟨(some 2), none, .move (.c (.pointer none))⟩,
    ⟨(some 3), none, .move (.c (.bool false))⟩] (some [2, 3]))
  .ret)
  .skip))
 (.seq (.ops [⟨(some 16), none, .fieldAddr 2 (.t 1)⟩,
   ⟨(some 17), none, .load false 1 (.t 16)⟩,
   ⟨(some 18), none, .call (.c (.func (.func 11) #[] #[])) [(.c (.int .i64 18)), (.t 17)]⟩,
   ⟨(some 15), none, .move (.t 18)⟩,
   ⟨(some 19), none, .extract (.t 15) 0⟩,
   ⟨(some 20), none, .extract (.t 15) 1⟩,
   ⟨(some 4), none, .move (.t 19)⟩,
   ⟨(some 5), none, .move (.t 20)⟩] (some [1, 4, 5]))
 (.seq (.ops [⟨(some 22), none, .load true 4 (.t 1)⟩,
   ⟨(some 23), none, .move (.t 4)⟩,
   ⟨(some 24), none, .call (.c (.func (.func 10) #[] #[])) [(.t 22), (.t 23)]⟩,
   ⟨(some 21), none, .move (.t 24)⟩,
   ⟨(some 25), none, .extract (.t 21) 0⟩,
   ⟨(some 26), none, .extract (.t 21) 1⟩,
   ⟨(some 6), none, .move (.t 25)⟩,
   ⟨(some 7), none, .move (.t 26)⟩] (some [5, 6, 7]))
 (.seq (.ops [⟨(some 27), none, .move (.t 6)⟩,
   ⟨(some 28), none, .move (.t 5)⟩,
   ⟨(some 29), none, .bin .eql 32 (.t 28) (.c (.int .i64 0))⟩,
   ⟨(some 30), none, .move (.t 29)⟩,
   ⟨(some 31), (some (30, true)), .move (.t 7)⟩,
   ⟨(some 32), (some (30, true)), .bin .eql 32 (.t 31) (.c (.int .i64 0))⟩,
   ⟨(some 33), none, .pick (.t 30) (.t 32) (.c (.bool false))⟩,
   ⟨(some 2), none, .move (.t 27)⟩,
   ⟨(some 3), none, .move (.t 33)⟩] (some [2, 3]))
 .ret))))), [.tmp 2, .tmp 3]⟩

theorem is35 : FnIs Tryz.prog 35 x35 := ⟨Tryz.f35, _, Tryz.func35, by kernel_rfl, rfl, by kernel_rfl, by decide, by kernel_rfl⟩

/-- cloisonne/cloisonnelaw18.Plain -/
def x36 : XDecl := .code ⟨0, 
(.seq (.ops [opA 0 (.alloc [(.int .i64 0), (.int .i64 0), (.int .i64 0), (.slice none 0 0)])] (some [0]))
(.seq (.ops [opA 3 (.build [(.slice none 0 0), (.int .i64 0), (.int .i64 0), (.int .i64 0)] [(0, 1), (1, 1), (2, 1), (3, 1)] [(1, (icA 4)), (2, (icA 200)), (3, (icA 99))]),
opA 1 (.alloc [(.slice none 0 0), (.int .i64 0), (.int .i64 0), (.int .i64 0)]),
⟨none, none, .store 4 (.t 1) (.t 3)⟩] (some [0, 1]))
(.seq (.ops [opA 4 (.load true 4 (.t 1)),
opA 2 (.alloc [(.slice none 0 0), (.int .i64 0), (.int .i64 0), (.int .i64 0)]),
⟨none, none, .store 4 (.t 2) (.t 4)⟩] (some [0, 1, 2]))
(.seq (.ops [opA 5 (.buildSlice [(.int .u64 0)] 1 1 [(0, (.c (.int .u64 1)))]),
opA 6 (.fieldAddr 0 (.t 2)),
⟨none, none, .store 1 (.t 6) (.t 5)⟩] (some [0, 1, 2]))
(.seq (.ops [opA 7 (.load true 4 (.t 1)),
opA 8 (.load true 4 (.t 2)),
opA 9 (.buildSlice [(.slice none 0 0), (.int .i64 0), (.int .i64 0), (.int .i64 0)] 4 2 [(0, (.t 7)), (1, (.t 8))]),
opA 10 (.build [(.int .i64 0), (.int .i64 0), (.int .i64 0), (.slice none 0 0)] [(0, 1), (1, 1), (2, 1), (3, 1)] [(0, (icA 2)), (1, (icA 3)), (2, (icA 8)), (3, (.t 9))]),
⟨none, none, .store 4 (.t 0) (.t 10)⟩] (some [0]))
.ret))))), [.cell true 4 0]⟩

theorem is36 : FnIs Tryz.prog 36 x36 := ⟨Tryz.f36, _, Tryz.func36, by kernel_rfl, rfl, by kernel_rfl, by decide, by kernel_rfl⟩

/-- cloisonne/ask.Pack -/
def x37 : XDecl := .code ⟨1, 
(.seq (.ops [opA 1 (.box (.t 0)),
opA 2 (.move (.c (.string .empty))),
opA 3 (.alloc [(.int .i64 0)])] (some [1, 3]))
(.seq (.ops [⟨none, none, .dfr [(.t 3), (icA 1)]⟩] (some [1, 3]))
(.seq (.ops [opA 7 (.load true 15 (.t 1)),
opA 8 (clA 76 [(.t 7)]),
opA 9 (clA 75 [(.t 8)])] (some [1, 3]))
(.seq (.ops [opA 10 (.fieldAddr 0 (.t 1)),
opA 11 (.load false 1 (.t 10)),
opA 12 (clA 78 [(.t 11)]),
opA 13 (.buildSlice [(.int .u64 0), (.string .empty), (.slice none 0 0), (.slice none 0 0)] 4 1 [(0, (.t 12))]),
opA 14 (clA 77 [(.c (.string ⟨#[98]⟩)), (.t 13)]),
mvA 4 14] (some [1, 3, 4]))
(.seq (.seq (.ops [opA 15 (.fieldAddr 0 (.t 1)),
opA 16 (.load false 1 (.t 15)),
opA 17 (clA 79 [(.t 16)]),
opA 18 (.len (.t 17)),
opA 19 (.move (icA 0))] (some [1, 3, 4, 17, 18, 19]))
(.block 0
(.loop
(.seq (.ops [opA 20 (.bin .lss 3 (.t 19) (.t 18))] (some [1, 3, 4, 17, 18, 19, 20]))
(.seq (.cond (.t 20)
.skip
(.exit 0))
(.seq (.block 1
(.seq (.ops [opA 21 (.indexAddr 1 (.t 17) (.t 19)),
opA 22 (.load false 1 (.t 21)),
mvA 6 22] (some [1, 3, 4, 6, 17, 18, 19]))
(.ops [mvA 23 4,
opA 24 (.load true 15 (.t 1)),
mvA 25 6,
opA 26 (clA 80 [(.t 24), (.t 25)]),
opA 27 (.bin .add 9 (.t 23) (.t 26)),
mvA 4 27] (some [1, 3, 4, 17, 18, 19]))))
(.ops [opA 28 (.bin .add 3 (.t 19) (icA 1)),
mvA 19 28] (some [1, 3, 4, 17, 18, 19]))))))))
(.seq (.ops [mvA 29 4,
mvA 2 29,
⟨none, none, .store 1 (.t 3) (icA 0)⟩] (some [2, 3]))
.ret)))))), [.tmp 2, .cell false 1 3]⟩

theorem is37 : FnIs Tryz.prog 37 x37 := ⟨Tryz.f37, _, Tryz.func37, by kernel_rfl, rfl, by kernel_rfl, by decide, by kernel_rfl⟩

/-- cloisonne/ask.Read -/
def x38 : XDecl := .code ⟨1, 
(.seq (.ops [opA 2 (.alloc [(.int .i64 0), (.int .u64 0), (.bool false), (.bool false), (.string .empty), (.int .u64 0), (.slice none 0 0), (.int .i64 0), (.int .u64 0), (.int .u64 0), (.int .u64 0), (.int .u64 0)]),
opA 3 (.move (icA 0))] (some [0, 2]))
(.seq (.ops [mvA 7 0,
opA 8 (clA 81 [(.t 7)]),
mvA 6 8,
opA 9 (.extract (.t 6) 0),
opA 10 (.extract (.t 6) 1),
opA 4 (.alloc [(.int .i64 0), (.int .u64 0), (.bool false), (.bool false), (.string .empty), (.int .u64 0), (.slice none 0 0), (.int .i64 0), (.int .u64 0), (.int .u64 0), (.int .u64 0), (.int .u64 0)]),
⟨none, none, .store 12 (.t 4) (.t 9)⟩,
mvA 5 10] (some [2, 4, 5]))
(.seq (.seq (.ops [mvA 11 5,
opA 12 (.bin .neq 32 (.t 11) (icA 0))] (some [2, 4, 5, 12]))
(.cond (.t 12)
(.seq (.ops [opA 13 (.build [(.int .i64 0), (.int .u64 0), (.bool false), (.bool false), (.string .empty), (.int .u64 0), (.slice none 0 0), (.int .i64 0), (.int .u64 0), (.int .u64 0), (.int .u64 0), (.int .u64 0)] [(0, 1), (1, 1), (2, 1), (3, 3), (6, 1), (7, 5)] []),
mvA 14 5,
⟨none, none, .store 12 (.t 2) (.t 13)⟩,
mvA 3 14] (some [2, 3]))
.ret)
.skip))
(.seq (.ops [opA 15 (.load true 12 (.t 4)),
⟨none, none, .store 12 (.t 2) (.t 15)⟩,
opA 3 (.move (icA 0))] (some [2, 3]))
.ret)))), [.cell true 12 2, .tmp 3]⟩

theorem is38 : FnIs Tryz.prog 38 x38 := ⟨Tryz.f38, _, Tryz.func38, by kernel_rfl, rfl, by kernel_rfl, by decide, by kernel_rfl⟩

/-- (*cloisonne/sess.Session).Open -/
def x39 : XDecl := .code ⟨1, 
(.seq (.ops [opA 2 (.move (.c (.bool false)))] (some [0]))
(.seq (.ops [mvA 3 0,
opA 4 (.isNil .ptr true (.t 3)),
mvA 5 4,
⟨some 6, some (5, true), .move (.t 0)⟩,
⟨some 7, some (5, true), .nilCheck (.t 6)⟩,
⟨some 8, some (5, true), .fieldAddr 3 (.t 7)⟩,
⟨some 9, some (5, true), .load false 1 (.t 8)⟩,
opA 10 (.pick (.t 5) (.t 9) (.c (.bool false))),
mvA 2 10] (some [2]))
.ret)), [.tmp 2]⟩

theorem is39 : FnIs Tryz.prog 39 x39 := ⟨Tryz.f39, _, Tryz.func39, by kernel_rfl, rfl, by kernel_rfl, by decide, by kernel_rfl⟩

/-- (*cloisonne/desk.Desk).may -/
def x40 : XDecl := .code ⟨2, 
(.seq (.ops [opA 3 (.box (.t 1)),
opA 4 (.move (icA 0))] (some [0, 3]))
(.seq (.ops [mvA 6 0,
opA 7 (.nilCheck (.t 6)),
opA 8 (.fieldAddr 0 (.t 7)),
opA 9 (.fieldAddr 3 (.t 8)),
opA 10 (.load false 1 (.t 9)),
opA 11 (.len (.t 10)),
opA 12 (.bin .sub 3 (.t 11) (icA 1)),
mvA 5 12] (some [0, 3, 5]))
(.seq (.block 0
(.seq (.ops [opA 14 (.fieldAddr 0 (.t 3)),
opA 15 (.load false 1 (.t 14)),
opA 16 (clA 51 [(.t 15), (icA 1), (icA 6)]),
opA 17 (.un .not (.t 16)),
mvA 13 17] (some [0, 3, 5, 13]))
(.cond (.t 13)
(.seq (.ops [opA 4 (.move (icA 1))] (some [4]))
.ret)
(.seq (.ops [opA 19 (.fieldAddr 0 (.t 3)),
opA 20 (.load false 1 (.t 19)),
opA 21 (.bin .eql 3 (.t 20) (icA 6)),
mvA 22 21,
⟨some 23, some (22, true), .move (.t 0)⟩,
⟨some 24, some (22, true), clA 12 [(.t 23)]⟩,
opA 25 (.pick (.t 22) (.t 24) (.c (.bool false))),
mvA 18 25] (some [0, 3, 5, 18]))
(.cond (.t 18)
(.seq (.ops [opA 4 (.move (icA 8))] (some [4]))
.ret)
(.seq (.ops [opA 27 (.fieldAddr 0 (.t 3)),
opA 28 (.load false 1 (.t 27)),
opA 29 (.bin .neq 3 (.t 28) (icA 6)),
mvA 30 29,
⟨some 31, some (30, true), .move (.t 0)⟩,
⟨some 32, some (30, true), clA 12 [(.t 31)]⟩,
⟨some 33, some (30, true), .un .not (.t 32)⟩,
opA 34 (.pick (.t 30) (.t 33) (.c (.bool false))),
mvA 26 34] (some [0, 3, 5, 26]))
(.cond (.t 26)
(.seq (.ops [opA 4 (.move (icA 6))] (some [4]))
.ret)
(.seq (.opsd [(0, 0, opA 36 (.fieldAddr 0 (.t 3))),
(1, 1, opA 37 (.load false 1 (.t 36))),
(2, 3, opA 38 (.bin .leq 3 (.t 37) (icA 2))),
(3, 7, mvA 39 38),
(4, 15, ⟨some 40, some (39, true), .fieldAddr 1 (.t 3)⟩),
(5, 31, ⟨some 41, some (39, true), .load false 1 (.t 40)⟩),
(6, 15, ⟨some 42, some (39, true), .move (.t 0)⟩),
(7, 79, ⟨some 43, some (39, true), .nilCheck (.t 42)⟩),
(8, 207, ⟨some 44, some (39, true), .fieldAddr 0 (.t 43)⟩),
(9, 463, ⟨some 45, some (39, true), .fieldAddr 1 (.t 44)⟩),
(10, 975, ⟨some 46, some (39, true), .load false 1 (.t 45)⟩),
(11, 1999, ⟨some 47, some (39, true), .bin .sub 3 (.t 46) (icA 1)⟩),
(12, 4095, ⟨some 48, some (39, true), clA 51 [(.t 41), (icA 0), (.t 47)]⟩),
(13, 8191, ⟨some 49, some (39, true), .un .not (.t 48)⟩),
(14, 16383, opA 50 (.pick (.t 39) (.t 49) (.c (.bool false)))),
(15, 32767, mvA 35 50)] (some [3, 5, 35]))
(.cond (.t 35)
(.seq (.ops [opA 4 (.move (icA 1))] (some [4]))
.ret)
(.seq (.seq (.ops [opA 52 (.fieldAddr 0 (.t 3)),
opA 53 (.load false 1 (.t 52)),
opA 54 (.bin .eql 3 (.t 53) (icA 3)),
mvA 55 54,
⟨some 56, some (55, true), .fieldAddr 2 (.t 3)⟩,
⟨some 57, some (55, true), .load false 1 (.t 56)⟩,
⟨some 58, some (55, true), .move (.t 5)⟩,
⟨some 59, some (55, true), clA 51 [(.t 57), (icA 0), (.t 58)]⟩,
⟨some 60, some (55, true), .un .not (.t 59)⟩,
opA 61 (.pick (.t 55) (.t 60) (.c (.bool false))),
mvA 51 61] (some [3, 5, 51]))
(.cond (.t 51)
.skip
(.ops [opA 62 (.fieldAddr 0 (.t 3)),
opA 63 (.load false 1 (.t 62)),
opA 64 (.bin .eql 3 (.t 63) (icA 4)),
mvA 65 64,
⟨some 66, some (65, true), .fieldAddr 2 (.t 3)⟩,
⟨some 67, some (65, true), .load false 1 (.t 66)⟩,
⟨some 68, some (65, true), .move (.t 5)⟩,
⟨some 69, some (65, true), clA 51 [(.t 67), (icA (-1)), (.t 68)]⟩,
⟨some 70, some (65, true), .un .not (.t 69)⟩,
opA 71 (.pick (.t 65) (.t 70) (.c (.bool false))),
mvA 51 71] (some [51]))))
(.cond (.t 51)
(.seq (.ops [opA 4 (.move (icA 1))] (some [4]))
.ret)
.skip)))))))))))
(.seq (.ops [opA 4 (.move (icA 0))] (some [4]))
.ret)))), [.tmp 4]⟩

theorem is40 : FnIs Tryz.prog 40 x40 := ⟨Tryz.f40, _, Tryz.func40, by kernel_rfl, rfl, by kernel_rfl, by decide, by kernel_rfl⟩

/-- (*cloisonne/desk.Desk).ask -/
def x41 : XDecl := .code ⟨2, 
(.seq (.ops [opA 3 (.box (.t 1)),
opA 4 (.move (icA 0)),
opA 5 (.move (.c (.string .empty))),
opA 6 (.move (icA 0))] (some [0, 3]))
(.seq (.opsr [mvA 11 0,
opA 12 (.nilCheck (.t 11)),
opA 13 (.fieldAddr 6 (.t 12)),
opA 14 (.load false 1 (.t 13)),
opA 15 (.nilCheck (.t 14)),
opA 16 (.fieldAddr 1 (.t 15)),
opA 17 (.load false 1 (.t 16)),
opA 18 (.fieldAddr 1 (.t 3)),
opA 19 (.load false 1 (.t 18)),
opA 20 (.indexAddr 1 (.t 17) (.t 19)),
opA 21 (.load false 1 (.t 20)),
mvA 7 21] (some [3, 7]))
(.seq (.seq (.ops [mvA 22 7,
opA 23 (clA 52 [(.t 22)])] (some [3, 7, 23]))
(.cond (.t 23)
(.seq (.ops [opA 4 (.move (icA 0)),
opA 5 (.move (.c (.string .empty))),
opA 6 (.move (icA 9))] (some [4, 5, 6]))
.ret)
.skip))
(.seq (.ops [opA 25 (.fieldAddr 3 (.t 3)),
opA 26 (.load false 1 (.t 25)),
opA 27 (clA 82 [(.t 26)]),
mvA 24 27,
opA 28 (.extract (.t 24) 0),
opA 29 (.extract (.t 24) 1),
opA 8 (.alloc [(.int .i64 0), (.int .i64 0), (.slice none 0 0), (.int .u64 0), (.bool false), (.int .i64 0), (.string .empty), (.bool false), (.string .empty), (.int .u64 0), (.string .empty), (.string .empty), (.int .i64 0), (.int .i64 0), (.slice none 0 0)]),
⟨none, none, .store 15 (.t 8) (.t 28)⟩,
mvA 9 29] (some [7, 8, 9]))
(.seq (.seq (.ops [mvA 30 9,
opA 31 (.bin .neq 32 (.t 30) (icA 0))] (some [7, 8, 9, 31]))
(.cond (.t 31)
(.seq (.ops [mvA 32 9,
opA 33 (.build [(.int .i64 0), (.int .u64 0), (.bool false), (.bool false), (.string .empty), (.int .u64 0), (.slice none 0 0), (.int .i64 0), (.int .u64 0), (.int .u64 0), (.int .u64 0), (.int .u64 0)] [(0, 1), (1, 1), (2, 1), (3, 3), (6, 1), (7, 5)] [(0, (.t 32))]),
opA 34 (clA 43 [(.t 33)]),
opA 35 (.extract (.t 34) 0),
opA 36 (.extract (.t 34) 1),
opA 37 (.extract (.t 34) 2),
mvA 4 35,
mvA 5 36,
mvA 6 37] (some [4, 5, 6]))
.ret)
.skip))
(.seq (.seq (.ops [mvA 38 7,
opA 39 (.load true 15 (.t 8)),
opA 40 (clA 83 [(.t 38), (.t 39)]),
mvA 10 40] (some [10]))
(.seq (.ops [mvA 41 10,
opA 42 (.bin .neq 32 (.t 41) (icA 0))] (some [10, 42]))
(.cond (.t 42)
(.seq (.ops [mvA 43 10,
opA 4 (.move (icA 0)),
opA 5 (.move (.c (.string .empty))),
mvA 6 43] (some [4, 5, 6]))
.ret)
.skip)))
(.seq (.ops [opA 4 (.move (icA 1)),
opA 5 (.move (.c (.string .empty))),
opA 6 (.move (icA 0))] (some [4, 5, 6]))
.ret))))))), [.tmp 4, .tmp 5, .tmp 6]⟩

theorem is41 : FnIs Tryz.prog 41 x41 := ⟨Tryz.f41, _, Tryz.func41, by kernel_rfl, rfl, by kernel_rfl, by decide, by kernel_rfl⟩

/-- (*cloisonne/desk.Desk).move -/
def x42 : XDecl := .code ⟨2, 
(.seq (.ops [opA 3 (.box (.t 1)),
opA 4 (.move (icA 0)),
opA 5 (.move (.c (.string .empty))),
opA 6 (.move (icA 0))] (some [0, 3]))
(.seq (.opsd [(0, 0, mvA 11 0),
(1, 1, opA 12 (.nilCheck (.t 11))),
(2, 3, opA 13 (.fieldAddr 6 (.t 12))),
(3, 7, opA 14 (.load false 1 (.t 13))),
(4, 15, opA 15 (.nilCheck (.t 14))),
(5, 31, opA 16 (.fieldAddr 1 (.t 15))),
(6, 63, opA 17 (.load false 1 (.t 16))),
(7, 0, opA 18 (.fieldAddr 1 (.t 3))),
(8, 128, opA 19 (.load false 1 (.t 18))),
(9, 511, opA 20 (.indexAddr 1 (.t 17) (.t 19))),
(10, 1023, opA 21 (.load false 1 (.t 20))),
(11, 0, mvA 22 0),
(12, 2048, opA 23 (.nilCheck (.t 22))),
(13, 6144, opA 24 (.fieldAddr 5 (.t 23))),
(14, 14336, opA 25 (.load false 1 (.t 24))),
(20, 0, opA 8 (.alloc [(.int .i64 0), (.int .u64 0), (.bool false), (.bool false), (.string .empty), (.int .u64 0), (.slice none 0 0), (.int .i64 0), (.int .u64 0), (.int .u64 0), (.int .u64 0), (.int .u64 0)])),
(15, 32767, opA 26 (clA 84 [(.t 21), (.t 25)])),
(16, 65535, mvA 10 26),
(17, 131071, opA 27 (.extract (.t 10) 0)),
(18, 131071, opA 28 (.extract (.t 10) 1)),
(19, 131071, opA 29 (.extract (.t 10) 2)),
(21, 1310719, mvA 7 27),
(22, 3670015, ⟨none, none, .store 12 (.t 8) (.t 28)⟩),
(23, 8388607, mvA 9 29)] (some [7, 8, 9]))
(.seq (.seq (.ops [mvA 30 9,
opA 31 (.bin .neq 32 (.t 30) (icA 0)),
mvA 32 31,
⟨some 33, some (32, false), .move (.t 7)⟩,
⟨some 34, some (32, false), .bin .neq 3 (.t 33) (icA 2)⟩,
opA 35 (.pick (.t 32) (.c (.bool true)) (.t 34))] (some [7, 8, 9, 35]))
(.cond (.t 35)
(.seq (.ops [mvA 36 7,
mvA 37 9,
mvA 4 36,
opA 5 (.move (.c (.string .empty))),
mvA 6 37] (some [4, 5, 6]))
.ret)
.skip))
(.seq (.ops [opA 38 (.load true 12 (.t 8)),
opA 39 (clA 43 [(.t 38)]),
opA 40 (.extract (.t 39) 0),
opA 41 (.extract (.t 39) 1),
opA 42 (.extract (.t 39) 2),
mvA 4 40,
mvA 5 41,
mvA 6 42] (some [4, 5, 6]))
.ret)))), [.tmp 4, .tmp 5, .tmp 6]⟩

theorem is42 : FnIs Tryz.prog 42 x42 := ⟨Tryz.f42, _, Tryz.func42, by kernel_rfl, rfl, by kernel_rfl, by decide, by kernel_rfl⟩

/-- cloisonne/desk.done -/
def x43 : XDecl := .code ⟨1, 
(.seq (.ops [opA 1 (.box (.t 0)),
opA 2 (.move (icA 0)),
opA 3 (.move (.c (.string .empty))),
opA 4 (.move (icA 0))] (some [1]))
(.seq (.ops [opA 8 (.load true 12 (.t 1)),
opA 9 (clA 85 [(.t 8)]),
mvA 7 9,
opA 10 (.extract (.t 7) 0),
opA 11 (.extract (.t 7) 1),
mvA 5 10,
mvA 6 11] (some [5, 6]))
(.seq (.seq (.ops [mvA 12 6,
opA 13 (.bin .neq 32 (.t 12) (icA 0))] (some [5, 6, 13]))
(.cond (.t 13)
(.seq (.ops [mvA 14 6,
opA 2 (.move (icA 0)),
opA 3 (.move (.c (.string .empty))),
mvA 4 14] (some [2, 3, 4]))
.ret)
.skip))
(.seq (.ops [mvA 15 5,
opA 2 (.move (icA 2)),
mvA 3 15,
opA 4 (.move (icA 0))] (some [2, 3, 4]))
.ret)))), [.tmp 2, .tmp 3, .tmp 4]⟩

theorem is43 : FnIs Tryz.prog 43 x43 := ⟨Tryz.f43, _, Tryz.func43, by kernel_rfl, rfl, by kernel_rfl, by decide, by kernel_rfl⟩

/-- (*cloisonne/vault.Vault).Room -/
def x44 : XDecl := .code ⟨2, 
(.seq (.ops [opA 4 (.move (.c (.pointer none)))] (some [0, 1]))
(.seq (.seq (.ops [mvA 5 0,
opA 6 (.isNil .ptr false (.t 5)),
mvA 7 6,
⟨some 8, some (7, false), .move (.t 1)⟩,
⟨some 9, some (7, false), .move (.t 0)⟩,
⟨some 10, some (7, false), .nilCheck (.t 9)⟩,
⟨some 11, some (7, false), .fieldAddr 6 (.t 10)⟩,
⟨some 12, some (7, false), .load false 1 (.t 11)⟩,
⟨some 13, some (7, false), .len (.t 12)⟩,
⟨some 14, some (7, false), .bin .sub 3 (.t 13) (icA 1)⟩,
⟨some 15, some (7, false), clA 86 [(.t 8), (icA 0), (.t 14)]⟩,
⟨some 16, some (7, false), .un .not (.t 15)⟩,
opA 17 (.pick (.t 7) (.c (.bool true)) (.t 16))] (some [0, 1, 17]))
(.cond (.t 17)
(.seq (.ops [opA 4 (.move (.c (.pointer none)))] (some [4]))
.ret)
.skip))
(.seq (.ops [mvA 18 0,
opA 19 (.nilCheck (.t 18)),
opA 20 (.fieldAddr 6 (.t 19)),
opA 21 (.load false 1 (.t 20)),
mvA 22 1,
opA 23 (.indexAddr 1 (.t 21) (.t 22)),
opA 24 (.load false 1 (.t 23)),
mvA 4 24] (some [4]))
.ret))), [.tmp 4]⟩

theorem is44 : FnIs Tryz.prog 44 x44 := ⟨Tryz.f44, _, Tryz.func44, by kernel_rfl, rfl, by kernel_rfl, by decide, by kernel_rfl⟩

/-- cloisonne/desk.begin -/
def x49 : XDecl := .code ⟨2, 
(.seq (.ops [opA 2 (.box (.t 0)),
opA 4 (.move (.c (.pointer none))),
opA 5 (.move (icA 0))] (some [1, 2]))
(.seq (.ops [opA 13 (.load true 4 (.t 2)),
mvA 14 1,
opA 15 (clA 99 [(.t 13), (.t 14)]),
mvA 12 15,
opA 16 (.extract (.t 12) 0),
opA 17 (.extract (.t 12) 1),
mvA 6 16,
mvA 7 17] (some [2, 6, 7]))
(.seq (.seq (.ops [mvA 18 7,
opA 19 (.bin .neq 32 (.t 18) (icA 0))] (some [2, 6, 7, 19]))
(.cond (.t 19)
(.seq (.ops [mvA 20 7,
opA 4 (.move (.c (.pointer none))),
mvA 5 20] (some [4, 5]))
.ret)
.skip))
(.seq (.ops [mvA 21 6,
opA 22 (.makeMap),
opA 23 (.build [(.pointer none), (.slice none 0 0), (.map none)] [(0, 1), (1, 1), (2, 1)] [(0, (.t 21)), (2, (.t 22))]),
opA 24 (.box (.t 23)),
mvA 8 24] (some [2, 6, 8]))
(.seq (.seq (.ops [opA 25 (.fieldAddr 1 (.t 2)),
opA 26 (.load false 1 (.t 25)),
opA 27 (.move (icA 0))] (some [6, 8, 26, 27]))
(.block 0
(.loop
(.seq (.ops [opA 28 (.bin .lss 3 (.t 27) (.t 26))] (some [6, 8, 26, 27, 28]))
(.seq (.cond (.t 28)
.skip
(.exit 0))
(.seq (.block 1
(.seq (.ops [mvA 29 27,
mvA 9 29] (some [6, 8, 9, 26, 27]))
(.seq (.ops [mvA 31 6,
mvA 32 9,
opA 33 (clA 100 [(.t 31), (.t 32)]),
mvA 30 33,
opA 34 (.extract (.t 30) 0),
opA 35 (.extract (.t 30) 1),
mvA 10 34,
mvA 11 35] (some [6, 8, 10, 11, 26, 27]))
(.seq (.seq (.ops [mvA 36 11,
opA 37 (.bin .neq 32 (.t 36) (icA 0))] (some [6, 8, 10, 11, 26, 27, 37]))
(.cond (.t 37)
(.seq (.ops [mvA 38 11,
opA 4 (.move (.c (.pointer none))),
mvA 5 38] (some [4, 5]))
.ret)
.skip))
(.ops [mvA 39 8,
mvA 40 8,
opA 41 (.nilCheck (.t 40)),
opA 42 (.fieldAddr 1 (.t 41)),
opA 43 (.load false 1 (.t 42)),
mvA 44 10,
opA 45 (.buildSlice [(.pointer none)] 1 1 [(0, (.t 44))]),
opA 46 (.append 1 8 [(.pointer none)] (.t 43) (.t 45)),
opA 47 (.nilCheck (.t 39)),
opA 48 (.fieldAddr 1 (.t 47)),
⟨none, none, .store 1 (.t 48) (.t 46)⟩] (some [6, 8, 26, 27]))))))
(.ops [opA 49 (.bin .add 3 (.t 27) (icA 1)),
mvA 27 49] (some [6, 8, 26, 27]))))))))
(.seq (.ops [mvA 50 8,
mvA 4 50,
opA 5 (.move (icA 0))] (some [4, 5]))
.ret)))))), [.tmp 4, .tmp 5]⟩

theorem is49 : FnIs Tryz.prog 49 x49 := ⟨Tryz.f49, _, Tryz.func49, by kernel_rfl, rfl, by kernel_rfl, by decide, by kernel_rfl⟩

/-- (*cloisonne/vault.Vault).Setup -/
def x50 : XDecl := .code ⟨1, 
(.seq (.ops [opA 2 (.alloc [(.int .i64 0), (.int .i64 0), (.int .i64 0), (.slice none 0 0)])] (some [0, 2]))
(.seq (.seq (.ops [mvA 3 0,
opA 4 (.isNil .ptr false (.t 3))] (some [0, 2, 4]))
(.cond (.t 4)
(.seq (.ops [opA 5 (.build [(.int .i64 0), (.int .i64 0), (.int .i64 0), (.slice none 0 0)] [(0, 1), (1, 1), (2, 1), (3, 1)] []),
⟨none, none, .store 4 (.t 2) (.t 5)⟩] (some [2]))
.ret)
.skip))
(.seq (.ops [mvA 6 0,
opA 7 (.nilCheck (.t 6)),
opA 8 (.fieldAddr 0 (.t 7)),
opA 9 (.load true 4 (.t 8)),
opA 10 (clA 101 [(.t 9)]),
⟨none, none, .store 4 (.t 2) (.t 10)⟩] (some [2]))
.ret))), [.cell true 4 2]⟩

theorem is50 : FnIs Tryz.prog 50 x50 := ⟨Tryz.f50, _, Tryz.func50, by kernel_rfl, rfl, by kernel_rfl, by decide, by kernel_rfl⟩

/-- cloisonne/desk.within -/
def x51 : XDecl := .code ⟨3, 
(.seq (.ops [opA 6 (.move (.c (.bool false)))] (some [0, 1, 2]))
(.seq (.ops [mvA 7 0,
mvA 8 1,
opA 9 (.bin .geq 3 (.t 7) (.t 8)),
mvA 10 9,
⟨some 11, some (10, true), .move (.t 0)⟩,
⟨some 12, some (10, true), .move (.t 2)⟩,
⟨some 13, some (10, true), .bin .leq 3 (.t 11) (.t 12)⟩,
opA 14 (.pick (.t 10) (.t 13) (.c (.bool false))),
mvA 6 14] (some [6]))
.ret)), [.tmp 6]⟩

theorem is51 : FnIs Tryz.prog 51 x51 := ⟨Tryz.f51, _, Tryz.func51, by kernel_rfl, rfl, by kernel_rfl, by decide, by kernel_rfl⟩

/-- (*cloisonne/sess.Session).Pending -/
def x52 : XDecl := .code ⟨1, 
(.seq (.ops [opA 2 (.move (.c (.bool false)))] (some [0]))
(.seq (.ops [mvA 3 0,
opA 4 (.isNil .ptr true (.t 3)),
mvA 5 4,
⟨some 6, some (5, true), .move (.t 0)⟩,
⟨some 7, some (5, true), .nilCheck (.t 6)⟩,
⟨some 8, some (5, true), .fieldAddr 7 (.t 7)⟩,
⟨some 9, some (5, true), .load false 1 (.t 8)⟩,
⟨some 10, some (5, true), .isNil .ptr true (.t 9)⟩,
opA 11 (.pick (.t 5) (.t 10) (.c (.bool false))),
mvA 2 11] (some [2]))
.ret)), [.tmp 2]⟩

theorem is52 : FnIs Tryz.prog 52 x52 := ⟨Tryz.f52, _, Tryz.func52, by kernel_rfl, rfl, by kernel_rfl, by decide, by kernel_rfl⟩

/-- cloisonne/cloisonneref20.Pack -/
def x54 : XDecl := .code ⟨1, 
(.seq (.ops [opA 1 (.box (.t 0)),
opA 2 (.move (.c (.string .empty)))] (some [1]))
(.seq (.ops [opA 6 (.fieldAddr 0 (.t 1)),
opA 7 (.load false 1 (.t 6)),
opA 8 (.conv 3 5 (.t 7)),
opA 9 (.buildSlice [(.int .u8 0)] 1 1 [(0, (.t 8))]),
opA 10 (.bstr (.t 9)),
mvA 3 10] (some [1, 3]))
(.seq (.ops [opA 11 (.fieldAddr 0 (.t 1)),
opA 12 (.load false 1 (.t 11)),
mvA 4 12] (some [1, 3, 4]))
(.seq (.seq (.ops [mvA 13 4,
opA 14 (.bin .eql 3 (.t 13) (icA 1)),
mvA 15 14,
⟨some 16, some (15, false), .move (.t 4)⟩,
⟨some 17, some (15, false), .bin .eql 3 (.t 16) (icA 6)⟩,
opA 18 (.pick (.t 15) (.c (.bool true)) (.t 17))] (some [1, 3, 4, 18]))
(.cond (.t 18)
(.ops [mvA 19 3,
opA 20 (.fieldAddr 1 (.t 1)),
opA 21 (.load false 1 (.t 20)),
opA 22 (.conv 3 77 (.t 21)),
opA 23 (clA 102 [(.t 22)]),
opA 24 (.bin .add 9 (.t 19) (.t 23)),
mvA 3 24] (some [1, 3, 4]))
.skip))
(.seq (.seq (.ops [mvA 25 4,
opA 26 (.bin .eql 3 (.t 25) (icA 3)),
mvA 27 26,
⟨some 28, some (27, false), .move (.t 4)⟩,
⟨some 29, some (27, false), .bin .eql 3 (.t 28) (icA 11)⟩,
opA 30 (.pick (.t 27) (.c (.bool true)) (.t 29)),
mvA 31 30,
⟨some 32, some (31, false), .move (.t 4)⟩,
⟨some 33, some (31, false), .bin .eql 3 (.t 32) (icA 17)⟩,
opA 34 (.pick (.t 31) (.c (.bool true)) (.t 33))] (some [1, 3, 4, 34]))
(.cond (.t 34)
(.ops [mvA 35 3,
opA 36 (.fieldAddr 2 (.t 1)),
opA 37 (.load false 1 (.t 36)),
opA 38 (clA 103 [(.t 37)]),
opA 39 (.bin .add 9 (.t 35) (.t 38)),
mvA 3 39] (some [1, 3, 4]))
.skip))
(.seq (.seq (.ops [mvA 40 4,
opA 41 (.bin .eql 3 (.t 40) (icA 4)),
mvA 42 41,
⟨some 43, some (42, false), .move (.t 4)⟩,
⟨some 44, some (42, false), .bin .eql 3 (.t 43) (icA 6)⟩,
opA 45 (.pick (.t 42) (.c (.bool true)) (.t 44))] (some [1, 3, 4, 45]))
(.cond (.t 45)
(.ops [mvA 46 3,
opA 47 (.fieldAddr 3 (.t 1)),
opA 48 (.load false 1 (.t 47)),
opA 49 (clA 102 [(.t 48)]),
opA 50 (.bin .add 9 (.t 46) (.t 49)),
mvA 3 50] (some [1, 3, 4]))
.skip))
(.seq (.seq (.ops [mvA 51 4,
opA 52 (.bin .eql 3 (.t 51) (icA 6))] (some [1, 3, 4, 52]))
(.cond (.t 52)
(.ops [mvA 53 3,
opA 54 (.fieldAddr 4 (.t 1)),
opA 55 (.load false 1 (.t 54)),
opA 56 (clA 104 [(.t 55)]),
opA 57 (.bin .add 9 (.t 53) (.t 56)),
mvA 3 57] (some [1, 3, 4]))
.skip))
(.seq (.seq (.ops [mvA 58 4,
opA 59 (.bin .geq 3 (.t 58) (icA 8)),
mvA 60 59,
⟨some 61, some (60, true), .move (.t 4)⟩,
⟨some 62, some (60, true), .bin .leq 3 (.t 61) (icA 10)⟩,
opA 63 (.pick (.t 60) (.t 62) (.c (.bool false))),
mvA 64 63,
⟨some 65, some (64, false), .move (.t 4)⟩,
⟨some 66, some (64, false), .bin .eql 3 (.t 65) (icA 16)⟩,
opA 67 (.pick (.t 64) (.c (.bool true)) (.t 66))] (some [1, 3, 4, 67]))
(.cond (.t 67)
(.opsd [(0, 0, mvA 68 3),
(1, 0, opA 69 (.fieldAddr 5 (.t 1))),
(2, 2, opA 70 (.load false 1 (.t 69))),
(3, 6, opA 71 (.conv 3 77 (.t 70))),
(6, 0, opA 74 (.fieldAddr 6 (.t 1))),
(7, 64, opA 75 (.load false 1 (.t 74))),
(4, 14, opA 72 (clA 102 [(.t 71)])),
(5, 31, opA 73 (.bin .add 9 (.t 68) (.t 72))),
(8, 222, opA 76 (clA 105 [(.t 75)])),
(9, 511, opA 77 (.bin .add 9 (.t 73) (.t 76))),
(10, 1023, mvA 3 77)] (some [1, 3, 4]))
.skip))
(.seq (.seq (.ops [mvA 78 4,
opA 79 (.bin .eql 3 (.t 78) (icA 9))] (some [1, 3, 4, 79]))
(.cond (.t 79)
(.ops [mvA 80 3,
opA 81 (.fieldAddr 7 (.t 1)),
opA 82 (.load true 3 (.t 81)),
opA 83 (clA 106 [(.t 82)]),
opA 84 (clA 105 [(.t 83)]),
opA 85 (.bin .add 9 (.t 80) (.t 84)),
mvA 3 85] (some [1, 3, 4]))
.skip))
(.seq (.seq (.ops [mvA 86 4,
opA 87 (.bin .eql 3 (.t 86) (icA 11)),
mvA 88 87,
⟨some 89, some (88, false), .move (.t 4)⟩,
⟨some 90, some (88, false), .bin .eql 3 (.t 89) (icA 17)⟩,
opA 91 (.pick (.t 88) (.c (.bool true)) (.t 90))] (some [1, 3, 4, 91]))
(.cond (.t 91)
(.opsd [(0, 0, mvA 92 3),
(1, 0, opA 93 (.fieldAddr 10 (.t 1))),
(2, 2, opA 94 (.fieldAddr 0 (.t 93))),
(3, 6, opA 95 (.load false 1 (.t 94))),
(6, 0, opA 98 (.fieldAddr 10 (.t 1))),
(7, 64, opA 99 (.fieldAddr 1 (.t 98))),
(8, 192, opA 100 (.load false 1 (.t 99))),
(11, 0, opA 103 (.fieldAddr 10 (.t 1))),
(12, 2048, opA 104 (.fieldAddr 2 (.t 103))),
(13, 6144, opA 105 (.load false 1 (.t 104))),
(14, 14336, opA 106 (.conv 3 77 (.t 105))),
(4, 14, opA 96 (clA 105 [(.t 95)])),
(5, 31, opA 97 (.bin .add 9 (.t 92) (.t 96))),
(9, 478, opA 101 (clA 105 [(.t 100)])),
(10, 1023, opA 102 (.bin .add 9 (.t 97) (.t 101))),
(15, 31710, opA 107 (clA 102 [(.t 106)])),
(16, 65535, opA 108 (.bin .add 9 (.t 102) (.t 107))),
(17, 131071, mvA 3 108)] (some [1, 3, 4]))
.skip))
(.seq (.seq (.ops [mvA 109 4,
opA 110 (.bin .eql 3 (.t 109) (icA 13))] (some [1, 3, 4, 110]))
(.cond (.t 110)
(.ops [mvA 111 3,
opA 112 (.fieldAddr 13 (.t 1)),
opA 113 (.load false 1 (.t 112)),
opA 114 (.conv 3 77 (.t 113)),
opA 115 (clA 102 [(.t 114)]),
opA 116 (.bin .add 9 (.t 111) (.t 115)),
mvA 3 116] (some [1, 3, 4]))
.skip))
(.seq (.seq (.ops [mvA 117 4,
opA 118 (.bin .eql 3 (.t 117) (icA 16))] (some [1, 3, 118]))
(.cond (.t 118)
(.seq (.ops [mvA 119 3,
opA 120 (.fieldAddr 14 (.t 1)),
opA 121 (.load false 1 (.t 120)),
opA 122 (.len (.t 121)),
opA 123 (.conv 3 77 (.t 122)),
opA 124 (clA 102 [(.t 123)]),
opA 125 (.bin .add 9 (.t 119) (.t 124)),
mvA 3 125] (some [1, 3]))
(.seq (.ops [opA 5 (.move (icA 0))] (some [1, 3, 5]))
(.block 0
(.loop
(.seq (.seq (.ops [mvA 126 5,
opA 127 (.fieldAddr 14 (.t 1)),
opA 128 (.load false 1 (.t 127)),
opA 129 (.len (.t 128)),
opA 130 (.bin .lss 3 (.t 126) (.t 129))] (some [1, 3, 5, 130]))
(.cond (.t 130)
.skip
(.exit 0)))
(.seq (.block 1
(.opsd [(0, 0, mvA 133 3),
(1, 0, opA 134 (.fieldAddr 14 (.t 1))),
(2, 2, opA 135 (.load false 1 (.t 134))),
(3, 0, mvA 136 5),
(4, 14, opA 137 (.indexAddr 2 (.t 135) (.t 136))),
(5, 30, opA 138 (.fieldAddr 0 (.t 137))),
(6, 62, opA 139 (.load false 1 (.t 138))),
(7, 126, opA 140 (.conv 3 77 (.t 139))),
(10, 0, opA 143 (.fieldAddr 14 (.t 1))),
(11, 1024, opA 144 (.load false 1 (.t 143))),
(12, 0, mvA 145 5),
(13, 7168, opA 146 (.indexAddr 2 (.t 144) (.t 145))),
(14, 15360, opA 147 (.fieldAddr 1 (.t 146))),
(15, 31744, opA 148 (.load false 1 (.t 147))),
(8, 254, opA 141 (clA 102 [(.t 140)])),
(9, 511, opA 142 (.bin .add 9 (.t 133) (.t 141))),
(16, 65022, opA 149 (clA 102 [(.t 148)])),
(17, 131071, opA 150 (.bin .add 9 (.t 142) (.t 149))),
(18, 262143, mvA 3 150)] (some [1, 3, 5])))
(.ops [mvA 131 5,
opA 132 (.bin .add 3 (.t 131) (icA 1)),
mvA 5 132] (some [1, 3, 5]))))))))
.skip))
(.seq (.ops [mvA 151 3,
mvA 2 151] (some [2]))
.ret))))))))))))), [.tmp 2]⟩

theorem is54 : FnIs Tryz.prog 54 x54 := ⟨Tryz.f54, _, Tryz.func54, by kernel_rfl, rfl, by kernel_rfl, by decide, by kernel_rfl⟩

/-- cloisonne/watch.till -/
def x58 : XDecl := .code ⟨2, 
(.seq (.ops [opA 3 (.box (.t 1)),
opA 4 (.move (.c (.string .empty))),
opA 5 (.move (icA 0))] (some [0, 3]))
(.block 0
(.loop
(.block 1
(.seq (.ops [mvA 10 0,
opA 11 (.load true 5 (.t 3)),
opA 12 (clA 9 [(.t 10), (.t 11)]),
mvA 9 12,
opA 13 (.extract (.t 9) 0),
opA 14 (.extract (.t 9) 1),
opA 15 (.extract (.t 9) 2),
mvA 6 13,
mvA 7 14,
mvA 8 15] (some [0, 3, 6, 7, 8]))
(.block 2
(.seq (.ops [mvA 17 8,
opA 18 (.bin .neq 32 (.t 17) (icA 0)),
mvA 16 18] (some [0, 3, 6, 7, 8, 16]))
(.cond (.t 16)
(.seq (.ops [mvA 19 8,
opA 4 (.move (.c (.string .empty))),
mvA 5 19] (some [4, 5]))
.ret)
(.seq (.ops [mvA 21 6,
opA 22 (.bin .eql 3 (.t 21) (icA 2)),
mvA 20 22] (some [0, 3, 6, 7, 20]))
(.cond (.t 20)
(.seq (.ops [mvA 23 7,
mvA 4 23,
opA 5 (.move (icA 0))] (some [4, 5]))
.ret)
(.seq (.ops [mvA 25 6,
opA 26 (.bin .eql 3 (.t 25) (icA 3)),
mvA 24 26] (some [0, 3, 24]))
(.cond (.t 24)
(.seq (.ops [opA 4 (.move (.c (.string .empty))),
opA 5 (.move (icA 9))] (some [4, 5]))
.ret)
.skip)))))))))))), [.tmp 4, .tmp 5]⟩

theorem is58 : FnIs Tryz.prog 58 x58 := ⟨Tryz.f58, _, Tryz.func58, by kernel_rfl, rfl, by kernel_rfl, by decide, by kernel_rfl⟩

/-- cmp.Compare[int] -/
def x62 : XDecl := .code ⟨2, 
(.seq (.ops [opA 4 (.move (icA 0))] (some [0, 1]))
(.seq (.ops [mvA 7 0,
opA 8 (clA 109 [(.t 7)]),
mvA 5 8] (some [0, 1, 5]))
(.seq (.ops [mvA 9 1,
opA 10 (clA 109 [(.t 9)]),
mvA 6 10] (some [0, 1, 5, 6]))
(.seq (.seq (.ops [mvA 11 5] (some [0, 1, 6, 11]))
(.cond (.t 11)
(.seq (.seq (.ops [mvA 12 6] (some [12]))
(.cond (.t 12)
(.seq (.ops [opA 4 (.move (icA 0))] (some [4]))
.ret)
.skip))
(.seq (.ops [opA 4 (.move (icA (-1)))] (some [4]))
.ret))
.skip))
(.seq (.seq (.ops [mvA 13 6] (some [0, 1, 13]))
(.cond (.t 13)
(.seq (.ops [opA 4 (.move (icA 1))] (some [4]))
.ret)
.skip))
(.seq (.seq (.ops [mvA 14 0,
mvA 15 1,
opA 16 (.bin .lss 3 (.t 14) (.t 15))] (some [0, 1, 16]))
(.cond (.t 16)
(.seq (.ops [opA 4 (.move (icA (-1)))] (some [4]))
.ret)
.skip))
(.seq (.seq (.ops [mvA 17 0,
mvA 18 1,
opA 19 (.bin .gtr 3 (.t 17) (.t 18))] (some [19]))
(.cond (.t 19)
(.seq (.ops [opA 4 (.move (icA 1))] (some [4]))
.ret)
.skip))
(.seq (.ops [opA 4 (.move (icA 0))] (some [4]))
.ret)))))))), [.tmp 4]⟩

theorem is62 : FnIs Tryz.prog 62 x62 := ⟨Tryz.f62, _, Tryz.func62, by kernel_rfl, rfl, by kernel_rfl, by decide, by kernel_rfl⟩

/-- cloisonne/ferry.fit -/
def x66 : XDecl := .code ⟨4, 
 (.seq (.ops [⟨(some 8), none, .move (.c (.int .i64 0))⟩] (some [0, 1, 2, 3]))
 (.seq (.block 0
  (.seq (.ops [⟨(some 10), none, .move (.t 0)⟩,
    ⟨(some 11), none, .isNil .ptr false (.t 10)⟩,
    ⟨(some 9), none, .move (.t 11)⟩] (some [0, 1, 2, 3, 9]))
  (.cond (.t 9)
   (.seq (.ops [⟨(some 8), none, .move (.c (.int .i64 2))⟩] (some [8]))
   .ret)
   (.seq (.ops [⟨(some 13), none, .move (.t 0)⟩,
     ⟨(some 14), none, .move (.t 1)⟩,
     ⟨(some 15), none, .call (.c (.func (.func 34) #[] #[])) [(.t 13), (.t 14)]⟩,
     ⟨(some 16), none, .un .not (.t 15)⟩,
     ⟨(some 12), none, .move (.t 16)⟩] (some [0, 2, 3, 12]))
   (.cond (.t 12)
    (.seq (.ops [⟨(some 8), none, .move (.c (.int .i64 9))⟩] (some [8]))
    .ret)
    (.seq (.ops [⟨(some 18), none, .move (.t 0)⟩,
      ⟨(some 19), none, .call (.c (.func (.func 14) #[] #[])) [(.t 18)]⟩,
      ⟨(some 20), none, .move (.t 2)⟩,
      ⟨(some 21), none, .call (.c (.func (.func 44) #[] #[])) [(.t 19), (.t 20)]⟩,
      ⟨(some 22), none, .isNil .ptr false (.t 21)⟩,
      ⟨(some 23), none, .move (.t 22)⟩,
      ⟨(some 24), (some (23, false)), .move (.t 3)⟩,
      ⟨(some 25), (some (23, false)), .un .not (.t 24)⟩,
      ⟨(some 26), none, .pick (.t 23) (.c (.bool true)) (.t 25)⟩,
      ⟨(some 17), none, .move (.t 26)⟩] (some [17]))
    (.cond (.t 17)
     (.seq (.ops [⟨(some 8), none, .move (.c (.int .i64 1))⟩] (some [8]))
     .ret)
     .skip)))))))
 (.seq (.ops [⟨(some 8), none, .move (.c (.int .i64 0))⟩] (some [8]))
 .ret))), [.tmp 8]⟩

theorem is66 : FnIs Tryz.prog 66 x66 := ⟨Tryz.f66, _, Tryz.func66, by kernel_rfl, rfl, by kernel_rfl, by decide, by kernel_rfl⟩

/-- (*cloisonne/ferry.boat).out -/
def x67 : XDecl := .code ⟨3, 
(.seq (.ops [opA 6 (.move (.c (.slice none 0 0)))] (some [0, 1, 2]))
(.seq (.ops [opA 7 (.move (.c (.slice none 0 0)))] (some [0, 1, 2, 7]))
(.seq (.ops [mvA 13 0,
opA 14 (.build [(.int .i64 0), (.int .i64 0), (.slice none 0 0), (.int .u64 0), (.bool false), (.int .i64 0), (.string .empty), (.bool false), (.string .empty), (.int .u64 0), (.string .empty), (.string .empty), (.int .i64 0), (.int .i64 0), (.slice none 0 0)] [(0, 1), (1, 1), (2, 1), (3, 1), (4, 1), (5, 1), (6, 1), (7, 3), (10, 3), (13, 1), (14, 1)] [(0, (icA 7))]),
opA 15 (clA 111 [(.t 13), (.t 14)])] (some [0, 1, 2, 7]))
(.seq (.ops [opA 8 (.move (.c (.string .empty)))] (some [0, 1, 2, 7, 8]))
(.seq (.block 0
(.loop
(.seq (.seq (.ops [mvA 16 0,
opA 17 (.nilCheck (.t 16)),
opA 18 (.fieldAddr 2 (.t 17)),
opA 19 (.load false 1 (.t 18)),
opA 20 (.bin .eql 32 (.t 19) (icA 0))] (some [0, 1, 2, 7, 8, 20]))
(.cond (.t 20)
.skip
(.exit 0)))
(.block 1
(.seq (.ops [mvA 21 0,
mvA 22 1,
mvA 23 8,
mvA 24 2,
opA 25 (clA 112 [(.t 21), (.t 22), (.t 23), (.t 24)]),
mvA 9 25] (some [0, 1, 2, 7, 9]))
(.seq (.seq (.ops [mvA 26 9,
opA 27 (.len (.t 26)),
opA 28 (.move (icA 0))] (some [0, 1, 2, 7, 9, 26, 27, 28]))
(.block 2
(.loop
(.seq (.ops [opA 29 (.bin .lss 3 (.t 28) (.t 27))] (some [0, 1, 2, 7, 9, 26, 27, 28, 29]))
(.seq (.cond (.t 29)
.skip
(.exit 2))
(.seq (.block 3
(.seq (.ops [opA 30 (.indexAddr 5 (.t 26) (.t 28)),
opA 31 (.load true 5 (.t 30)),
opA 11 (.alloc [(.int .i64 0), (.string .empty), (.bool false), (.string .empty), (.int .u64 0)]),
⟨none, none, .store 5 (.t 11) (.t 31)⟩] (some [0, 1, 2, 7, 9, 11, 26, 27, 28]))
(.seq (.ops [opA 32 (.fieldAddr 0 (.t 11)),
opA 33 (.load false 1 (.t 32)),
mvA 34 1,
opA 35 (.bin .eql 3 (.t 33) (.t 34))] (some [0, 1, 2, 7, 9, 11, 26, 27, 28, 35]))
(.cond (.t 35)
(.ops [mvA 36 7,
opA 37 (.fieldAddr 1 (.t 11)),
opA 38 (.load false 1 (.t 37)),
opA 39 (.fieldAddr 2 (.t 11)),
opA 40 (.load true 3 (.t 39)),
opA 41 (.build [(.string .empty), (.int .i64 0), (.bool false), (.string .empty), (.int .u64 0)] [(0, 1), (1, 1), (2, 3)] [(0, (.t 38)), (1, (icA 1)), (2, (.t 40))]),
opA 42 (.buildSlice [(.string .empty), (.int .i64 0), (.bool false), (.string .empty), (.int .u64 0)] 5 1 [(0, (.t 41))]),
opA 43 (.append 5 56 [(.string .empty), (.int .i64 0), (.bool false), (.string .empty), (.int .u64 0)] (.t 36) (.t 42)),
mvA 7 43] (some [0, 1, 2, 7, 9, 26, 27, 28]))
.skip))))
(.ops [opA 44 (.bin .add 3 (.t 28) (icA 1)),
mvA 28 44] (some [0, 1, 2, 7, 9, 26, 27, 28]))))))))
(.seq (.seq (.ops [mvA 45 9,
opA 46 (.len (.t 45)),
mvA 47 2,
opA 48 (.bin .lss 3 (.t 46) (.t 47))] (some [0, 1, 2, 7, 9, 48]))
(.cond (.t 48)
(.exit 0)
.skip))
(.seq (.ops [mvA 49 9,
mvA 50 9,
opA 51 (.len (.t 50)),
opA 52 (.bin .sub 3 (.t 51) (icA 1)),
opA 53 (.indexAddr 5 (.t 49) (.t 52)),
opA 54 (.load true 5 (.t 53)),
opA 12 (.alloc [(.int .i64 0), (.string .empty), (.bool false), (.string .empty), (.int .u64 0)]),
⟨none, none, .store 5 (.t 12) (.t 54)⟩] (some [0, 1, 2, 7, 12]))
(.seq (.ops [mvA 55 7,
mvA 56 0,
mvA 57 1,
opA 58 (.load true 5 (.t 12)),
opA 59 (clA 113 [(.t 56), (.t 57), (.t 58)]),
opA 60 (.append 5 56 [(.string .empty), (.int .i64 0), (.bool false), (.string .empty), (.int .u64 0)] (.t 55) (.t 59)),
mvA 7 60] (some [0, 1, 2, 7, 12]))
(.ops [opA 61 (.fieldAddr 1 (.t 12)),
opA 62 (.load false 1 (.t 61)),
opA 63 (.bin .add 9 (.t 62) (.c (.string ⟨#[0]⟩))),
mvA 8 63] (some [0, 1, 2, 7, 8])))))))))))
(.seq (.ops [mvA 64 0,
opA 65 (clA 114 [(.t 64)])] (some [7]))
(.seq (.ops [mvA 66 7,
mvA 6 66] (some [6]))
.ret))))))), [.tmp 6]⟩

theorem is67 : FnIs Tryz.prog 67 x67 := ⟨Tryz.f67, _, Tryz.func67, by kernel_rfl, rfl, by kernel_rfl, by decide, by kernel_rfl⟩

/-- cloisonne/diff.Right -/
def x68 : XDecl := .code ⟨1, 
 (.seq (.ops [⟨(some 2), none, .move (.c (.bool false))⟩] (some [0]))
 (.seq (.seq (.ops [⟨(some 5), none, .move (.t 0)⟩,
   ⟨(some 6), none, .len (.t 5)⟩,
   ⟨(some 7), none, .move (.c (.int .i64 0))⟩] (some [0, 5, 6, 7]))
 (.block 0
  (.loop
   (.seq (.ops [⟨(some 8), none, .bin .lss 3 (.t 7) (.t 6)⟩] (some [0, 5, 6, 7, 8]))
   (.seq (.cond (.t 8)
    .skip
    (.exit 0))
   (.seq (.block 1
    (.seq (.ops [⟨(some 9), none, .move (.t 7)⟩,
      ⟨(some 10), none, .indexAddr 5 (.t 5) (.t 7)⟩,
      ⟨(some 11), none, .load true 5 (.t 10)⟩,
      ⟨(some 4), none, .alloc [(.string .empty), (.int .i64 0), (.bool false), (.string .empty), (.int .u64 0)]⟩,
      ⟨(some 3), none, .move (.t 9)⟩,
      ⟨none, none, .store 5 (.t 4) (.t 11)⟩] (some [0, 3, 4, 5, 6, 7]))
    (.seq (.opsd [(0, 0, ⟨(some 12), none, .fieldAddr 0 (.t 4)⟩),
      (1, 1, ⟨(some 13), none, .load false 1 (.t 12)⟩),
      (2, 3, ⟨(some 14), none, .call (.c (.func (.func 115) #[] #[])) [(.t 13)]⟩),
      (3, 7, ⟨(some 15), none, .un .not (.t 14)⟩),
      (4, 15, ⟨(some 16), none, .move (.t 15)⟩),
      (5, 31, ⟨(some 17), (some (16, false)), .fieldAddr 2 (.t 4)⟩),
      (6, 63, ⟨(some 18), (some (16, false)), .load true 3 (.t 17)⟩),
      (7, 127, ⟨(some 19), (some (16, false)), .call (.c (.func (.func 116) #[] #[])) [(.t 18)]⟩),
      (8, 255, ⟨(some 20), (some (16, false)), .un .not (.t 19)⟩),
      (9, 511, ⟨(some 21), none, .pick (.t 16) (.c (.bool true)) (.t 20)⟩),
      (10, 1023, ⟨(some 22), none, .move (.t 21)⟩),
      (11, 2047, ⟨(some 23), (some (22, false)), .fieldAddr 1 (.t 4)⟩),
      (12, 4095, ⟨(some 24), (some (22, false)), .load false 1 (.t 23)⟩),
      (13, 8191, ⟨(some 25), (some (22, false)), .bin .lss 3 (.t 24) (.c (.int .i64 1))⟩),
      (14, 16383, ⟨(some 26), none, .pick (.t 22) (.c (.bool true)) (.t 25)⟩),
      (15, 32767, ⟨(some 27), none, .move (.t 26)⟩),
      (16, 65535, ⟨(some 28), (some (27, false)), .move (.t 3)⟩),
      (17, 131071, ⟨(some 29), (some (27, false)), .bin .gtr 3 (.t 28) (.c (.int .i64 0))⟩),
      (18, 262143, ⟨(some 30), (some (27, false)), .move (.t 29)⟩),
      (19, 524287, ⟨(some 31), (some (30, true)), .move (.t 0)⟩),
      (20, 524287, ⟨(some 32), (some (30, true)), .move (.t 3)⟩),
      (21, 1572863, ⟨(some 33), (some (30, true)), .bin .sub 3 (.t 32) (.c (.int .i64 1))⟩),
      (22, 4194303, ⟨(some 34), (some (30, true)), .indexAddr 5 (.t 31) (.t 33)⟩),
      (23, 8388607, ⟨(some 35), (some (30, true)), .fieldAddr 0 (.t 34)⟩),
      (24, 16777215, ⟨(some 36), (some (30, true)), .load false 1 (.t 35)⟩),
      (25, 524287, ⟨(some 37), (some (30, true)), .fieldAddr 0 (.t 4)⟩),
      (26, 34078719, ⟨(some 38), (some (30, true)), .load false 1 (.t 37)⟩),
      (27, 134217727, ⟨(some 39), (some (30, true)), .bin .geq 9 (.t 36) (.t 38)⟩),
      (28, 268435455, ⟨(some 40), (some (27, false)), .pick (.t 30) (.t 39) (.c (.bool false))⟩),
      (29, 536870911, ⟨(some 41), none, .pick (.t 27) (.c (.bool true)) (.t 40)⟩)] (some [0, 5, 6, 7, 41]))
    (.cond (.t 41)
     (.seq (.ops [⟨(some 2), none, .move (.c (.bool false))⟩] (some [2]))
     .ret)
     .skip))))
   (.ops [⟨(some 42), none, .bin .add 3 (.t 7) (.c (.int .i64 1))⟩,
     ⟨(some 7), none, .move (.t 42)⟩] (some [0, 5, 6, 7]))))))))
 (.seq (.ops [⟨(some 2), none, .move (.c (.bool true))⟩] (some [2]))
 .ret))), [.tmp 2]⟩

theorem is68 : FnIs Tryz.prog 68 x68 := ⟨Tryz.f68, _, Tryz.func68, by kernel_rfl, rfl, by kernel_rfl, by decide, by kernel_rfl⟩

/-- cloisonne/diff.Writes -/
def x69 : XDecl := .code ⟨2, 
(.seq (.ops [opA 4 (.move (.c (.slice none 0 0))),
opA 5 (.move (icA 0))] (some [0, 1]))
(.seq (.seq (.ops [mvA 11 0,
opA 12 (clA 68 [(.t 11)]),
opA 13 (.un .not (.t 12)),
mvA 14 13,
⟨some 15, some (14, false), .move (.t 1)⟩,
⟨some 16, some (14, false), clA 68 [(.t 15)]⟩,
⟨some 17, some (14, false), .un .not (.t 16)⟩,
opA 18 (.pick (.t 14) (.c (.bool true)) (.t 17))] (some [0, 1, 18]))
(.cond (.t 18)
(.seq (.ops [opA 4 (.move (.c (.slice none 0 0))),
opA 5 (.move (icA 1))] (some [4, 5]))
.ret)
.skip))
(.seq (.ops [opA 6 (.move (.c (.slice none 0 0)))] (some [0, 1, 6]))
(.seq (.seq (.ops [mvA 19 0,
mvA 20 1,
opA 21 (.buildSlice [(.slice none 0 0)] 1 2 [(0, (.t 19)), (1, (.t 20))]),
opA 22 (clA 117 [(.t 21)]),
opA 23 (.len (.t 22)),
opA 24 (.move (icA 0))] (some [0, 1, 6, 22, 23, 24]))
(.block 0
(.loop
(.seq (.ops [opA 25 (.bin .lss 3 (.t 24) (.t 23))] (some [0, 1, 6, 22, 23, 24, 25]))
(.seq (.cond (.t 25)
.skip
(.exit 0))
(.seq (.block 1
(.seq (.ops [opA 26 (.indexAddr 1 (.t 22) (.t 24)),
opA 27 (.load false 1 (.t 26)),
mvA 8 27] (some [0, 1, 6, 8, 22, 23, 24]))
(.seq (.ops [mvA 29 0,
mvA 30 1,
mvA 31 8,
opA 32 (clA 118 [(.t 29), (.t 30), (.t 31)]),
mvA 28 32,
opA 33 (.extract (.t 28) 0),
opA 34 (.extract (.t 28) 1),
opA 9 (.alloc [(.string .empty), (.bool false), (.bool false), (.string .empty), (.int .u64 0)]),
⟨none, none, .store 5 (.t 9) (.t 33)⟩,
mvA 10 34] (some [0, 1, 6, 9, 10, 22, 23, 24]))
(.seq (.ops [mvA 35 10] (some [0, 1, 6, 9, 22, 23, 24, 35]))
(.cond (.t 35)
(.ops [mvA 36 6,
opA 37 (.load true 5 (.t 9)),
opA 38 (.buildSlice [(.string .empty), (.bool false), (.bool false), (.string .empty), (.int .u64 0)] 5 1 [(0, (.t 37))]),
opA 39 (.append 5 56 [(.string .empty), (.bool false), (.bool false), (.string .empty), (.int .u64 0)] (.t 36) (.t 38)),
mvA 6 39] (some [0, 1, 6, 22, 23, 24]))
.skip)))))
(.ops [opA 40 (.bin .add 3 (.t 24) (icA 1)),
mvA 24 40] (some [0, 1, 6, 22, 23, 24]))))))))
(.seq (.ops [mvA 41 6,
mvA 4 41,
opA 5 (.move (icA 0))] (some [4, 5]))
.ret))))), [.tmp 4, .tmp 5]⟩

theorem is69 : FnIs Tryz.prog 69 x69 := ⟨Tryz.f69, _, Tryz.func69, by kernel_rfl, rfl, by kernel_rfl, by decide, by kernel_rfl⟩

/-- cloisonne/diff.Split -/
def x70 : XDecl := .code ⟨1, 
(.seq (.ops [opA 2 (.move (.c (.slice none 0 0)))] (some [0]))
(.seq (.ops [opA 3 (.move (.c (.slice none 0 0)))] (some [0, 3]))
(.seq (.block 0
(.loop
(.seq (.seq (.ops [mvA 4 0,
opA 5 (.len (.t 4)),
opA 6 (.bin .gtr 3 (.t 5) (icA 16))] (some [0, 3, 6]))
(.cond (.t 6)
.skip
(.exit 0)))
(.block 1
(.seq (.ops [mvA 7 3,
mvA 8 0,
opA 9 (.slice 5 (.t 8) none (some (icA 16)) none),
opA 10 (clA 119 [(.t 9)]),
opA 11 (.buildSlice [(.slice none 0 0)] 1 1 [(0, (.t 10))]),
opA 12 (.append 1 24 [(.slice none 0 0)] (.t 7) (.t 11)),
mvA 3 12] (some [0, 3]))
(.ops [mvA 13 0,
opA 14 (.slice 5 (.t 13) (some (icA 16)) none none),
mvA 0 14] (some [0, 3])))))))
(.seq (.seq (.ops [mvA 15 0,
opA 16 (.len (.t 15)),
opA 17 (.bin .gtr 3 (.t 16) (icA 0))] (some [0, 3, 17]))
(.cond (.t 17)
(.ops [mvA 18 3,
mvA 19 0,
opA 20 (clA 119 [(.t 19)]),
opA 21 (.buildSlice [(.slice none 0 0)] 1 1 [(0, (.t 20))]),
opA 22 (.append 1 24 [(.slice none 0 0)] (.t 18) (.t 21)),
mvA 3 22] (some [3]))
.skip))
(.seq (.ops [mvA 23 3,
mvA 2 23] (some [2]))
.ret))))), [.tmp 2]⟩

theorem is70 : FnIs Tryz.prog 70 x70 := ⟨Tryz.f70, _, Tryz.func70, by kernel_rfl, rfl, by kernel_rfl, by decide, by kernel_rfl⟩

/-- (*cloisonne/ferry.boat).write -/
def x71 : XDecl := .code ⟨3, 
(.seq (.ops [opA 6 (.move (.c (.bool false)))] (some [0, 1, 2]))
(.seq (.ops [mvA 10 0,
opA 11 (.build [(.int .i64 0), (.int .i64 0), (.slice none 0 0), (.int .u64 0), (.bool false), (.int .i64 0), (.string .empty), (.bool false), (.string .empty), (.int .u64 0), (.string .empty), (.string .empty), (.int .i64 0), (.int .i64 0), (.slice none 0 0)] [(0, 1), (1, 1), (2, 1), (3, 1), (4, 1), (5, 1), (6, 1), (7, 3), (10, 3), (13, 1), (14, 1)] [(0, (icA 7))]),
opA 12 (clA 111 [(.t 10), (.t 11)])] (some [0, 1, 2]))
(.seq (.seq (.ops [mvA 13 2,
opA 14 (.len (.t 13)),
opA 15 (.move (icA 0))] (some [0, 1, 13, 14, 15]))
(.block 0
(.loop
(.seq (.ops [opA 16 (.bin .lss 3 (.t 15) (.t 14))] (some [0, 1, 13, 14, 15, 16]))
(.seq (.cond (.t 16)
.skip
(.exit 0))
(.seq (.block 1
(.seq (.ops [opA 17 (.indexAddr 5 (.t 13) (.t 15)),
opA 18 (.load true 5 (.t 17)),
opA 8 (.alloc [(.string .empty), (.bool false), (.bool false), (.string .empty), (.int .u64 0)]),
⟨none, none, .store 5 (.t 8) (.t 18)⟩] (some [0, 1, 8, 13, 14, 15]))
(.seq (.ops [mvA 19 1,
opA 20 (.fieldAddr 0 (.t 8)),
opA 21 (.load false 1 (.t 20)),
opA 22 (.fieldAddr 2 (.t 8)),
opA 23 (.load true 3 (.t 22)),
opA 24 (.build [(.int .i64 0), (.int .i64 0), (.slice none 0 0), (.int .u64 0), (.bool false), (.int .i64 0), (.string .empty), (.bool false), (.string .empty), (.int .u64 0), (.string .empty), (.string .empty), (.int .i64 0), (.int .i64 0), (.slice none 0 0)] [(0, 1), (1, 1), (2, 1), (3, 1), (4, 1), (5, 1), (6, 1), (7, 3), (10, 3), (13, 1), (14, 1)] [(0, (icA 9)), (5, (.t 19)), (6, (.t 21)), (7, (.t 23))]),
opA 9 (.alloc [(.int .i64 0), (.int .i64 0), (.slice none 0 0), (.int .u64 0), (.bool false), (.int .i64 0), (.string .empty), (.bool false), (.string .empty), (.int .u64 0), (.string .empty), (.string .empty), (.int .i64 0), (.int .i64 0), (.slice none 0 0)]),
⟨none, none, .store 15 (.t 9) (.t 24)⟩] (some [0, 1, 8, 9, 13, 14, 15]))
(.seq (.seq (.ops [opA 25 (.fieldAddr 1 (.t 8)),
opA 26 (.load false 1 (.t 25))] (some [0, 1, 8, 9, 13, 14, 15, 26]))
(.cond (.t 26)
(.ops [mvA 27 1,
opA 28 (.fieldAddr 0 (.t 8)),
opA 29 (.load false 1 (.t 28)),
opA 30 (.build [(.int .i64 0), (.int .i64 0), (.slice none 0 0), (.int .u64 0), (.bool false), (.int .i64 0), (.string .empty), (.bool false), (.string .empty), (.int .u64 0), (.string .empty), (.string .empty), (.int .i64 0), (.int .i64 0), (.slice none 0 0)] [(0, 1), (1, 1), (2, 1), (3, 1), (4, 1), (5, 1), (6, 1), (7, 3), (10, 3), (13, 1), (14, 1)] [(0, (icA 10)), (5, (.t 27)), (6, (.t 29))]),
⟨none, none, .store 15 (.t 9) (.t 30)⟩] (some [0, 1, 9, 13, 14, 15]))
.skip))
(.ops [mvA 31 0,
opA 32 (.load true 15 (.t 9)),
opA 33 (clA 111 [(.t 31), (.t 32)])] (some [0, 1, 13, 14, 15]))))))
(.ops [opA 34 (.bin .add 3 (.t 15) (icA 1)),
mvA 15 34] (some [0, 1, 13, 14, 15]))))))))
(.seq (.ops [mvA 35 0,
opA 36 (.build [(.int .i64 0), (.int .i64 0), (.slice none 0 0), (.int .u64 0), (.bool false), (.int .i64 0), (.string .empty), (.bool false), (.string .empty), (.int .u64 0), (.string .empty), (.string .empty), (.int .i64 0), (.int .i64 0), (.slice none 0 0)] [(0, 1), (1, 1), (2, 1), (3, 1), (4, 1), (5, 1), (6, 1), (7, 3), (10, 3), (13, 1), (14, 1)] [(0, (icA 14))]),
opA 37 (clA 111 [(.t 35), (.t 36)])] (some [0]))
(.seq (.ops [mvA 38 0,
opA 39 (clA 114 [(.t 38)])] (some [0]))
(.seq (.ops [mvA 40 0,
opA 41 (.nilCheck (.t 40)),
opA 42 (.fieldAddr 2 (.t 41)),
opA 43 (.load false 1 (.t 42)),
opA 44 (.bin .eql 32 (.t 43) (icA 0)),
mvA 6 44] (some [6]))
.ret)))))), [.tmp 6]⟩

theorem is71 : FnIs Tryz.prog 71 x71 := ⟨Tryz.f71, _, Tryz.func71, by kernel_rfl, rfl, by kernel_rfl, by decide, by kernel_rfl⟩

/-- (*cloisonne/sess.Session).Busy -/
def x72 : XDecl := .code ⟨1, 
(.seq (.ops [opA 2 (.move (.c (.bool false)))] (some [0]))
(.seq (.ops [mvA 3 0,
opA 4 (.isNil .ptr true (.t 3)),
mvA 5 4,
⟨some 6, some (5, true), .move (.t 0)⟩,
⟨some 7, some (5, true), .nilCheck (.t 6)⟩,
⟨some 8, some (5, true), .fieldAddr 6 (.t 7)⟩,
⟨some 9, some (5, true), .load false 1 (.t 8)⟩,
⟨some 10, some (5, true), .isNil .ptr true (.t 9)⟩,
opA 11 (.pick (.t 5) (.t 10) (.c (.bool false))),
mvA 2 11] (some [2]))
.ret)), [.tmp 2]⟩

theorem is72 : FnIs Tryz.prog 72 x72 := ⟨Tryz.f72, _, Tryz.func72, by kernel_rfl, rfl, by kernel_rfl, by decide, by kernel_rfl⟩

/-- cloisonne/cloisonneref18.Right -/
def x73 : XDecl := .code ⟨1, 
(.seq (.ops [opA 1 (.box (.t 0)),
opA 2 (.move (.c (.bool false)))] (some [1]))
(.seq (.seq (.ops [opA 5 (.fieldAddr 0 (.t 1)),
opA 6 (.load false 1 (.t 5)),
opA 7 (.bin .lss 3 (.t 6) (icA 1)),
mvA 8 7,
⟨some 9, some (8, false), .fieldAddr 0 (.t 1)⟩,
⟨some 10, some (8, false), .load false 1 (.t 9)⟩,
⟨some 11, some (8, false), .bin .gtr 3 (.t 10) (icA 8)⟩,
opA 12 (.pick (.t 8) (.c (.bool true)) (.t 11)),
mvA 13 12,
⟨some 14, some (13, false), .fieldAddr 1 (.t 1)⟩,
⟨some 15, some (13, false), .load false 1 (.t 14)⟩,
⟨some 16, some (13, false), .bin .lss 3 (.t 15) (icA 1)⟩,
opA 17 (.pick (.t 13) (.c (.bool true)) (.t 16)),
mvA 18 17,
⟨some 19, some (18, false), .fieldAddr 1 (.t 1)⟩,
⟨some 20, some (18, false), .load false 1 (.t 19)⟩,
⟨some 21, some (18, false), .bin .gtr 3 (.t 20) (icA 16)⟩,
opA 22 (.pick (.t 18) (.c (.bool true)) (.t 21)),
mvA 23 22,
⟨some 24, some (23, false), .fieldAddr 2 (.t 1)⟩,
⟨some 25, some (23, false), .load false 1 (.t 24)⟩,
⟨some 26, some (23, false), .bin .lss 3 (.t 25) (icA 1)⟩,
opA 27 (.pick (.t 23) (.c (.bool true)) (.t 26)),
mvA 28 27,
⟨some 29, some (28, false), .fieldAddr 2 (.t 1)⟩,
⟨some 30, some (28, false), .load false 1 (.t 29)⟩,
⟨some 31, some (28, false), .bin .gtr 3 (.t 30) (icA 128)⟩,
opA 32 (.pick (.t 28) (.c (.bool true)) (.t 31)),
mvA 33 32,
⟨some 34, some (33, false), .fieldAddr 3 (.t 1)⟩,
⟨some 35, some (33, false), .load false 1 (.t 34)⟩,
⟨some 36, some (33, false), .len (.t 35)⟩,
⟨some 37, some (33, false), .bin .gtr 3 (.t 36) (icA 8)⟩,
opA 38 (.pick (.t 33) (.c (.bool true)) (.t 37))] (some [1, 38]))
(.cond (.t 38)
(.seq (.ops [opA 2 (.move (.c (.bool false)))] (some [2]))
.ret)
.skip))
(.seq (.seq (.ops [opA 3 (.move (icA 0))] (some [1, 3]))
(.block 0
(.loop
(.seq (.seq (.ops [mvA 39 3,
opA 40 (.fieldAddr 3 (.t 1)),
opA 41 (.load false 1 (.t 40)),
opA 42 (.len (.t 41)),
opA 43 (.bin .lss 3 (.t 39) (.t 42))] (some [1, 3, 43]))
(.cond (.t 43)
.skip
(.exit 0)))
(.seq (.block 1
(.seq (.seq (.ops [opA 46 (.fieldAddr 3 (.t 1)),
opA 47 (.load false 1 (.t 46)),
mvA 48 3,
opA 49 (.indexAddr 4 (.t 47) (.t 48)),
opA 50 (.load true 4 (.t 49)),
opA 51 (clA 120 [(.t 50)]),
opA 52 (.un .not (.t 51))] (some [1, 3, 52]))
(.cond (.t 52)
(.seq (.ops [opA 2 (.move (.c (.bool false)))] (some [2]))
.ret)
.skip))
(.seq (.ops [opA 4 (.move (icA 0))] (some [1, 3, 4]))
(.block 2
(.loop
(.seq (.seq (.ops [mvA 53 4,
mvA 54 3,
opA 55 (.bin .lss 3 (.t 53) (.t 54))] (some [1, 3, 4, 55]))
(.cond (.t 55)
.skip
(.exit 2)))
(.seq (.block 3
(.seq (.opsd [(0, 0, opA 58 (.fieldAddr 3 (.t 1))),
(1, 1, opA 59 (.load false 1 (.t 58))),
(2, 0, mvA 60 3),
(3, 7, opA 61 (.indexAddr 4 (.t 59) (.t 60))),
(4, 15, opA 62 (.fieldAddr 0 (.t 61))),
(5, 31, opA 63 (.load false 1 (.t 62))),
(6, 0, opA 64 (.fieldAddr 3 (.t 1))),
(7, 64, opA 65 (.load false 1 (.t 64))),
(8, 0, mvA 66 4),
(9, 448, opA 67 (.indexAddr 4 (.t 65) (.t 66))),
(10, 960, opA 68 (.fieldAddr 0 (.t 67))),
(11, 1984, opA 69 (.load false 1 (.t 68))),
(12, 4095, opA 70 (clA 121 [(.t 63), (.t 69)]))] (some [1, 3, 4, 70]))
(.cond (.t 70)
(.seq (.ops [opA 2 (.move (.c (.bool false)))] (some [2]))
.ret)
.skip)))
(.ops [mvA 56 4,
opA 57 (.bin .add 3 (.t 56) (icA 1)),
mvA 4 57] (some [1, 3, 4])))))))))
(.ops [mvA 44 3,
opA 45 (.bin .add 3 (.t 44) (icA 1)),
mvA 3 45] (some [1, 3])))))))
(.seq (.ops [opA 2 (.move (.c (.bool true)))] (some [2]))
.ret)))), [.tmp 2]⟩

theorem is73 : FnIs Tryz.prog 73 x73 := ⟨Tryz.f73, _, Tryz.func73, by kernel_rfl, rfl, by kernel_rfl, by decide, by kernel_rfl⟩

/-- cloisonne/ask.must -/
def x75 : XDecl := .code ⟨1, 
(.seq (.ops [mvA 2 0,
opA 3 (.un .not (.t 2))] (some [3]))
(.cond (.t 3)
(.ops [opA 4 (.build [] [] []),
opA 5 (.makeIface 222 (.t 4)),
⟨none, none, .fail⟩] (some []))
.skip)), []⟩

theorem is75 : FnIs Tryz.prog 75 x75 := ⟨Tryz.f75, _, Tryz.func75, by kernel_rfl, rfl, by kernel_rfl, by decide, by kernel_rfl⟩

/-- cloisonne/ask.Right -/
def x76 : XDecl := .code ⟨1, 
(.seq (.ops [opA 1 (.box (.t 0)),
opA 2 (.move (.c (.bool false)))] (some [1]))
(.seq (.ops [opA 5 (.fieldAddr 0 (.t 1)),
opA 6 (.load false 1 (.t 5)),
opA 7 (clA 79 [(.t 6)]),
mvA 3 7] (some [1, 3]))
(.seq (.seq (.ops [opA 4 (.move (icA 0))] (some [1, 3, 4]))
(.block 0
(.loop
(.seq (.seq (.ops [mvA 8 4,
opA 9 (.bin .leq 160 (.t 8) (icA 9))] (some [1, 3, 4, 9]))
(.cond (.t 9)
.skip
(.exit 0)))
(.seq (.block 1
(.seq (.ops [mvA 12 3,
mvA 13 4,
opA 14 (clA 122 [(.t 12), (.t 13)]),
mvA 15 14,
⟨some 16, some (15, true), .load true 15 (.t 1)⟩,
⟨some 17, some (15, true), .move (.t 4)⟩,
⟨some 18, some (15, true), clA 123 [(.t 16), (.t 17)]⟩,
⟨some 19, some (15, true), .un .not (.t 18)⟩,
opA 20 (.pick (.t 15) (.t 19) (.c (.bool false))),
mvA 21 20,
⟨some 22, some (21, false), .move (.t 3)⟩,
⟨some 23, some (21, false), .move (.t 4)⟩,
⟨some 24, some (21, false), clA 122 [(.t 22), (.t 23)]⟩,
⟨some 25, some (21, false), .un .not (.t 24)⟩,
⟨some 26, some (21, false), .move (.t 25)⟩,
⟨some 27, some (26, true), .load true 15 (.t 1)⟩,
⟨some 28, some (26, true), .move (.t 4)⟩,
⟨some 29, some (26, true), clA 124 [(.t 27), (.t 28)]⟩,
⟨some 30, some (26, true), .un .not (.t 29)⟩,
⟨some 31, some (21, false), .pick (.t 26) (.t 30) (.c (.bool false))⟩,
opA 32 (.pick (.t 21) (.c (.bool true)) (.t 31))] (some [1, 3, 4, 32]))
(.cond (.t 32)
(.seq (.ops [opA 2 (.move (.c (.bool false)))] (some [2]))
.ret)
.skip)))
(.ops [mvA 10 4,
opA 11 (.bin .add 160 (.t 10) (icA 1)),
mvA 4 11] (some [1, 3, 4])))))))
(.seq (.ops [opA 33 (.fieldAddr 0 (.t 1)),
opA 34 (.load false 1 (.t 33)),
opA 35 (clA 125 [(.t 34), (icA 1), (icA 17)]),
mvA 2 35] (some [2]))
.ret)))), [.tmp 2]⟩

theorem is76 : FnIs Tryz.prog 76 x76 := ⟨Tryz.f76, _, Tryz.func76, by kernel_rfl, rfl, by kernel_rfl, by decide, by kernel_rfl⟩

/-- cloisonne/ask.tell -/
def x77 : XDecl := .code ⟨2, 
(.seq (.ops [opA 4 (.move (.c (.string .empty)))] (some [0, 1]))
(.seq (.ops [mvA 8 0,
mvA 9 1,
opA 10 (clA 126 [(.t 8), (.t 9)]),
mvA 7 10,
opA 11 (.extract (.t 7) 0),
opA 12 (.extract (.t 7) 1),
mvA 5 11,
mvA 6 12] (some [5, 6]))
(.seq (.ops [mvA 13 6,
opA 14 (.bin .eql 32 (.t 13) (icA 0)),
opA 15 (clA 75 [(.t 14)])] (some [5]))
(.seq (.ops [mvA 16 5,
mvA 4 16] (some [4]))
.ret)))), [.tmp 4]⟩

theorem is77 : FnIs Tryz.prog 77 x77 := ⟨Tryz.f77, _, Tryz.func77, by kernel_rfl, rfl, by kernel_rfl, by decide, by kernel_rfl⟩

/-- cloisonne/ask.number -/
def x78 : XDecl := .code ⟨1, 
(.seq (.ops [opA 2 (.alloc [(.int .u64 0), (.string .empty), (.slice none 0 0), (.slice none 0 0)])] (some [0, 2]))
(.seq (.ops [mvA 3 0,
opA 4 (.conv 3 77 (.t 3)),
opA 5 (.build [(.int .u64 0), (.string .empty), (.slice none 0 0), (.slice none 0 0)] [(0, 1), (1, 1), (2, 1), (3, 1)] [(0, (.t 4))]),
⟨none, none, .store 4 (.t 2) (.t 5)⟩] (some [2]))
.ret)), [.cell true 4 2]⟩

theorem is78 : FnIs Tryz.prog 78 x78 := ⟨Tryz.f78, _, Tryz.func78, by kernel_rfl, rfl, by kernel_rfl, by decide, by kernel_rfl⟩

/-- cloisonne/ask.fields -/
def x79 : XDecl := .code ⟨1, 
(.seq (.ops [opA 2 (.move (.c (.slice none 0 0)))] (some [0]))
(.seq (.seq (.ops [mvA 3 0] (some [3]))
(.block 0
(.seq (.ops [opA 5 (.bin .eql 3 (.t 3) (icA 1)),
mvA 4 5] (some [3, 4]))
(.cond (.t 4)
(.seq (.ops [opA 6 (.buildSlice [(.int .i64 0)] 1 1 [(0, (icA 0))]),
mvA 2 6] (some [2]))
.ret)
(.seq (.ops [opA 8 (.bin .eql 3 (.t 3) (icA 3)),
mvA 7 8] (some [3, 7]))
(.cond (.t 7)
(.seq (.ops [opA 9 (.buildSlice [(.int .i64 0)] 1 1 [(0, (icA 1))]),
mvA 2 9] (some [2]))
.ret)
(.seq (.ops [opA 11 (.bin .eql 3 (.t 3) (icA 4)),
mvA 10 11] (some [3, 10]))
(.cond (.t 10)
(.seq (.ops [opA 12 (.buildSlice [(.int .i64 0)] 1 1 [(0, (icA 2))]),
mvA 2 12] (some [2]))
.ret)
(.seq (.ops [opA 14 (.bin .eql 3 (.t 3) (icA 6)),
mvA 13 14] (some [3, 13]))
(.cond (.t 13)
(.seq (.ops [opA 15 (.buildSlice [(.int .i64 0)] 1 3 [(0, (icA 0)), (1, (icA 2)), (2, (icA 3))]),
mvA 2 15] (some [2]))
.ret)
(.seq (.seq (.ops [opA 17 (.bin .eql 3 (.t 3) (icA 8)),
mvA 16 17] (some [3, 16]))
(.cond (.t 16)
.skip
(.ops [opA 18 (.bin .eql 3 (.t 3) (icA 10)),
mvA 16 18] (some [3, 16]))))
(.cond (.t 16)
(.seq (.ops [opA 19 (.buildSlice [(.int .i64 0)] 1 2 [(0, (icA 4)), (1, (icA 5))]),
mvA 2 19] (some [2]))
.ret)
(.seq (.ops [opA 21 (.bin .eql 3 (.t 3) (icA 9)),
mvA 20 21] (some [3, 20]))
(.cond (.t 20)
(.seq (.ops [opA 22 (.buildSlice [(.int .i64 0)] 1 3 [(0, (icA 4)), (1, (icA 5)), (2, (icA 6))]),
mvA 2 22] (some [2]))
.ret)
(.seq (.seq (.ops [opA 24 (.bin .eql 3 (.t 3) (icA 11)),
mvA 23 24] (some [3, 23]))
(.cond (.t 23)
.skip
(.ops [opA 25 (.bin .eql 3 (.t 3) (icA 17)),
mvA 23 25] (some [3, 23]))))
(.cond (.t 23)
(.seq (.ops [opA 26 (.buildSlice [(.int .i64 0)] 1 2 [(0, (icA 1)), (1, (icA 7))]),
mvA 2 26] (some [2]))
.ret)
(.seq (.ops [opA 28 (.bin .eql 3 (.t 3) (icA 13)),
mvA 27 28] (some [3, 27]))
(.cond (.t 27)
(.seq (.ops [opA 29 (.buildSlice [(.int .i64 0)] 1 1 [(0, (icA 8))]),
mvA 2 29] (some [2]))
.ret)
(.seq (.ops [opA 31 (.bin .eql 3 (.t 3) (icA 16)),
mvA 30 31] (some [30]))
(.cond (.t 30)
(.seq (.ops [opA 32 (.buildSlice [(.int .i64 0)] 1 3 [(0, (icA 4)), (1, (icA 5)), (2, (icA 9))]),
mvA 2 32] (some [2]))
.ret)
.skip))))))))))))))))))))
(.seq (.ops [opA 2 (.move (.c (.slice none 0 0)))] (some [2]))
.ret))), [.tmp 2]⟩

theorem is79 : FnIs Tryz.prog 79 x79 := ⟨Tryz.f79, _, Tryz.func79, by kernel_rfl, rfl, by kernel_rfl, by decide, by kernel_rfl⟩

/-- cloisonne/ask.put -/
def x80 : XDecl := .code ⟨2, 
(.seq (.ops [opA 2 (.box (.t 0)),
opA 4 (.move (.c (.string .empty)))] (some [1, 2]))
(.seq (.seq (.ops [mvA 8 1] (some [2, 8]))
(.block 0
(.seq (.ops [opA 10 (.bin .eql 160 (.t 8) (icA 0)),
mvA 9 10] (some [2, 8, 9]))
(.cond (.t 9)
(.seq (.ops [opA 11 (.fieldAddr 1 (.t 2)),
opA 12 (.load false 1 (.t 11)),
opA 13 (clA 78 [(.t 12)]),
opA 14 (.buildSlice [(.int .u64 0), (.string .empty), (.slice none 0 0), (.slice none 0 0)] 4 1 [(0, (.t 13))]),
opA 15 (clA 77 [(.c (.string ⟨#[110]⟩)), (.t 14)]),
mvA 4 15] (some [4]))
.ret)
(.seq (.ops [opA 17 (.bin .eql 160 (.t 8) (icA 1)),
mvA 16 17] (some [2, 8, 16]))
(.cond (.t 16)
(.seq (.ops [opA 18 (.fieldAddr 2 (.t 2)),
opA 19 (.load false 1 (.t 18)),
opA 20 (.build [(.int .u64 0), (.string .empty), (.slice none 0 0), (.slice none 0 0)] [(0, 1), (1, 1), (2, 1), (3, 1)] [(2, (.t 19))]),
opA 21 (.buildSlice [(.int .u64 0), (.string .empty), (.slice none 0 0), (.slice none 0 0)] 4 1 [(0, (.t 20))]),
opA 22 (clA 77 [(.c (.string ⟨#[108]⟩)), (.t 21)]),
mvA 4 22] (some [4]))
.ret)
(.seq (.ops [opA 24 (.bin .eql 160 (.t 8) (icA 2)),
mvA 23 24] (some [2, 8, 23]))
(.cond (.t 23)
(.seq (.ops [opA 25 (.fieldAddr 3 (.t 2)),
opA 26 (.load false 1 (.t 25)),
opA 27 (.build [(.int .u64 0), (.string .empty), (.slice none 0 0), (.slice none 0 0)] [(0, 1), (1, 1), (2, 1), (3, 1)] [(0, (.t 26))]),
opA 28 (.buildSlice [(.int .u64 0), (.string .empty), (.slice none 0 0), (.slice none 0 0)] 4 1 [(0, (.t 27))]),
opA 29 (clA 77 [(.c (.string ⟨#[110]⟩)), (.t 28)]),
mvA 4 29] (some [4]))
.ret)
(.seq (.ops [opA 31 (.bin .eql 160 (.t 8) (icA 3)),
mvA 30 31] (some [2, 8, 30]))
(.cond (.t 30)
(.seq (.ops [opA 32 (.fieldAddr 4 (.t 2)),
opA 33 (.load false 1 (.t 32)),
opA 34 (clA 127 [(.t 33)]),
opA 35 (.buildSlice [(.int .u64 0), (.string .empty), (.slice none 0 0), (.slice none 0 0)] 4 1 [(0, (.t 34))]),
opA 36 (clA 77 [(.c (.string ⟨#[98]⟩)), (.t 35)]),
mvA 4 36] (some [4]))
.ret)
(.seq (.ops [opA 38 (.bin .eql 160 (.t 8) (icA 4)),
mvA 37 38] (some [2, 8, 37]))
(.cond (.t 37)
(.seq (.ops [opA 39 (.fieldAddr 5 (.t 2)),
opA 40 (.load false 1 (.t 39)),
opA 41 (clA 78 [(.t 40)]),
opA 42 (.buildSlice [(.int .u64 0), (.string .empty), (.slice none 0 0), (.slice none 0 0)] 4 1 [(0, (.t 41))]),
opA 43 (clA 77 [(.c (.string ⟨#[110]⟩)), (.t 42)]),
mvA 4 43] (some [4]))
.ret)
(.seq (.ops [opA 45 (.bin .eql 160 (.t 8) (icA 5)),
mvA 44 45] (some [2, 8, 44]))
(.cond (.t 44)
(.seq (.ops [opA 46 (.fieldAddr 6 (.t 2)),
opA 47 (.load false 1 (.t 46)),
opA 48 (clA 128 [(.t 47)]),
opA 49 (.buildSlice [(.int .u64 0), (.string .empty), (.slice none 0 0), (.slice none 0 0)] 4 1 [(0, (.t 48))]),
opA 50 (clA 77 [(.c (.string ⟨#[116]⟩)), (.t 49)]),
mvA 4 50] (some [4]))
.ret)
(.seq (.ops [opA 52 (.bin .eql 160 (.t 8) (icA 6)),
mvA 51 52] (some [2, 8, 51]))
(.cond (.t 51)
(.seq (.ops [opA 53 (.fieldAddr 7 (.t 2)),
opA 54 (.load true 3 (.t 53)),
opA 55 (clA 129 [(.t 54)]),
opA 56 (.buildSlice [(.int .u64 0), (.string .empty), (.slice none 0 0), (.slice none 0 0)] 4 1 [(0, (.t 55))]),
opA 57 (clA 77 [(.c (.string ⟨#[116]⟩)), (.t 56)]),
mvA 4 57] (some [4]))
.ret)
(.seq (.ops [opA 59 (.bin .eql 160 (.t 8) (icA 7)),
mvA 58 59] (some [2, 8, 58]))
(.cond (.t 58)
(.seq (.opsd [(0, 0, opA 60 (.fieldAddr 10 (.t 2))),
(1, 1, opA 61 (.fieldAddr 0 (.t 60))),
(2, 3, opA 62 (.load false 1 (.t 61))),
(4, 0, opA 64 (.fieldAddr 10 (.t 2))),
(5, 16, opA 65 (.fieldAddr 1 (.t 64))),
(6, 48, opA 66 (.load false 1 (.t 65))),
(8, 0, opA 68 (.fieldAddr 10 (.t 2))),
(9, 256, opA 69 (.fieldAddr 2 (.t 68))),
(10, 768, opA 70 (.load false 1 (.t 69))),
(3, 7, opA 63 (clA 128 [(.t 62)])),
(7, 127, opA 67 (clA 128 [(.t 66)])),
(11, 2047, opA 71 (clA 78 [(.t 70)])),
(12, 4095, opA 72 (.buildSlice [(.int .u64 0), (.string .empty), (.slice none 0 0), (.slice none 0 0)] 4 3 [(0, (.t 63)), (1, (.t 67)), (2, (.t 71))])),
(13, 8191, opA 73 (clA 77 [(.c (.string ⟨#[116, 116, 110]⟩)), (.t 72)])),
(14, 16383, mvA 4 73)] (some [4]))
.ret)
(.seq (.ops [opA 75 (.bin .eql 160 (.t 8) (icA 8)),
mvA 74 75] (some [2, 74]))
(.cond (.t 74)
(.seq (.ops [opA 76 (.fieldAddr 13 (.t 2)),
opA 77 (.load false 1 (.t 76)),
opA 78 (clA 78 [(.t 77)]),
opA 79 (.buildSlice [(.int .u64 0), (.string .empty), (.slice none 0 0), (.slice none 0 0)] 4 1 [(0, (.t 78))]),
opA 80 (clA 77 [(.c (.string ⟨#[110]⟩)), (.t 79)]),
mvA 4 80] (some [4]))
.ret)
.skip))))))))))))))))))))
(.seq (.ops [opA 81 (.fieldAddr 14 (.t 2)),
opA 82 (.load false 1 (.t 81)),
opA 83 (.len (.t 82)),
opA 84 (clA 78 [(.t 83)]),
opA 85 (.buildSlice [(.int .u64 0), (.string .empty), (.slice none 0 0), (.slice none 0 0)] 4 1 [(0, (.t 84))]),
opA 86 (clA 77 [(.c (.string ⟨#[110]⟩)), (.t 85)]),
mvA 5 86] (some [2, 5]))
(.seq (.seq (.ops [opA 87 (.fieldAddr 14 (.t 2)),
opA 88 (.load false 1 (.t 87)),
opA 89 (.len (.t 88)),
opA 90 (.move (icA 0))] (some [5, 88, 89, 90]))
(.block 1
(.loop
(.seq (.ops [opA 91 (.bin .lss 3 (.t 90) (.t 89))] (some [5, 88, 89, 90, 91]))
(.seq (.cond (.t 91)
.skip
(.exit 1))
(.seq (.block 2
(.seq (.ops [opA 92 (.indexAddr 2 (.t 88) (.t 90)),
opA 93 (.load true 2 (.t 92)),
opA 7 (.alloc [(.int .i64 0), (.int .u64 0)]),
⟨none, none, .store 2 (.t 7) (.t 93)⟩] (some [5, 7, 88, 89, 90]))
(.opsd [(0, 0, mvA 94 5),
(1, 0, opA 95 (.fieldAddr 0 (.t 7))),
(2, 2, opA 96 (.load false 1 (.t 95))),
(4, 0, opA 98 (.fieldAddr 1 (.t 7))),
(5, 16, opA 99 (.load false 1 (.t 98))),
(6, 48, opA 100 (.build [(.int .u64 0), (.string .empty), (.slice none 0 0), (.slice none 0 0)] [(0, 1), (1, 1), (2, 1), (3, 1)] [(0, (.t 99))])),
(3, 6, opA 97 (clA 78 [(.t 96)])),
(7, 126, opA 101 (.buildSlice [(.int .u64 0), (.string .empty), (.slice none 0 0), (.slice none 0 0)] 4 2 [(0, (.t 97)), (1, (.t 100))])),
(8, 254, opA 102 (clA 77 [(.c (.string ⟨#[110, 110]⟩)), (.t 101)])),
(9, 511, opA 103 (.bin .add 9 (.t 94) (.t 102))),
(10, 1023, mvA 5 103)] (some [5, 88, 89, 90]))))
(.ops [opA 104 (.bin .add 3 (.t 90) (icA 1)),
mvA 90 104] (some [5, 88, 89, 90]))))))))
(.seq (.ops [mvA 105 5,
mvA 4 105] (some [4]))
.ret))))), [.tmp 4]⟩

theorem is80 : FnIs Tryz.prog 80 x80 := ⟨Tryz.f80, _, Tryz.func80, by kernel_rfl, rfl, by kernel_rfl, by decide, by kernel_rfl⟩

/-- cloisonne/ask.read -/
def x81 : XDecl := .code ⟨1, 
(.seq (.ops [opA 2 (.alloc [(.int .i64 0), (.int .u64 0), (.bool false), (.bool false), (.string .empty), (.int .u64 0), (.slice none 0 0), (.int .i64 0), (.int .u64 0), (.int .u64 0), (.int .u64 0), (.int .u64 0)]),
opA 3 (.alloc [(.int .i64 0)])] (some [0, 2, 3]))
(.seq (.ops [⟨none, none, .dfr [(.t 3), (icA 4)]⟩] (some [0, 2, 3]))
(.seq (.ops [mvA 9 0,
opA 10 (.build [(.string .empty)] [(0, 1)] [(0, (.t 9))]),
opA 11 (.box (.t 10)),
mvA 4 11] (some [2, 3, 4]))
(.seq (.ops [mvA 12 4,
opA 13 (clA 131 [(.t 12), (.c (.string ⟨#[98]⟩))]),
opA 14 (.indexAddr 4 (.t 13) (icA 0)),
opA 15 (.load true 4 (.t 14)),
opA 16 (clA 130 [(.t 15)]),
opA 17 (.fieldAddr 0 (.t 2)),
⟨none, none, .store 1 (.t 17) (.t 16)⟩] (some [2, 3, 4]))
(.seq (.seq (.ops [opA 18 (.fieldAddr 0 (.t 2)),
opA 19 (.load false 1 (.t 18)),
opA 20 (.bin .neq 32 (.t 19) (icA 0))] (some [2, 3, 4, 20]))
(.cond (.t 20)
(.seq (.ops [mvA 21 4,
opA 22 (.nilCheck (.t 21)),
opA 23 (.fieldAddr 0 (.t 22)),
opA 24 (.load false 1 (.t 23)),
opA 25 (.bin .eql 9 (.t 24) (.c (.string .empty))),
mvA 26 25,
⟨some 27, some (26, true), .load true 12 (.t 2)⟩,
⟨some 28, some (26, true), clA 132 [(.t 27)]⟩,
opA 29 (.pick (.t 26) (.t 28) (.c (.bool false))),
opA 30 (clA 75 [(.t 29)])] (some [2, 3]))
(.seq (.ops [opA 31 (.load true 12 (.t 2)),
⟨none, none, .store 12 (.t 2) (.t 31)⟩,
⟨none, none, .store 1 (.t 3) (icA 0)⟩] (some [2, 3]))
.ret))
.skip))
(.seq (.ops [mvA 32 4,
opA 33 (clA 131 [(.t 32), (.c (.string ⟨#[110, 98]⟩))]),
mvA 5 33] (some [2, 3, 4, 5]))
(.seq (.opsd [(0, 0, mvA 34 5),
(1, 1, opA 35 (.indexAddr 4 (.t 34) (icA 0))),
(2, 3, opA 36 (.fieldAddr 0 (.t 35))),
(3, 7, opA 37 (.load false 1 (.t 36))),
(4, 0, mvA 38 5),
(5, 16, opA 39 (.indexAddr 4 (.t 38) (icA 1))),
(6, 48, opA 40 (.load true 4 (.t 39))),
(8, 15, opA 42 (.fieldAddr 1 (.t 2))),
(7, 112, opA 41 (clA 133 [(.t 40)])),
(9, 511, ⟨none, none, .store 1 (.t 42) (.t 37)⟩),
(10, 1023, opA 43 (.fieldAddr 2 (.t 2))),
(11, 2047, ⟨none, none, .store 1 (.t 43) (.t 41)⟩)] (some [2, 3, 4]))
(.seq (.seq (.ops [opA 44 (.fieldAddr 2 (.t 2)),
opA 45 (.load false 1 (.t 44))] (some [2, 3, 4, 45]))
(.cond (.t 45)
(.ops [mvA 46 4,
opA 47 (clA 134 [(.t 46)]),
opA 48 (.fieldAddr 3 (.t 2)),
⟨none, none, .store 3 (.t 48) (.t 47)⟩] (some [2, 3, 4]))
.skip))
(.seq (.ops [mvA 49 4,
opA 50 (clA 131 [(.t 49), (.c (.string ⟨#[110]⟩))]),
opA 51 (.indexAddr 4 (.t 50) (icA 0)),
opA 52 (.load true 4 (.t 51)),
opA 53 (clA 130 [(.t 52)]),
mvA 6 53] (some [2, 3, 4, 6]))
(.seq (.ops [mvA 54 6,
opA 55 (.bin .leq 3 (.t 54) (icA 64)),
opA 56 (clA 75 [(.t 55)])] (some [2, 3, 4, 6]))
(.seq (.seq (.ops [mvA 57 6,
opA 58 (.move (icA 0))] (some [2, 3, 4, 57, 58]))
(.block 0
(.loop
(.seq (.ops [opA 59 (.bin .lss 3 (.t 58) (.t 57))] (some [2, 3, 4, 57, 58, 59]))
(.seq (.cond (.t 59)
.skip
(.exit 0))
(.seq (.block 1
(.seq (.ops [mvA 60 4,
opA 61 (clA 131 [(.t 60), (.c (.string ⟨#[110, 116]⟩))]),
mvA 7 61] (some [2, 3, 4, 7, 57, 58]))
(.opsd [(0, 0, opA 62 (.fieldAddr 6 (.t 2))),
(1, 1, opA 63 (.load false 1 (.t 62))),
(2, 0, mvA 64 7),
(3, 4, opA 65 (.indexAddr 4 (.t 64) (icA 0))),
(4, 12, opA 66 (.load true 4 (.t 65))),
(6, 0, mvA 68 7),
(7, 64, opA 69 (.indexAddr 4 (.t 68) (icA 1))),
(8, 192, opA 70 (.fieldAddr 1 (.t 69))),
(9, 448, opA 71 (.load false 1 (.t 70))),
(10, 0, mvA 72 4),
(5, 28, opA 67 (clA 130 [(.t 66)])),
(11, 1084, opA 73 (clA 134 [(.t 72)])),
(12, 4092, opA 74 (.build [(.int .i64 0), (.string .empty), (.bool false), (.string .empty), (.int .u64 0)] [(0, 1), (1, 1), (2, 3)] [(0, (.t 67)), (1, (.t 71)), (2, (.t 73))])),
(13, 8188, opA 75 (.buildSlice [(.int .i64 0), (.string .empty), (.bool false), (.string .empty), (.int .u64 0)] 5 1 [(0, (.t 74))])),
(14, 16383, opA 76 (.append 5 56 [(.int .i64 0), (.string .empty), (.bool false), (.string .empty), (.int .u64 0)] (.t 63) (.t 75))),
(15, 32767, opA 77 (.fieldAddr 6 (.t 2))),
(16, 65535, ⟨none, none, .store 1 (.t 77) (.t 76)⟩)] (some [2, 3, 4, 57, 58]))))
(.ops [opA 78 (.bin .add 3 (.t 58) (icA 1)),
mvA 58 78] (some [2, 3, 4, 57, 58]))))))))
(.seq (.ops [mvA 79 4,
opA 80 (clA 131 [(.t 79), (.c (.string ⟨#[110, 110, 110, 110, 110]⟩))]),
mvA 8 80] (some [2, 3, 4, 8]))
(.seq (.opsd [(0, 0, mvA 81 8),
(1, 1, opA 82 (.indexAddr 4 (.t 81) (icA 0))),
(2, 3, opA 83 (.load true 4 (.t 82))),
(4, 0, mvA 85 8),
(5, 16, opA 86 (.indexAddr 4 (.t 85) (icA 1))),
(6, 48, opA 87 (.fieldAddr 0 (.t 86))),
(7, 112, opA 88 (.load false 1 (.t 87))),
(8, 0, mvA 89 8),
(9, 256, opA 90 (.indexAddr 4 (.t 89) (icA 2))),
(10, 768, opA 91 (.fieldAddr 0 (.t 90))),
(11, 1792, opA 92 (.load false 1 (.t 91))),
(12, 0, mvA 93 8),
(13, 4096, opA 94 (.indexAddr 4 (.t 93) (icA 3))),
(14, 12288, opA 95 (.fieldAddr 0 (.t 94))),
(15, 28672, opA 96 (.load false 1 (.t 95))),
(16, 0, mvA 97 8),
(17, 65536, opA 98 (.indexAddr 4 (.t 97) (icA 4))),
(18, 196608, opA 99 (.fieldAddr 0 (.t 98))),
(19, 458752, opA 100 (.load false 1 (.t 99))),
(3, 7, opA 84 (clA 130 [(.t 83)])),
(20, 1048575, opA 101 (.build [(.int .i64 0), (.int .u64 0), (.int .u64 0), (.int .u64 0), (.int .u64 0)] [(0, 1), (1, 1), (2, 1), (3, 1), (4, 1)] [(0, (.t 84)), (1, (.t 88)), (2, (.t 92)), (3, (.t 96)), (4, (.t 100))])),
(21, 2097151, opA 102 (.fieldAddr 7 (.t 2))),
(22, 4194303, ⟨none, none, .store 5 (.t 102) (.t 101)⟩)] (some [2, 3, 4]))
(.seq (.ops [mvA 103 4,
opA 104 (.nilCheck (.t 103)),
opA 105 (.fieldAddr 0 (.t 104)),
opA 106 (.load false 1 (.t 105)),
opA 107 (.bin .eql 9 (.t 106) (.c (.string .empty))),
mvA 108 107,
⟨some 109, some (108, true), .load true 12 (.t 2)⟩,
⟨some 110, some (108, true), clA 132 [(.t 109)]⟩,
opA 111 (.pick (.t 108) (.t 110) (.c (.bool false))),
opA 112 (clA 75 [(.t 111)])] (some [2, 3]))
(.seq (.ops [opA 113 (.load true 12 (.t 2)),
⟨none, none, .store 12 (.t 2) (.t 113)⟩,
⟨none, none, .store 1 (.t 3) (icA 0)⟩] (some [2, 3]))
.ret))))))))))))))), [.cell true 12 2, .cell false 1 3]⟩

theorem is81 : FnIs Tryz.prog 81 x81 := ⟨Tryz.f81, _, Tryz.func81, by kernel_rfl, rfl, by kernel_rfl, by decide, by kernel_rfl⟩

/-- cloisonne/ask.Unpack -/
def x82 : XDecl := .code ⟨1, 
(.seq (.ops [opA 2 (.alloc [(.int .i64 0), (.int .i64 0), (.slice none 0 0), (.int .u64 0), (.bool false), (.int .i64 0), (.string .empty), (.bool false), (.string .empty), (.int .u64 0), (.string .empty), (.string .empty), (.int .i64 0), (.int .i64 0), (.slice none 0 0)]),
opA 3 (.move (icA 0))] (some [0, 2]))
(.seq (.ops [mvA 7 0,
opA 8 (clA 135 [(.t 7)]),
mvA 6 8,
opA 9 (.extract (.t 6) 0),
opA 10 (.extract (.t 6) 1),
opA 4 (.alloc [(.int .i64 0), (.int .i64 0), (.slice none 0 0), (.int .u64 0), (.bool false), (.int .i64 0), (.string .empty), (.bool false), (.string .empty), (.int .u64 0), (.string .empty), (.string .empty), (.int .i64 0), (.int .i64 0), (.slice none 0 0)]),
⟨none, none, .store 15 (.t 4) (.t 9)⟩,
mvA 5 10] (some [2, 4, 5]))
(.seq (.seq (.ops [mvA 11 5,
opA 12 (.bin .neq 32 (.t 11) (icA 0))] (some [2, 4, 5, 12]))
(.cond (.t 12)
(.seq (.ops [opA 13 (.build [(.int .i64 0), (.int .i64 0), (.slice none 0 0), (.int .u64 0), (.bool false), (.int .i64 0), (.string .empty), (.bool false), (.string .empty), (.int .u64 0), (.string .empty), (.string .empty), (.int .i64 0), (.int .i64 0), (.slice none 0 0)] [(0, 1), (1, 1), (2, 1), (3, 1), (4, 1), (5, 1), (6, 1), (7, 3), (10, 3), (13, 1), (14, 1)] []),
mvA 14 5,
⟨none, none, .store 15 (.t 2) (.t 13)⟩,
mvA 3 14] (some [2, 3]))
.ret)
.skip))
(.seq (.ops [opA 15 (.load true 15 (.t 4)),
⟨none, none, .store 15 (.t 2) (.t 15)⟩,
opA 3 (.move (icA 0))] (some [2, 3]))
.ret)))), [.cell true 15 2, .tmp 3]⟩

theorem is82 : FnIs Tryz.prog 82 x82 := ⟨Tryz.f82, _, Tryz.func82, by kernel_rfl, rfl, by kernel_rfl, by decide, by kernel_rfl⟩

/-- (*cloisonne/sess.Session).Ask -/
def x83 : XDecl := .code ⟨2, 
(.seq (.ops [opA 3 (.box (.t 1)),
opA 4 (.move (icA 0))] (some [0, 3]))
(.seq (.block 0
(.seq (.ops [mvA 6 0,
opA 7 (.isNil .ptr false (.t 6)),
mvA 5 7] (some [0, 3, 5]))
(.cond (.t 5)
(.seq (.ops [opA 4 (.move (icA 2))] (some [4]))
.ret)
(.seq (.ops [opA 9 (.load true 15 (.t 3)),
opA 10 (clA 76 [(.t 9)]),
opA 11 (.un .not (.t 10)),
mvA 8 11] (some [0, 3, 8]))
(.cond (.t 8)
(.seq (.ops [opA 4 (.move (icA 1))] (some [4]))
.ret)
(.seq (.ops [mvA 13 0,
opA 14 (.nilCheck (.t 13)),
opA 15 (.fieldAddr 7 (.t 14)),
opA 16 (.load false 1 (.t 15)),
opA 17 (.isNil .ptr true (.t 16)),
mvA 12 17] (some [0, 3, 12]))
(.cond (.t 12)
(.seq (.ops [opA 4 (.move (icA 9))] (some [4]))
.ret)
.skip)))))))
(.seq (.opsd [(0, 0, opA 18 (.fieldAddr 2 (.t 3))),
(1, 1, opA 19 (.load false 1 (.t 18))),
(3, 0, opA 21 (.fieldAddr 14 (.t 3))),
(4, 8, opA 22 (.load false 1 (.t 21))),
(2, 3, opA 20 (clA 136 [(.t 19)])),
(6, 31, opA 24 (.fieldAddr 2 (.t 3))),
(5, 31, opA 23 (clA 137 [(.t 22)])),
(7, 127, ⟨none, none, .store 1 (.t 24) (.t 20)⟩),
(8, 255, opA 25 (.fieldAddr 14 (.t 3))),
(9, 511, ⟨none, none, .store 1 (.t 25) (.t 23)⟩)] (some [0, 3]))
(.seq (.ops [mvA 26 0,
opA 27 (.load true 15 (.t 3)),
opA 28 (.build [(.int .i64 0), (.int .i64 0), (.slice none 0 0), (.int .u64 0), (.bool false), (.int .i64 0), (.string .empty), (.bool false), (.string .empty), (.int .u64 0), (.string .empty), (.string .empty), (.int .i64 0), (.int .i64 0), (.slice none 0 0), (.bool false), (.int .i64 0), (.pointer none), (.pointer none), (.slice none 0 0), (.slice none 0 0)] [(0, 15), (15, 1), (16, 1), (17, 1), (18, 1), (19, 1), (20, 1)] [(0, (.t 27))]),
opA 29 (.box (.t 28)),
opA 30 (.nilCheck (.t 26)),
opA 31 (.fieldAddr 7 (.t 30)),
⟨none, none, .store 1 (.t 31) (.t 29)⟩] (some []))
(.seq (.ops [opA 4 (.move (icA 0))] (some [4]))
.ret))))), [.tmp 4]⟩

theorem is83 : FnIs Tryz.prog 83 x83 := ⟨Tryz.f83, _, Tryz.func83, by kernel_rfl, rfl, by kernel_rfl, by decide, by kernel_rfl⟩

/-- (*cloisonne/sess.Session).Move -/
def x84 : XDecl := .code ⟨2, 
(.seq (.ops [opA 4 (.move (icA 0)),
opA 5 (.alloc [(.int .i64 0), (.int .u64 0), (.bool false), (.bool false), (.string .empty), (.int .u64 0), (.slice none 0 0), (.int .i64 0), (.int .u64 0), (.int .u64 0), (.int .u64 0), (.int .u64 0)]),
opA 6 (.move (icA 0))] (some [0, 1, 5]))
(.seq (.block 0
(.seq (.ops [mvA 11 0,
opA 12 (.isNil .ptr false (.t 11)),
mvA 10 12] (some [0, 1, 5, 10]))
(.cond (.t 10)
(.seq (.ops [opA 13 (.build [(.int .i64 0), (.int .u64 0), (.bool false), (.bool false), (.string .empty), (.int .u64 0), (.slice none 0 0), (.int .i64 0), (.int .u64 0), (.int .u64 0), (.int .u64 0), (.int .u64 0)] [(0, 1), (1, 1), (2, 1), (3, 3), (6, 1), (7, 5)] []),
opA 4 (.move (icA 0)),
⟨none, none, .store 12 (.t 5) (.t 13)⟩,
opA 6 (.move (icA 2))] (some [4, 5, 6]))
.ret)
(.seq (.ops [mvA 15 0,
opA 16 (.nilCheck (.t 15)),
opA 17 (.fieldAddr 7 (.t 16)),
opA 18 (.load false 1 (.t 17)),
opA 19 (.isNil .ptr false (.t 18)),
mvA 14 19] (some [0, 1, 5, 14]))
(.cond (.t 14)
(.seq (.ops [opA 20 (.build [(.int .i64 0), (.int .u64 0), (.bool false), (.bool false), (.string .empty), (.int .u64 0), (.slice none 0 0), (.int .i64 0), (.int .u64 0), (.int .u64 0), (.int .u64 0), (.int .u64 0)] [(0, 1), (1, 1), (2, 1), (3, 3), (6, 1), (7, 5)] []),
opA 4 (.move (icA 0)),
⟨none, none, .store 12 (.t 5) (.t 20)⟩,
opA 6 (.move (icA 7))] (some [4, 5, 6]))
.ret)
(.seq (.ops [mvA 22 0,
opA 23 (.nilCheck (.t 22)),
opA 24 (.fieldAddr 7 (.t 23)),
opA 25 (.load false 1 (.t 24)),
opA 26 (.nilCheck (.t 25)),
opA 27 (.fieldAddr 15 (.t 26)),
opA 28 (.load false 1 (.t 27)),
opA 29 (.un .not (.t 28)),
mvA 21 29] (some [0, 1, 5, 21]))
(.cond (.t 21)
(.opsd [(0, 0, mvA 30 0),
(1, 1, opA 31 (.nilCheck (.t 30))),
(2, 3, opA 32 (.fieldAddr 7 (.t 31))),
(3, 7, opA 33 (.load false 1 (.t 32))),
(4, 0, mvA 34 0),
(5, 16, opA 35 (.nilCheck (.t 34))),
(6, 48, opA 36 (.fieldAddr 7 (.t 35))),
(7, 112, opA 37 (.load false 1 (.t 36))),
(8, 0, mvA 38 1),
(9, 255, opA 39 (.nilCheck (.t 33))),
(10, 767, opA 40 (.fieldAddr 15 (.t 39))),
(11, 1791, ⟨none, none, .store 1 (.t 40) (.c (.bool true))⟩),
(12, 4095, opA 41 (.nilCheck (.t 37))),
(13, 8191, opA 42 (.fieldAddr 16 (.t 41))),
(14, 16383, ⟨none, none, .store 1 (.t 42) (.t 38)⟩)] (some [0, 1, 5]))
.skip)))))))
(.seq (.ops [mvA 44 0,
opA 45 (clA 138 [(.t 44)]),
mvA 43 45,
opA 46 (.extract (.t 43) 0),
opA 47 (.extract (.t 43) 1),
opA 48 (.extract (.t 43) 2),
opA 8 (.alloc [(.int .i64 0), (.int .u64 0), (.bool false), (.bool false), (.string .empty), (.int .u64 0), (.slice none 0 0), (.int .i64 0), (.int .u64 0), (.int .u64 0), (.int .u64 0), (.int .u64 0)]),
mvA 7 46,
⟨none, none, .store 12 (.t 8) (.t 47)⟩,
mvA 9 48] (some [0, 1, 5, 7, 8, 9]))
(.seq (.seq (.ops [mvA 49 9,
opA 50 (.bin .neq 32 (.t 49) (icA 0)),
mvA 51 50,
⟨some 52, some (51, false), .move (.t 7)⟩,
⟨some 53, some (51, false), .bin .neq 3 (.t 52) (icA 2)⟩,
opA 54 (.pick (.t 51) (.c (.bool true)) (.t 53))] (some [0, 1, 5, 7, 8, 9, 54]))
(.cond (.t 54)
(.seq (.ops [mvA 55 7,
opA 56 (.build [(.int .i64 0), (.int .u64 0), (.bool false), (.bool false), (.string .empty), (.int .u64 0), (.slice none 0 0), (.int .i64 0), (.int .u64 0), (.int .u64 0), (.int .u64 0), (.int .u64 0)] [(0, 1), (1, 1), (2, 1), (3, 3), (6, 1), (7, 5)] []),
mvA 57 9,
mvA 4 55,
⟨none, none, .store 12 (.t 5) (.t 56)⟩,
mvA 6 57] (some [4, 5, 6]))
.ret)
.skip))
(.seq (.ops [mvA 58 0,
mvA 59 1,
opA 60 (.nilCheck (.t 58)),
opA 61 (.fieldAddr 8 (.t 60)),
⟨none, none, .store 1 (.t 61) (.t 59)⟩] (some [0, 5, 7, 8]))
(.seq (.seq (.ops [mvA 62 0,
opA 63 (.nilCheck (.t 62)),
opA 64 (.fieldAddr 7 (.t 63)),
opA 65 (.load false 1 (.t 64)),
opA 66 (.nilCheck (.t 65)),
opA 67 (.fieldAddr 18 (.t 66)),
opA 68 (.load false 1 (.t 67)),
opA 69 (.isNil .ptr true (.t 68)),
mvA 70 69,
⟨some 71, some (70, true), .fieldAddr 0 (.t 8)⟩,
⟨some 72, some (70, true), .load false 1 (.t 71)⟩,
⟨some 73, some (70, true), .bin .eql 32 (.t 72) (icA 0)⟩,
opA 74 (.pick (.t 70) (.t 73) (.c (.bool false)))] (some [0, 5, 7, 8, 74]))
(.cond (.t 74)
(.ops [mvA 75 0,
mvA 76 0,
opA 77 (.nilCheck (.t 76)),
opA 78 (.fieldAddr 7 (.t 77)),
opA 79 (.load false 1 (.t 78)),
opA 80 (.nilCheck (.t 79)),
opA 81 (.fieldAddr 16 (.t 80)),
opA 82 (.load false 1 (.t 81)),
opA 83 (.nilCheck (.t 75)),
opA 84 (.fieldAddr 8 (.t 83)),
⟨none, none, .store 1 (.t 84) (.t 82)⟩] (some [0, 5, 7, 8]))
.skip))
(.seq (.seq (.ops [mvA 85 0,
opA 86 (.nilCheck (.t 85)),
opA 87 (.fieldAddr 7 (.t 86)),
opA 88 (.load false 1 (.t 87)),
opA 89 (.nilCheck (.t 88)),
opA 90 (.fieldAddr 0 (.t 89)),
opA 91 (.fieldAddr 0 (.t 90)),
opA 92 (.load false 1 (.t 91)),
opA 93 (.bin .eql 3 (.t 92) (icA 14))] (some [0, 5, 7, 8, 93]))
(.cond (.t 93)
(.ops [mvA 94 0,
opA 95 (.nilCheck (.t 94)),
opA 96 (.fieldAddr 6 (.t 95)),
⟨none, none, .store 1 (.t 96) (.c (.pointer none))⟩] (some [0, 5, 7, 8]))
.skip))
(.seq (.ops [mvA 97 0,
opA 98 (.nilCheck (.t 97)),
opA 99 (.fieldAddr 7 (.t 98)),
⟨none, none, .store 1 (.t 99) (.c (.pointer none))⟩] (some [5, 7, 8]))
(.seq (.opsd [(0, 0, mvA 100 7),
(1, 0, opA 101 (.load true 12 (.t 8))),
(2, 1, mvA 4 100),
(3, 7, ⟨none, none, .store 12 (.t 5) (.t 101)⟩),
(4, 15, opA 6 (.move (icA 0)))] (some [4, 5, 6]))
.ret))))))))), [.tmp 4, .cell true 12 5, .tmp 6]⟩

theorem is84 : FnIs Tryz.prog 84 x84 := ⟨Tryz.f84, _, Tryz.func84, by kernel_rfl, rfl, by kernel_rfl, by decide, by kernel_rfl⟩

/-- cloisonne/ask.Tell -/
def x85 : XDecl := .code ⟨1, 
(.seq (.ops [opA 1 (.box (.t 0)),
opA 2 (.move (.c (.string .empty))),
opA 3 (.alloc [(.int .i64 0)])] (some [1, 3]))
(.seq (.ops [⟨none, none, .dfr [(.t 3), (icA 1)]⟩] (some [1, 3]))
(.seq (.ops [opA 8 (.load true 12 (.t 1)),
opA 9 (clA 132 [(.t 8)]),
opA 10 (clA 75 [(.t 9)])] (some [1, 3]))
(.seq (.ops [opA 11 (.fieldAddr 0 (.t 1)),
opA 12 (.load false 1 (.t 11)),
opA 13 (clA 78 [(.t 12)]),
opA 14 (.buildSlice [(.int .u64 0), (.string .empty), (.slice none 0 0), (.slice none 0 0)] 4 1 [(0, (.t 13))]),
opA 15 (clA 77 [(.c (.string ⟨#[98]⟩)), (.t 14)]),
mvA 4 15] (some [1, 3, 4]))
(.seq (.seq (.ops [opA 16 (.fieldAddr 0 (.t 1)),
opA 17 (.load false 1 (.t 16)),
opA 18 (.bin .neq 32 (.t 17) (icA 0))] (some [1, 3, 4, 18]))
(.cond (.t 18)
(.seq (.ops [mvA 19 4,
mvA 2 19,
⟨none, none, .store 1 (.t 3) (icA 0)⟩] (some [2, 3]))
.ret)
.skip))
(.seq (.opsd [(0, 0, mvA 20 4),
(1, 0, opA 21 (.fieldAddr 1 (.t 1))),
(2, 2, opA 22 (.load false 1 (.t 21))),
(3, 6, opA 23 (.build [(.int .u64 0), (.string .empty), (.slice none 0 0), (.slice none 0 0)] [(0, 1), (1, 1), (2, 1), (3, 1)] [(0, (.t 22))])),
(4, 0, opA 24 (.fieldAddr 2 (.t 1))),
(5, 16, opA 25 (.load false 1 (.t 24))),
(6, 48, opA 26 (clA 127 [(.t 25)])),
(7, 126, opA 27 (.buildSlice [(.int .u64 0), (.string .empty), (.slice none 0 0), (.slice none 0 0)] 4 2 [(0, (.t 23)), (1, (.t 26))])),
(8, 254, opA 28 (clA 77 [(.c (.string ⟨#[110, 98]⟩)), (.t 27)])),
(9, 511, opA 29 (.bin .add 9 (.t 20) (.t 28))),
(10, 1023, mvA 4 29)] (some [1, 3, 4]))
(.seq (.seq (.ops [opA 30 (.fieldAddr 2 (.t 1)),
opA 31 (.load false 1 (.t 30))] (some [1, 3, 4, 31]))
(.cond (.t 31)
(.ops [mvA 32 4,
opA 33 (.fieldAddr 3 (.t 1)),
opA 34 (.load true 3 (.t 33)),
opA 35 (clA 129 [(.t 34)]),
opA 36 (.buildSlice [(.int .u64 0), (.string .empty), (.slice none 0 0), (.slice none 0 0)] 4 1 [(0, (.t 35))]),
opA 37 (clA 77 [(.c (.string ⟨#[116]⟩)), (.t 36)]),
opA 38 (.bin .add 9 (.t 32) (.t 37)),
mvA 4 38] (some [1, 3, 4]))
.skip))
(.seq (.ops [mvA 39 4,
opA 40 (.fieldAddr 6 (.t 1)),
opA 41 (.load false 1 (.t 40)),
opA 42 (.len (.t 41)),
opA 43 (clA 78 [(.t 42)]),
opA 44 (.buildSlice [(.int .u64 0), (.string .empty), (.slice none 0 0), (.slice none 0 0)] 4 1 [(0, (.t 43))]),
opA 45 (clA 77 [(.c (.string ⟨#[110]⟩)), (.t 44)]),
opA 46 (.bin .add 9 (.t 39) (.t 45)),
mvA 4 46] (some [1, 3, 4]))
(.seq (.seq (.ops [opA 47 (.fieldAddr 6 (.t 1)),
opA 48 (.load false 1 (.t 47)),
opA 49 (.len (.t 48)),
opA 50 (.move (icA 0))] (some [1, 3, 4, 48, 49, 50]))
(.block 0
(.loop
(.seq (.ops [opA 51 (.bin .lss 3 (.t 50) (.t 49))] (some [1, 3, 4, 48, 49, 50, 51]))
(.seq (.cond (.t 51)
.skip
(.exit 0))
(.seq (.block 1
(.seq (.ops [opA 52 (.indexAddr 5 (.t 48) (.t 50)),
opA 53 (.load true 5 (.t 52)),
opA 6 (.alloc [(.int .i64 0), (.string .empty), (.bool false), (.string .empty), (.int .u64 0)]),
⟨none, none, .store 5 (.t 6) (.t 53)⟩] (some [1, 3, 4, 6, 48, 49, 50]))
(.opsd [(0, 0, mvA 54 4),
(1, 0, opA 55 (.fieldAddr 0 (.t 6))),
(2, 2, opA 56 (.load false 1 (.t 55))),
(4, 0, opA 58 (.fieldAddr 1 (.t 6))),
(5, 16, opA 59 (.load false 1 (.t 58))),
(7, 0, opA 61 (.fieldAddr 2 (.t 6))),
(8, 128, opA 62 (.load true 3 (.t 61))),
(3, 6, opA 57 (clA 78 [(.t 56)])),
(6, 62, opA 60 (clA 128 [(.t 59)])),
(9, 510, opA 63 (clA 129 [(.t 62)])),
(10, 1022, opA 64 (.buildSlice [(.int .u64 0), (.string .empty), (.slice none 0 0), (.slice none 0 0)] 4 3 [(0, (.t 57)), (1, (.t 60)), (2, (.t 63))])),
(11, 2046, opA 65 (clA 77 [(.c (.string ⟨#[110, 116, 116]⟩)), (.t 64)])),
(12, 4095, opA 66 (.bin .add 9 (.t 54) (.t 65))),
(13, 8191, mvA 4 66)] (some [1, 3, 4, 48, 49, 50]))))
(.ops [opA 67 (.bin .add 3 (.t 50) (icA 1)),
mvA 50 67] (some [1, 3, 4, 48, 49, 50]))))))))
(.seq (.ops [opA 68 (.fieldAddr 7 (.t 1)),
opA 69 (.load true 5 (.t 68)),
opA 7 (.alloc [(.int .i64 0), (.int .u64 0), (.int .u64 0), (.int .u64 0), (.int .u64 0)]),
⟨none, none, .store 5 (.t 7) (.t 69)⟩] (some [3, 4, 7]))
(.seq (.opsd [(0, 0, mvA 70 4),
(1, 0, opA 71 (.fieldAddr 0 (.t 7))),
(2, 2, opA 72 (.load false 1 (.t 71))),
(4, 0, opA 74 (.fieldAddr 1 (.t 7))),
(5, 16, opA 75 (.load false 1 (.t 74))),
(6, 48, opA 76 (.build [(.int .u64 0), (.string .empty), (.slice none 0 0), (.slice none 0 0)] [(0, 1), (1, 1), (2, 1), (3, 1)] [(0, (.t 75))])),
(7, 0, opA 77 (.fieldAddr 2 (.t 7))),
(8, 128, opA 78 (.load false 1 (.t 77))),
(9, 384, opA 79 (.build [(.int .u64 0), (.string .empty), (.slice none 0 0), (.slice none 0 0)] [(0, 1), (1, 1), (2, 1), (3, 1)] [(0, (.t 78))])),
(10, 0, opA 80 (.fieldAddr 3 (.t 7))),
(11, 1024, opA 81 (.load false 1 (.t 80))),
(12, 3072, opA 82 (.build [(.int .u64 0), (.string .empty), (.slice none 0 0), (.slice none 0 0)] [(0, 1), (1, 1), (2, 1), (3, 1)] [(0, (.t 81))])),
(13, 0, opA 83 (.fieldAddr 4 (.t 7))),
(14, 8192, opA 84 (.load false 1 (.t 83))),
(15, 24576, opA 85 (.build [(.int .u64 0), (.string .empty), (.slice none 0 0), (.slice none 0 0)] [(0, 1), (1, 1), (2, 1), (3, 1)] [(0, (.t 84))])),
(3, 6, opA 73 (clA 78 [(.t 72)])),
(16, 65534, opA 86 (.buildSlice [(.int .u64 0), (.string .empty), (.slice none 0 0), (.slice none 0 0)] 4 5 [(0, (.t 73)), (1, (.t 76)), (2, (.t 79)), (3, (.t 82)), (4, (.t 85))])),
(17, 131070, opA 87 (clA 77 [(.c (.string ⟨#[110, 110, 110, 110, 110]⟩)), (.t 86)])),
(18, 262143, opA 88 (.bin .add 9 (.t 70) (.t 87))),
(19, 524287, mvA 2 88),
(20, 1048575, ⟨none, none, .store 1 (.t 3) (icA 0)⟩)] (some [2, 3]))
.ret))))))))))), [.tmp 2, .cell false 1 3]⟩

theorem is85 : FnIs Tryz.prog 85 x85 := ⟨Tryz.f85, _, Tryz.func85, by kernel_rfl, rfl, by kernel_rfl, by decide, by kernel_rfl⟩

/-- cloisonne/vault.within -/
def x86 : XDecl := .code ⟨3, 
(.seq (.ops [opA 6 (.move (.c (.bool false)))] (some [0, 1, 2]))
(.seq (.ops [mvA 7 0,
mvA 8 1,
opA 9 (.bin .geq 3 (.t 7) (.t 8)),
mvA 10 9,
⟨some 11, some (10, true), .move (.t 0)⟩,
⟨some 12, some (10, true), .move (.t 2)⟩,
⟨some 13, some (10, true), .bin .leq 3 (.t 11) (.t 12)⟩,
opA 14 (.pick (.t 10) (.t 13) (.c (.bool false))),
mvA 6 14] (some [6]))
.ret)), [.tmp 6]⟩

theorem is86 : FnIs Tryz.prog 86 x86 := ⟨Tryz.f86, _, Tryz.func86, by kernel_rfl, rfl, by kernel_rfl, by decide, by kernel_rfl⟩

def tabA : FuncId → Option XDecl
  | 5 => some x5
  | 7 => some x7
  | 9 => some x9
  | 10 => some x10
  | 11 => some x11
  | 12 => some x12
  | 14 => some x14
  | 16 => some x16
  | 24 => some x24
  | 29 => some x29
  | 30 => some x30
  | 31 => some x31
  | 32 => some x32
  | 33 => some x33
  | 34 => some x34
  | 35 => some x35
  | 36 => some x36
  | 37 => some x37
  | 38 => some x38
  | 39 => some x39
  | 40 => some x40
  | 41 => some x41
  | 42 => some x42
  | 43 => some x43
  | 44 => some x44
  | 49 => some x49
  | 50 => some x50
  | 51 => some x51
  | 52 => some x52
  | 54 => some x54
  | 58 => some x58
  | 62 => some x62
  | 66 => some x66
  | 67 => some x67
  | 68 => some x68
  | 69 => some x69
  | 70 => some x70
  | 71 => some x71
  | 72 => some x72
  | 73 => some x73
  | 75 => some x75
  | 76 => some x76
  | 77 => some x77
  | 78 => some x78
  | 79 => some x79
  | 80 => some x80
  | 81 => some x81
  | 82 => some x82
  | 83 => some x83
  | 84 => some x84
  | 85 => some x85
  | 86 => some x86
  | _ => none
theorem tabA_is : ∀ f d, tabA f = some d → FnIs Tryz.prog f d := by
  intro f d h
  unfold tabA at h
  split at h
  · cases h; exact is5
  · cases h; exact is7
  · cases h; exact is9
  · cases h; exact is10
  · cases h; exact is11
  · cases h; exact is12
  · cases h; exact is14
  · cases h; exact is16
  · cases h; exact is24
  · cases h; exact is29
  · cases h; exact is30
  · cases h; exact is31
  · cases h; exact is32
  · cases h; exact is33
  · cases h; exact is34
  · cases h; exact is35
  · cases h; exact is36
  · cases h; exact is37
  · cases h; exact is38
  · cases h; exact is39
  · cases h; exact is40
  · cases h; exact is41
  · cases h; exact is42
  · cases h; exact is43
  · cases h; exact is44
  · cases h; exact is49
  · cases h; exact is50
  · cases h; exact is51
  · cases h; exact is52
  · cases h; exact is54
  · cases h; exact is58
  · cases h; exact is62
  · cases h; exact is66
  · cases h; exact is67
  · cases h; exact is68
  · cases h; exact is69
  · cases h; exact is70
  · cases h; exact is71
  · cases h; exact is72
  · cases h; exact is73
  · cases h; exact is75
  · cases h; exact is76
  · cases h; exact is77
  · cases h; exact is78
  · cases h; exact is79
  · cases h; exact is80
  · cases h; exact is81
  · cases h; exact is82
  · cases h; exact is83
  · cases h; exact is84
  · cases h; exact is85
  · cases h; exact is86
  · cases h

end Go.Proofs.YtglefgcnafoafaaGreatDoor.X
