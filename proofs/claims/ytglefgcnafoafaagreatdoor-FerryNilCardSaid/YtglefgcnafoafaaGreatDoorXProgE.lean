/-
  Own work, printed by a program of ours (mkprog.py): the functions of this seat as code of the abstract run, and that each is the model's.
-/
import Derived.Test.YtglefgcnafoafaaGreatDoorXLaw
import Derived.Test.YtglefgcnafoafaaGreatDoorChecked
set_option maxRecDepth 100000
namespace Go.Proofs.YtglefgcnafoafaaGreatDoor.X
open Go

abbrev mvE (d s : Nat) : XOp := ⟨some d, none, .move (.t s)⟩
abbrev opE (d : Nat) (i : XI) : XOp := ⟨some d, none, i⟩
abbrev clE (f : Nat) (l : List Arg) : XI := .call (.c (.func (.func f) #[] #[])) l
abbrev icE (n : Int) : Arg := .c (.int .i64 n)

/-- (*cloisonne/wset.Set).All -/
def x342 : XDecl := .code ⟨1, 
(.seq (.ops [opE 2 (.move (.c (.slice none 0 0)))] (some [0]))
(.seq (.seq (.ops [mvE 3 0,
opE 4 (.isNil .ptr false (.t 3))] (some [0, 4]))
(.cond (.t 4)
(.seq (.ops [opE 2 (.move (.c (.slice none 0 0)))] (some [2]))
.ret)
.skip))
(.seq (.ops [mvE 5 0,
opE 6 (.nilCheck (.t 5)),
opE 7 (.fieldAddr 0 (.t 6)),
opE 8 (.load false 1 (.t 7)),
opE 9 (clE 119 [(.t 8)]),
mvE 2 9] (some [2]))
.ret))), [.tmp 2]⟩

theorem is342 : FnIs Tryz.prog 342 x342 := ⟨Tryz.f342, _, Tryz.func342, by kernel_rfl, rfl, by kernel_rfl, by decide, by kernel_rfl⟩

/-- (*cloisonne/vault.Vault).In -/
def x344 : XDecl := .code ⟨2, 
(.seq (.ops [opE 4 (.move (.c (.slice none 0 0)))] (some [0, 1]))
(.seq (.seq (.ops [mvE 8 0,
opE 9 (.isNil .ptr false (.t 8))] (some [0, 1, 9]))
(.cond (.t 9)
(.seq (.ops [opE 4 (.move (.c (.slice none 0 0)))] (some [4]))
.ret)
.skip))
(.seq (.ops [opE 5 (.move (.c (.slice none 0 0)))] (some [0, 1, 5]))
(.seq (.seq (.ops [mvE 10 0,
opE 11 (.nilCheck (.t 10)),
opE 12 (.fieldAddr 0 (.t 11)),
opE 13 (.fieldAddr 3 (.t 12)),
opE 14 (.load false 1 (.t 13)),
opE 15 (.len (.t 14)),
opE 16 (.move (icE 0))] (some [1, 5, 14, 15, 16]))
(.block 0
(.loop
(.seq (.ops [opE 17 (.bin .lss 3 (.t 16) (.t 15))] (some [1, 5, 14, 15, 16, 17]))
(.seq (.cond (.t 17)
.skip
(.exit 0))
(.seq (.block 1
(.seq (.ops [mvE 18 16,
opE 19 (.indexAddr 4 (.t 14) (.t 16)),
opE 20 (.load true 4 (.t 19)),
opE 7 (.alloc [(.slice none 0 0), (.int .i64 0), (.int .i64 0), (.int .i64 0)]),
mvE 6 18,
⟨none, none, .store 4 (.t 7) (.t 20)⟩] (some [1, 5, 6, 7, 14, 15, 16]))
(.seq (.ops [opE 21 (.fieldAddr 0 (.t 7)),
opE 22 (.load false 1 (.t 21)),
mvE 23 1,
opE 24 (clE 335 [(.t 22), (.t 23)])] (some [1, 5, 6, 14, 15, 16, 24]))
(.cond (.t 24)
(.ops [mvE 25 5,
mvE 26 6,
opE 27 (.buildSlice [(.int .i64 0)] 1 1 [(0, (.t 26))]),
opE 28 (.append 1 8 [(.int .i64 0)] (.t 25) (.t 27)),
mvE 5 28] (some [1, 5, 14, 15, 16]))
.skip))))
(.ops [opE 29 (.bin .add 3 (.t 16) (icE 1)),
mvE 16 29] (some [1, 5, 14, 15, 16]))))))))
(.seq (.ops [mvE 30 5,
mvE 4 30] (some [4]))
.ret))))), [.tmp 4]⟩

theorem is344 : FnIs Tryz.prog 344 x344 := ⟨Tryz.f344, _, Tryz.func344, by kernel_rfl, rfl, by kernel_rfl, by decide, by kernel_rfl⟩

/-- cloisonne/merge.Open -/
def x345 : XDecl := .code ⟨4, 
(.seq (.ops [opE 5 (.box (.t 1)),
opE 8 (.move (.c (.pointer none))),
opE 9 (.move (icE 0))] (some [0, 2, 3, 5]))
(.seq (.ops [opE 10 (.move (.c (.bool true)))] (some [0, 2, 3, 5, 10]))
(.seq (.seq (.ops [mvE 13 0,
opE 14 (.len (.t 13)),
opE 15 (.move (icE 0))] (some [0, 2, 3, 5, 10, 13, 14, 15]))
(.block 0
(.loop
(.seq (.ops [opE 16 (.bin .lss 3 (.t 15) (.t 14))] (some [0, 2, 3, 5, 10, 13, 14, 15, 16]))
(.seq (.cond (.t 16)
.skip
(.exit 0))
(.seq (.block 1
(.seq (.ops [mvE 17 15,
opE 18 (.indexAddr 3 (.t 13) (.t 15)),
opE 19 (.load true 3 (.t 18)),
opE 12 (.alloc [(.pointer none), (.int .i64 0), (.int .i64 0)]),
mvE 11 17,
⟨none, none, .store 3 (.t 12) (.t 19)⟩] (some [0, 2, 3, 5, 10, 11, 12, 13, 14, 15]))
(.seq (.seq (.ops [opE 20 (.fieldAddr 0 (.t 12)),
opE 21 (.load false 1 (.t 20)),
opE 22 (.isNil .ptr false (.t 21))] (some [0, 2, 3, 5, 10, 11, 12, 13, 14, 15, 22]))
(.cond (.t 22)
(.seq (.ops [opE 8 (.move (.c (.pointer none))),
opE 9 (.move (icE 2))] (some [8, 9]))
.ret)
.skip))
(.opsr [mvE 23 10,
mvE 24 23,
⟨some 25, some (24, true), .fieldAddr 2 (.t 12)⟩,
⟨some 26, some (24, true), .load false 1 (.t 25)⟩,
⟨some 27, some (24, true), .bin .geq 3 (.t 26) (icE 0)⟩,
opE 28 (.pick (.t 24) (.t 27) (.c (.bool false))),
mvE 29 28,
⟨some 30, some (29, true), .move (.t 11)⟩,
⟨some 31, some (29, true), .bin .eql 3 (.t 30) (icE 0)⟩,
⟨some 32, some (29, true), .move (.t 31)⟩,
⟨some 33, some (32, false), .move (.t 0)⟩,
⟨some 34, some (32, false), .move (.t 11)⟩,
⟨some 35, some (32, false), .bin .sub 3 (.t 34) (icE 1)⟩,
⟨some 36, some (32, false), .indexAddr 3 (.t 33) (.t 35)⟩,
⟨some 37, some (32, false), .fieldAddr 2 (.t 36)⟩,
⟨some 38, some (32, false), .load false 1 (.t 37)⟩,
⟨some 39, some (32, false), .fieldAddr 2 (.t 12)⟩,
⟨some 40, some (32, false), .load false 1 (.t 39)⟩,
⟨some 41, some (32, false), .bin .lss 3 (.t 38) (.t 40)⟩,
⟨some 42, some (29, true), .pick (.t 32) (.c (.bool true)) (.t 41)⟩,
opE 43 (.pick (.t 29) (.t 42) (.c (.bool false))),
mvE 10 43] (some [0, 2, 3, 5, 10, 13, 14, 15])))))
(.ops [opE 44 (.bin .add 3 (.t 15) (icE 1)),
mvE 15 44] (some [0, 2, 3, 5, 10, 13, 14, 15]))))))))
(.seq (.seq (.ops [mvE 45 10,
opE 46 (.un .not (.t 45)),
mvE 47 46,
⟨some 48, some (47, false), .load true 3 (.t 5)⟩,
⟨some 49, some (47, false), clE 176 [(.t 48)]⟩,
⟨some 50, some (47, false), .un .not (.t 49)⟩,
opE 51 (.pick (.t 47) (.c (.bool true)) (.t 50))] (some [0, 2, 3, 5, 51]))
(.cond (.t 51)
(.seq (.ops [opE 8 (.move (.c (.pointer none))),
opE 9 (.move (icE 1))] (some [8, 9]))
.ret)
.skip))
(.seq (.opsd [(0, 0, opE 52 (.buildSlice [(.pointer none), (.int .i64 0), (.int .i64 0)] 3 0 [])),
(1, 0, mvE 53 0),
(3, 0, opE 55 (.load true 3 (.t 5))),
(4, 0, mvE 56 2),
(5, 0, mvE 57 3),
(2, 3, opE 54 (.append 3 24 [(.pointer none), (.int .i64 0), (.int .i64 0)] (.t 52) (.t 53))),
(6, 63, opE 58 (.build [(.slice none 0 0), (.string .empty), (.string .empty), (.int .i64 0), (.pointer none), (.int .i64 0), (.int .i64 0), (.string .empty), (.bool false), (.string .empty), (.int .u64 0), (.int .i64 0), (.bool false)] [(0, 1), (1, 3), (4, 1), (5, 1), (6, 5), (11, 1), (12, 1)] [(0, (.t 54)), (1, (.t 55)), (2, (.t 56)), (3, (.t 57))])),
(7, 127, opE 59 (.box (.t 58))),
(8, 255, mvE 8 59),
(9, 511, opE 9 (.move (icE 0)))] (some [8, 9]))
.ret))))), [.tmp 8, .tmp 9]⟩

theorem is345 : FnIs Tryz.prog 345 x345 := ⟨Tryz.f345, _, Tryz.func345, by kernel_rfl, rfl, by kernel_rfl, by decide, by kernel_rfl⟩

/-- (*cloisonne/room.Room).AsOf -/
def x346 : XDecl := .code ⟨2, 
(.seq (.ops [opE 4 (.move (icE 0)),
opE 5 (.move (icE 0))] (some [0, 1]))
(.seq (.seq (.ops [mvE 6 0,
opE 7 (.isNil .ptr false (.t 6))] (some [0, 1, 7]))
(.cond (.t 7)
(.seq (.ops [opE 4 (.move (icE 0)),
opE 5 (.move (icE 2))] (some [4, 5]))
.ret)
.skip))
(.seq (.ops [mvE 8 0,
opE 9 (.nilCheck (.t 8)),
opE 10 (.fieldAddr 4 (.t 9)),
opE 11 (.load false 1 (.t 10)),
mvE 12 1,
opE 13 (clE 412 [(.t 11), (.t 12)]),
opE 14 (.extract (.t 13) 0),
opE 15 (.extract (.t 13) 1),
mvE 4 14,
mvE 5 15] (some [4, 5]))
.ret))), [.tmp 4, .tmp 5]⟩

theorem is346 : FnIs Tryz.prog 346 x346 := ⟨Tryz.f346, _, Tryz.func346, by kernel_rfl, rfl, by kernel_rfl, by decide, by kernel_rfl⟩

/-- (*cloisonne/merge.Cursor).row -/
def x347 : XDecl := .code ⟨1, 
(.seq (.ops [opE 2 (.alloc [(.int .i64 0), (.string .empty), (.bool false), (.string .empty), (.int .u64 0)]),
opE 3 (.move (.c (.bool false)))] (some [0, 2]))
(.seq (.ops [opE 4 (.alloc [(.int .i64 0), (.string .empty), (.bool false), (.string .empty), (.int .u64 0)])] (some [0, 2, 4]))
(.seq (.ops [opE 5 (.move (.c (.bool false)))] (some [0, 2, 4, 5]))
(.seq (.seq (.ops [mvE 12 0,
opE 13 (.nilCheck (.t 12)),
opE 14 (.fieldAddr 0 (.t 13)),
opE 15 (.load false 1 (.t 14)),
opE 16 (.len (.t 15)),
opE 17 (.move (icE 0))] (some [0, 2, 4, 5, 15, 16, 17]))
(.block 0
(.loop
(.seq (.ops [opE 18 (.bin .lss 3 (.t 17) (.t 16))] (some [0, 2, 4, 5, 15, 16, 17, 18]))
(.seq (.cond (.t 18)
.skip
(.exit 0))
(.seq (.block 1
(.seq (.ops [opE 19 (.indexAddr 3 (.t 15) (.t 17)),
opE 20 (.load true 3 (.t 19)),
opE 7 (.alloc [(.pointer none), (.int .i64 0), (.int .i64 0)]),
⟨none, none, .store 3 (.t 7) (.t 20)⟩] (some [0, 2, 4, 5, 7, 15, 16, 17]))
(.seq (.ops [mvE 22 0,
opE 23 (.load true 3 (.t 7)),
opE 24 (clE 413 [(.t 22), (.t 23)]),
mvE 21 24,
opE 25 (.extract (.t 21) 0),
opE 26 (.extract (.t 21) 1),
mvE 8 25,
mvE 9 26] (some [0, 2, 4, 5, 7, 8, 9, 15, 16, 17]))
(.seq (.ops [mvE 28 0,
opE 29 (.load true 3 (.t 7)),
mvE 30 8,
mvE 31 9,
opE 32 (clE 414 [(.t 28), (.t 29), (.t 30), (.t 31)]),
mvE 27 32,
opE 33 (.extract (.t 27) 0),
opE 34 (.extract (.t 27) 1),
opE 10 (.alloc [(.int .i64 0), (.string .empty), (.bool false), (.string .empty), (.int .u64 0)]),
⟨none, none, .store 5 (.t 10) (.t 33)⟩,
mvE 11 34] (some [0, 2, 4, 5, 10, 11, 15, 16, 17]))
(.seq (.opsd [(0, 0, mvE 35 11),
(1, 1, mvE 36 35),
(2, 3, ⟨some 37, some (36, true), .move (.t 5)⟩),
(3, 7, ⟨some 38, some (36, true), .un .not (.t 37)⟩),
(4, 15, ⟨some 39, some (36, true), .move (.t 38)⟩),
(5, 31, ⟨some 40, some (39, false), .fieldAddr 1 (.t 10)⟩),
(6, 63, ⟨some 41, some (39, false), .load false 1 (.t 40)⟩),
(7, 31, ⟨some 42, some (39, false), .fieldAddr 1 (.t 4)⟩),
(8, 159, ⟨some 43, some (39, false), .load false 1 (.t 42)⟩),
(10, 31, ⟨some 45, some (39, false), .fieldAddr 0 (.t 10)⟩),
(11, 1055, ⟨some 46, some (39, false), .load false 1 (.t 45)⟩),
(12, 31, ⟨some 47, some (39, false), .fieldAddr 0 (.t 4)⟩),
(13, 4127, ⟨some 48, some (39, false), .load false 1 (.t 47)⟩),
(9, 511, ⟨some 44, some (39, false), clE 237 [(.t 41), (.t 43)]⟩),
(14, 16383, ⟨some 49, some (39, false), clE 62 [(.t 46), (.t 48)]⟩),
(15, 32767, ⟨some 50, some (39, false), .buildSlice [(.int .i64 0)] 1 2 [(0, (.t 44)), (1, (.t 49))]⟩),
(16, 65535, ⟨some 51, some (39, false), clE 283 [(.t 50)]⟩),
(17, 131071, ⟨some 52, some (39, false), .bin .lss 3 (.t 51) (icE 0)⟩),
(18, 262143, ⟨some 53, some (36, true), .pick (.t 39) (.c (.bool true)) (.t 52)⟩),
(19, 524287, opE 54 (.pick (.t 36) (.t 53) (.c (.bool false))))] (some [0, 2, 4, 5, 10, 15, 16, 17, 54]))
(.cond (.t 54)
(.ops [opE 55 (.load true 5 (.t 10)),
⟨none, none, .store 5 (.t 4) (.t 55)⟩,
opE 5 (.move (.c (.bool true)))] (some [0, 2, 4, 5, 15, 16, 17]))
.skip))))))
(.ops [opE 56 (.bin .add 3 (.t 17) (icE 1)),
mvE 17 56] (some [0, 2, 4, 5, 15, 16, 17]))))))))
(.seq (.ops [opE 57 (.load true 5 (.t 4)),
mvE 58 5,
⟨none, none, .store 5 (.t 2) (.t 57)⟩,
mvE 3 58] (some [2, 3]))
.ret))))), [.cell true 5 2, .tmp 3]⟩

theorem is347 : FnIs Tryz.prog 347 x347 := ⟨Tryz.f347, _, Tryz.func347, by kernel_rfl, rfl, by kernel_rfl, by decide, by kernel_rfl⟩

/-- (*cloisonne/sess.Session).own -/
def x351 : XDecl := .code ⟨2, 
(.seq (.ops [opE 4 (.move (icE 0))] (some [0, 1]))
(.seq (.ops [mvE 8 0,
mvE 9 1,
opE 10 (clE 418 [(.t 8), (.t 9)]),
mvE 7 10,
opE 11 (.extract (.t 7) 0),
opE 12 (.extract (.t 7) 1),
mvE 5 11,
mvE 6 12] (some [0, 1, 5, 6]))
(.seq (.block 0
(.seq (.ops [mvE 14 6,
opE 15 (.un .not (.t 14)),
mvE 13 15] (some [0, 1, 5, 13]))
(.cond (.t 13)
(.seq (.ops [opE 4 (.move (icE 1))] (some [4]))
.ret)
(.seq (.ops [mvE 17 0,
opE 18 (.nilCheck (.t 17)),
opE 19 (.fieldAddr 5 (.t 18)),
opE 20 (.load false 1 (.t 19)),
mvE 21 5,
opE 22 (clE 335 [(.t 20), (.t 21)]),
opE 23 (.un .not (.t 22)),
mvE 16 23] (some [0, 1, 5, 16]))
(.cond (.t 16)
(.seq (.ops [opE 4 (.move (icE 11))] (some [4]))
.ret)
(.seq (.ops [mvE 25 0,
mvE 26 5,
opE 27 (clE 333 [(.t 25), (.t 26)]),
opE 28 (.un .not (.t 27)),
mvE 24 28] (some [0, 1, 5, 24]))
(.cond (.t 24)
(.seq (.ops [opE 4 (.move (icE 10))] (some [4]))
.ret)
(.seq (.ops [mvE 30 0,
opE 31 (clE 334 [(.t 30)]),
mvE 32 31,
⟨some 33, some (32, true), .move (.t 0)⟩,
⟨some 34, some (32, true), .nilCheck (.t 33)⟩,
⟨some 35, some (32, true), .fieldAddr 6 (.t 34)⟩,
⟨some 36, some (32, true), .load false 1 (.t 35)⟩,
⟨some 37, some (32, true), .nilCheck (.t 36)⟩,
⟨some 38, some (32, true), .fieldAddr 2 (.t 37)⟩,
⟨some 39, some (32, true), .load false 1 (.t 38)⟩,
⟨some 40, some (32, true), .move (.t 1)⟩,
⟨some 41, some (32, true), .bin .neq 3 (.t 39) (.t 40)⟩,
opE 42 (.pick (.t 32) (.t 41) (.c (.bool false))),
mvE 29 42] (some [0, 1, 5, 29]))
(.cond (.t 29)
(.seq (.ops [opE 4 (.move (icE 12))] (some [4]))
.ret)
.skip)))))))))
(.seq (.ops [mvE 43 0,
mvE 44 0,
opE 45 (.nilCheck (.t 44)),
opE 46 (.fieldAddr 6 (.t 45)),
opE 47 (.load false 1 (.t 46)),
mvE 48 5,
mvE 49 1,
opE 50 (.nilCheck (.t 43)),
opE 51 (.fieldAddr 5 (.t 50)),
⟨none, none, .store 1 (.t 51) (.t 48)⟩,
opE 52 (.nilCheck (.t 47)),
opE 53 (.fieldAddr 2 (.t 52)),
⟨none, none, .store 1 (.t 53) (.t 49)⟩] (some []))
(.seq (.ops [opE 4 (.move (icE 0))] (some [4]))
.ret))))), [.tmp 4]⟩

theorem is351 : FnIs Tryz.prog 351 x351 := ⟨Tryz.f351, _, Tryz.func351, by kernel_rfl, rfl, by kernel_rfl, by decide, by kernel_rfl⟩

/-- (*cloisonne/wset.Set).Put -/
def x353 : XDecl := .code ⟨3, 
(.seq (.ops [opE 5 (.box (.t 2)),
opE 6 (.move (icE 0))] (some [0, 1, 5]))
(.seq (.ops [mvE 7 0,
mvE 8 1,
opE 9 (.load true 3 (.t 5)),
opE 10 (.build [(.string .empty), (.bool false), (.bool false), (.string .empty), (.int .u64 0)] [(0, 1), (1, 1), (2, 3)] [(0, (.t 8)), (2, (.t 9))]),
opE 11 (clE 421 [(.t 7), (.t 10)]),
mvE 6 11] (some [6]))
.ret)), [.tmp 6]⟩

theorem is353 : FnIs Tryz.prog 353 x353 := ⟨Tryz.f353, _, Tryz.func353, by kernel_rfl, rfl, by kernel_rfl, by decide, by kernel_rfl⟩

/-- slices.isNaN[string] -/
def x359 : XDecl := .code ⟨1, 
(.seq (.ops [opE 2 (.move (.c (.bool false)))] (some [0]))
(.seq (.ops [mvE 3 0,
mvE 4 0,
opE 5 (.bin .neq 9 (.t 3) (.t 4)),
mvE 2 5] (some [2]))
.ret)), [.tmp 2]⟩

theorem is359 : FnIs Tryz.prog 359 x359 := ⟨Tryz.f359, _, Tryz.func359, by kernel_rfl, rfl, by kernel_rfl, by decide, by kernel_rfl⟩

/-- cloisonne/sector.Pack -/
def x367 : XDecl := .code ⟨2, 
(.seq (.ops [opE 2 (.box (.t 0)),
opE 4 (.move (.c (.string .empty))),
opE 5 (.move (icE 0))] (some [1, 2]))
(.seq (.block 0
(.seq (.ops [opE 8 (.load true 5 (.t 2)),
opE 9 (clE 428 [(.t 8)]),
opE 10 (.un .not (.t 9)),
mvE 7 10] (some [1, 2, 7]))
(.cond (.t 7)
(.seq (.ops [opE 4 (.move (.c (.string .empty))),
opE 5 (.move (icE 1))] (some [4, 5]))
.ret)
(.seq (.ops [mvE 12 1,
opE 13 (.calcB .len [9] 3 [(.t 12)]),
opE 14 (.bin .gtr 3 (.t 13) (icE 50)),
mvE 11 14] (some [1, 2, 11]))
(.cond (.t 11)
(.seq (.ops [opE 4 (.move (.c (.string .empty))),
opE 5 (.move (icE 5))] (some [4, 5]))
.ret)
.skip)))))
(.seq (.ops [opE 15 (.buildSlice [(.int .u8 0)] 1 1 [(0, (.c (.int .u8 193)))]),
opE 16 (.fieldAddr 0 (.t 2)),
opE 17 (.load false 1 (.t 16)),
opE 18 (clE 429 [(.t 15), (.t 17), (icE 4)]),
mvE 6 18] (some [1, 2, 6]))
(.seq (.ops [mvE 19 6,
opE 20 (.fieldAddr 1 (.t 2)),
opE 21 (.load false 1 (.t 20)),
opE 22 (clE 429 [(.t 19), (.t 21), (icE 2)]),
mvE 6 22] (some [1, 2, 6]))
(.seq (.ops [mvE 23 6,
opE 24 (.fieldAddr 2 (.t 2)),
opE 25 (.load false 1 (.t 24)),
opE 26 (clE 429 [(.t 23), (.t 25), (icE 4)]),
mvE 6 26] (some [1, 2, 6]))
(.seq (.ops [mvE 27 6,
opE 28 (.fieldAddr 3 (.t 2)),
opE 29 (.load false 1 (.t 28)),
opE 30 (.conv 3 5 (.t 29)),
opE 31 (.fieldAddr 4 (.t 2)),
opE 32 (.load false 1 (.t 31)),
opE 33 (.conv 3 5 (.t 32)),
mvE 34 1,
opE 35 (.calcB .len [9] 3 [(.t 34)]),
opE 36 (.conv 3 5 (.t 35)),
opE 37 (.buildSlice [(.int .u8 0)] 1 3 [(0, (.t 30)), (1, (.t 33)), (2, (.t 36))]),
opE 38 (.append 1 1 [(.int .u8 0)] (.t 27) (.t 37)),
mvE 6 38] (some [1, 6]))
(.seq (.ops [mvE 39 6,
mvE 40 1,
opE 41 (.append 1 1 [(.int .u8 0)] (.t 39) (.t 40)),
mvE 6 41] (some [6]))
(.seq (.ops [mvE 42 6,
mvE 43 6,
opE 44 (.len (.t 43)),
opE 45 (.bin .sub 3 (icE 64) (.t 44)),
opE 46 (.appendZeros 1 1 [(.int .u8 0)] (.t 42) (.t 45)),
opE 47 (.bstr (.t 46)),
mvE 4 47,
opE 5 (.move (icE 0))] (some [4, 5]))
.ret)))))))), [.tmp 4, .tmp 5]⟩

theorem is367 : FnIs Tryz.prog 367 x367 := ⟨Tryz.f367, _, Tryz.func367, by kernel_rfl, rfl, by kernel_rfl, by decide, by kernel_rfl⟩

/-- (*cloisonne/extent.World).Write -/
def x368 : XDecl := .code ⟨4, 
(.seq (.ops [opE 8 (.move (icE 0))] (some [0, 1, 2, 3]))
(.seq (.ops [mvE 10 0,
mvE 11 1,
mvE 12 2,
opE 13 (clE 369 [(.t 10), (.t 11), (.t 12)]),
mvE 9 13] (some [0, 1, 2, 3, 9]))
(.seq (.block 0
(.seq (.ops [mvE 15 9,
opE 16 (.bin .neq 32 (.t 15) (icE 0)),
mvE 14 16] (some [0, 1, 2, 3, 9, 14]))
(.cond (.t 14)
(.seq (.ops [mvE 17 9,
mvE 8 17] (some [8]))
.ret)
(.seq (.ops [mvE 19 3,
opE 20 (.calcB .len [9] 3 [(.t 19)]),
opE 21 (.bin .gtr 3 (.t 20) (icE 64)),
mvE 18 21] (some [0, 1, 2, 3, 18]))
(.cond (.t 18)
(.seq (.ops [opE 8 (.move (icE 5))] (some [8]))
.ret)
.skip)))))
(.seq (.ops [mvE 22 0,
opE 23 (.nilCheck (.t 22)),
opE 24 (.fieldAddr 3 (.t 23)),
opE 25 (.load false 1 (.t 24)),
mvE 26 1,
opE 27 (.indexAddr 1 (.t 25) (.t 26)),
opE 28 (.load false 1 (.t 27)),
mvE 29 2,
mvE 30 3,
⟨none, none, .mapUpdate true (.t 28) (.t 29) (.t 30)⟩] (some []))
(.seq (.ops [opE 8 (.move (icE 0))] (some [8]))
.ret))))), [.tmp 8]⟩

theorem is368 : FnIs Tryz.prog 368 x368 := ⟨Tryz.f368, _, Tryz.func368, by kernel_rfl, rfl, by kernel_rfl, by decide, by kernel_rfl⟩

/-- (*cloisonne/extent.World).power -/
def x369 : XDecl := .code ⟨3, 
(.seq (.ops [opE 6 (.move (icE 0))] (some [0, 1, 2]))
(.seq (.seq (.ops [mvE 7 0,
opE 8 (.isNil .ptr true (.t 7)),
mvE 9 8,
⟨some 10, some (9, true), .move (.t 0)⟩,
⟨some 11, some (9, true), .nilCheck (.t 10)⟩,
⟨some 12, some (9, true), .fieldAddr 0 (.t 11)⟩,
⟨some 13, some (9, true), .load false 1 (.t 12)⟩,
opE 14 (.pick (.t 9) (.t 13) (.c (.bool false)))] (some [0, 1, 2, 14]))
(.cond (.t 14)
(.seq (.ops [opE 6 (.move (icE 6))] (some [6]))
.ret)
.skip))
(.seq (.ops [mvE 15 0,
mvE 16 1,
mvE 17 2,
opE 18 (clE 153 [(.t 15), (.t 16), (.t 17)]),
mvE 6 18] (some [6]))
.ret))), [.tmp 6]⟩

theorem is369 : FnIs Tryz.prog 369 x369 := ⟨Tryz.f369, _, Tryz.func369, by kernel_rfl, rfl, by kernel_rfl, by decide, by kernel_rfl⟩

/-- (*cloisonne/extent.World).Read -/
def x371 : XDecl := .code ⟨3, 
(.seq (.ops [opE 6 (.move (.c (.string .empty))),
opE 7 (.move (icE 0))] (some [0, 1, 2]))
(.seq (.seq (.ops [mvE 11 0,
mvE 12 1,
mvE 13 2,
opE 14 (clE 369 [(.t 11), (.t 12), (.t 13)]),
mvE 8 14] (some [0, 1, 2, 8]))
(.seq (.ops [mvE 15 8,
opE 16 (.bin .neq 32 (.t 15) (icE 0))] (some [0, 1, 2, 8, 16]))
(.cond (.t 16)
(.seq (.ops [mvE 17 8,
opE 6 (.move (.c (.string .empty))),
mvE 7 17] (some [6, 7]))
.ret)
.skip)))
(.seq (.seq (.ops [mvE 19 0,
opE 20 (.nilCheck (.t 19)),
opE 21 (.fieldAddr 3 (.t 20)),
opE 22 (.load false 1 (.t 21)),
mvE 23 1,
opE 24 (.indexAddr 1 (.t 22) (.t 23)),
opE 25 (.load false 1 (.t 24)),
mvE 26 2,
opE 27 (.lookup true (.string .empty) true (.t 25) (.t 26)),
mvE 18 27,
opE 28 (.extract (.t 18) 0),
opE 29 (.extract (.t 18) 1),
mvE 9 28,
mvE 10 29] (some [0, 1, 2, 9, 10]))
(.seq (.ops [mvE 30 10] (some [0, 1, 2, 9, 30]))
(.cond (.t 30)
(.seq (.ops [mvE 31 9,
mvE 6 31,
opE 7 (.move (icE 0))] (some [6, 7]))
.ret)
.skip)))
(.seq (.ops [mvE 32 0,
opE 33 (.nilCheck (.t 32)),
opE 34 (.fieldAddr 2 (.t 33)),
opE 35 (.load false 1 (.t 34)),
mvE 36 1,
opE 37 (.indexAddr 1 (.t 35) (.t 36)),
opE 38 (.load false 1 (.t 37)),
mvE 39 2,
opE 40 (.indexAddr 1 (.t 38) (.t 39)),
opE 41 (.load false 1 (.t 40)),
mvE 6 41,
opE 7 (.move (icE 0))] (some [6, 7]))
.ret)))), [.tmp 6, .tmp 7]⟩

theorem is371 : FnIs Tryz.prog 371 x371 := ⟨Tryz.f371, _, Tryz.func371, by kernel_rfl, rfl, by kernel_rfl, by decide, by kernel_rfl⟩

/-- cloisonne/sector.Unpack -/
def x372 : XDecl := .code ⟨1, 
(.seq (.ops [opE 2 (.alloc [(.int .i64 0), (.int .i64 0), (.int .i64 0), (.int .i64 0), (.int .i64 0)]),
opE 3 (.move (.c (.string .empty))),
opE 4 (.move (icE 0))] (some [0, 2]))
(.seq (.seq (.ops [mvE 7 0,
opE 8 (.calcB .len [9] 3 [(.t 7)]),
opE 9 (.bin .neq 3 (.t 8) (icE 64)),
mvE 10 9,
⟨some 11, some (10, false), .move (.t 0)⟩,
⟨some 12, some (10, false), .index 9 (.t 11) (icE 0)⟩,
⟨some 13, some (10, false), .bin .neq 5 (.t 12) (.c (.int .u8 193))⟩,
opE 14 (.pick (.t 10) (.c (.bool true)) (.t 13))] (some [0, 2, 14]))
(.cond (.t 14)
(.seq (.ops [opE 15 (.build [(.int .i64 0), (.int .i64 0), (.int .i64 0), (.int .i64 0), (.int .i64 0)] [(0, 1), (1, 1), (2, 1), (3, 1), (4, 1)] []),
⟨none, none, .store 5 (.t 2) (.t 15)⟩,
opE 3 (.move (.c (.string .empty))),
opE 4 (.move (icE 4))] (some [2, 3, 4]))
.ret)
.skip))
(.seq (.opsd [(0, 0, mvE 16 0),
(1, 1, opE 17 (.substr 9 (.t 16) (some (icE 1)) (some (icE 5)))),
(3, 0, mvE 19 0),
(4, 8, opE 20 (.substr 9 (.t 19) (some (icE 5)) (some (icE 7)))),
(6, 0, mvE 22 0),
(7, 64, opE 23 (.substr 9 (.t 22) (some (icE 7)) (some (icE 11)))),
(9, 0, mvE 25 0),
(10, 512, opE 26 (.substr 9 (.t 25) (some (icE 11)) (some (icE 12)))),
(12, 0, mvE 28 0),
(13, 4096, opE 29 (.substr 9 (.t 28) (some (icE 12)) (some (icE 13)))),
(16, 0, opE 5 (.alloc [(.int .i64 0), (.int .i64 0), (.int .i64 0), (.int .i64 0), (.int .i64 0)])),
(2, 3, opE 18 (clE 431 [(.t 17)])),
(5, 31, opE 21 (clE 431 [(.t 20)])),
(8, 255, opE 24 (clE 431 [(.t 23)])),
(11, 2047, opE 27 (clE 431 [(.t 26)])),
(14, 16383, opE 30 (clE 431 [(.t 29)])),
(15, 32767, opE 31 (.build [(.int .i64 0), (.int .i64 0), (.int .i64 0), (.int .i64 0), (.int .i64 0)] [(0, 1), (1, 1), (2, 1), (3, 1), (4, 1)] [(0, (.t 18)), (1, (.t 21)), (2, (.t 24)), (3, (.t 27)), (4, (.t 30))])),
(17, 131071, ⟨none, none, .store 5 (.t 5) (.t 31)⟩)] (some [0, 2, 5]))
(.seq (.ops [mvE 32 0,
opE 33 (.substr 9 (.t 32) (some (icE 13)) (some (icE 14))),
opE 34 (clE 431 [(.t 33)]),
mvE 6 34] (some [0, 2, 5, 6]))
(.seq (.seq (.ops [opE 35 (.load true 5 (.t 5)),
opE 36 (clE 428 [(.t 35)]),
opE 37 (.un .not (.t 36)),
mvE 38 37,
⟨some 39, some (38, false), .move (.t 6)⟩,
⟨some 40, some (38, false), .bin .gtr 3 (.t 39) (icE 50)⟩,
opE 41 (.pick (.t 38) (.c (.bool true)) (.t 40)),
mvE 42 41,
⟨some 43, some (42, false), .move (.t 0)⟩,
⟨some 44, some (42, false), .move (.t 6)⟩,
⟨some 45, some (42, false), .bin .add 3 (icE 14) (.t 44)⟩,
⟨some 46, some (42, false), .substr 9 (.t 43) (some (.t 45)) none⟩,
⟨some 47, some (42, false), clE 432 [(.t 46), (.c (.string ⟨#[0]⟩))]⟩,
⟨some 48, some (42, false), .bin .neq 9 (.t 47) (.c (.string .empty))⟩,
opE 49 (.pick (.t 42) (.c (.bool true)) (.t 48))] (some [0, 2, 5, 6, 49]))
(.cond (.t 49)
(.seq (.ops [opE 50 (.build [(.int .i64 0), (.int .i64 0), (.int .i64 0), (.int .i64 0), (.int .i64 0)] [(0, 1), (1, 1), (2, 1), (3, 1), (4, 1)] []),
⟨none, none, .store 5 (.t 2) (.t 50)⟩,
opE 3 (.move (.c (.string .empty))),
opE 4 (.move (icE 4))] (some [2, 3, 4]))
.ret)
.skip))
(.seq (.opsd [(0, 0, opE 51 (.load true 5 (.t 5))),
(1, 0, mvE 52 0),
(2, 0, mvE 53 6),
(3, 4, opE 54 (.bin .add 3 (icE 14) (.t 53))),
(4, 14, opE 55 (.substr 9 (.t 52) (some (icE 14)) (some (.t 54)))),
(5, 1, ⟨none, none, .store 5 (.t 2) (.t 51)⟩),
(6, 63, mvE 3 55),
(7, 127, opE 4 (.move (icE 0)))] (some [2, 3, 4]))
.ret)))))), [.cell true 5 2, .tmp 3, .tmp 4]⟩

theorem is372 : FnIs Tryz.prog 372 x372 := ⟨Tryz.f372, _, Tryz.func372, by kernel_rfl, rfl, by kernel_rfl, by decide, by kernel_rfl⟩

/-- (*cloisonne/seglog.Log).Busy -/
def x374 : XDecl := .code ⟨1, 
(.seq (.ops [opE 2 (.move (.c (.bool false)))] (some [0]))
(.seq (.ops [mvE 3 0,
opE 4 (.isNil .ptr true (.t 3)),
mvE 5 4,
⟨some 6, some (5, true), .move (.t 0)⟩,
⟨some 7, some (5, true), .nilCheck (.t 6)⟩,
⟨some 8, some (5, true), .fieldAddr 6 (.t 7)⟩,
⟨some 9, some (5, true), .load false 1 (.t 8)⟩,
⟨some 10, some (5, true), .isNil .ptr true (.t 9)⟩,
opE 11 (.pick (.t 5) (.t 10) (.c (.bool false))),
mvE 2 11] (some [2]))
.ret)), [.tmp 2]⟩

theorem is374 : FnIs Tryz.prog 374 x374 := ⟨Tryz.f374, _, Tryz.func374, by kernel_rfl, rfl, by kernel_rfl, by decide, by kernel_rfl⟩

/-- (*cloisonne/seglog.Log).fits -/
def x375 : XDecl := .code ⟨3, 
(.seq (.ops [opE 6 (.move (.c (.bool false)))] (some [0, 1, 2]))
(.seq (.opsd [(0, 0, mvE 7 1),
(1, 1, opE 8 (.bin .geq 3 (.t 7) (icE 0))),
(2, 3, mvE 9 8),
(3, 7, ⟨some 10, some (9, true), .move (.t 1)⟩),
(5, 7, ⟨some 12, some (9, true), .move (.t 0)⟩),
(6, 39, ⟨some 13, some (9, true), .nilCheck (.t 12)⟩),
(7, 103, ⟨some 14, some (9, true), .fieldAddr 0 (.t 13)⟩),
(8, 231, ⟨some 15, some (9, true), .load false 1 (.t 14)⟩),
(10, 7, ⟨some 17, some (9, true), .move (.t 2)⟩),
(4, 15, ⟨some 11, some (9, true), clE 436 [(.t 10)]⟩),
(9, 511, ⟨some 16, some (9, true), clE 156 [(.t 15)]⟩),
(11, 2047, ⟨some 18, some (9, true), .bin .sub 3 (.t 16) (.t 17)⟩),
(12, 4095, ⟨some 19, some (9, true), .bin .leq 3 (.t 11) (.t 18)⟩),
(13, 8191, opE 20 (.pick (.t 9) (.t 19) (.c (.bool false)))),
(14, 16383, mvE 6 20)] (some [6]))
.ret)), [.tmp 6]⟩

theorem is375 : FnIs Tryz.prog 375 x375 := ⟨Tryz.f375, _, Tryz.func375, by kernel_rfl, rfl, by kernel_rfl, by decide, by kernel_rfl⟩

/-- (*cloisonne/seglog.Log).begin -/
def x376 : XDecl := .code ⟨2, 
(.seq (.ops [opE 4 (.move (.c (.pointer none))),
opE 5 (.move (icE 0))] (some [0, 1]))
(.seq (.seq (.ops [mvE 6 1,
opE 7 (.nilCheck (.t 6)),
opE 8 (.fieldAddr 2 (.t 7)),
opE 9 (.load false 1 (.t 8)),
opE 10 (.bin .gtr 3 (.t 9) (icE 2147483647)),
mvE 11 10,
⟨some 12, some (11, false), .move (.t 0)⟩,
⟨some 13, some (11, false), .nilCheck (.t 12)⟩,
⟨some 14, some (11, false), .fieldAddr 5 (.t 13)⟩,
⟨some 15, some (11, false), .load false 1 (.t 14)⟩,
⟨some 16, some (11, false), .bin .gtr 3 (.t 15) (icE 2147483647)⟩,
opE 17 (.pick (.t 11) (.c (.bool true)) (.t 16))] (some [0, 1, 17]))
(.cond (.t 17)
(.seq (.ops [opE 4 (.move (.c (.pointer none))),
opE 5 (.move (icE 17))] (some [4, 5]))
.ret)
.skip))
(.seq (.ops [mvE 18 1,
mvE 19 0,
mvE 20 0,
mvE 21 1,
opE 22 (.nilCheck (.t 18)),
opE 23 (.fieldAddr 0 (.t 22)),
⟨none, none, .store 1 (.t 23) (.t 20)⟩,
opE 24 (.nilCheck (.t 19)),
opE 25 (.fieldAddr 6 (.t 24)),
⟨none, none, .store 1 (.t 25) (.t 21)⟩] (some [1]))
(.seq (.ops [mvE 26 1,
mvE 4 26,
opE 5 (.move (icE 0))] (some [4, 5]))
.ret)))), [.tmp 4, .tmp 5]⟩

theorem is376 : FnIs Tryz.prog 376 x376 := ⟨Tryz.f376, _, Tryz.func376, by kernel_rfl, rfl, by kernel_rfl, by decide, by kernel_rfl⟩

/-- cloisonne/sector.Parts -/
def x377 : XDecl := .code ⟨1, 
(.seq (.ops [opE 2 (.move (.c (.slice none 0 0)))] (some [0]))
(.seq (.ops [opE 3 (.move (.c (.slice none 0 0)))] (some [0, 3]))
(.seq (.block 0
(.loop
(.seq (.seq (.ops [mvE 4 0,
opE 5 (.calcB .len [9] 3 [(.t 4)]),
opE 6 (.bin .gtr 3 (.t 5) (icE 50))] (some [0, 3, 6]))
(.cond (.t 6)
.skip
(.exit 0)))
(.block 1
(.seq (.ops [mvE 7 3,
mvE 8 0,
opE 9 (.substr 9 (.t 8) none (some (icE 50))),
opE 10 (.buildSlice [(.string .empty)] 1 1 [(0, (.t 9))]),
opE 11 (.append 1 16 [(.string .empty)] (.t 7) (.t 10)),
mvE 3 11] (some [0, 3]))
(.ops [mvE 12 0,
opE 13 (.substr 9 (.t 12) (some (icE 50)) none),
mvE 0 13] (some [0, 3])))))))
(.seq (.ops [mvE 14 3,
mvE 15 0,
opE 16 (.buildSlice [(.string .empty)] 1 1 [(0, (.t 15))]),
opE 17 (.append 1 16 [(.string .empty)] (.t 14) (.t 16)),
mvE 2 17] (some [2]))
.ret)))), [.tmp 2]⟩

theorem is377 : FnIs Tryz.prog 377 x377 := ⟨Tryz.f377, _, Tryz.func377, by kernel_rfl, rfl, by kernel_rfl, by decide, by kernel_rfl⟩

/-- cloisonne/ring.New -/
def x383 : XDecl := .code ⟨2, 
(.seq (.ops [opE 4 (.move (.c (.pointer none))),
opE 5 (.move (icE 0))] (some [0, 1]))
(.seq (.seq (.ops [mvE 6 0,
opE 7 (.bin .lss 3 (.t 6) (icE 1)),
mvE 8 7,
⟨some 9, some (8, false), .move (.t 0)⟩,
⟨some 10, some (8, false), .bin .gtr 3 (.t 9) (icE 16)⟩,
opE 11 (.pick (.t 8) (.c (.bool true)) (.t 10)),
mvE 12 11,
⟨some 13, some (12, false), .move (.t 1)⟩,
⟨some 14, some (12, false), .bin .lss 3 (.t 13) (icE 0)⟩,
opE 15 (.pick (.t 12) (.c (.bool true)) (.t 14)),
mvE 16 15,
⟨some 17, some (16, false), .move (.t 1)⟩,
⟨some 18, some (16, false), .bin .gtr 3 (.t 17) (icE 1073741824)⟩,
opE 19 (.pick (.t 16) (.c (.bool true)) (.t 18))] (some [0, 1, 19]))
(.cond (.t 19)
(.seq (.ops [opE 4 (.move (.c (.pointer none))),
opE 5 (.move (icE 1))] (some [4, 5]))
.ret)
.skip))
(.seq (.ops [mvE 20 0,
mvE 21 1,
mvE 22 1,
opE 23 (.build [(.int .i64 0), (.int .i64 0), (.int .i64 0), (.slice none 0 0)] [(0, 1), (1, 1), (2, 1), (3, 1)] [(0, (.t 20)), (1, (.t 21)), (2, (.t 22))]),
opE 24 (.box (.t 23)),
mvE 4 24,
opE 5 (.move (icE 0))] (some [4, 5]))
.ret))), [.tmp 4, .tmp 5]⟩

theorem is383 : FnIs Tryz.prog 383 x383 := ⟨Tryz.f383, _, Tryz.func383, by kernel_rfl, rfl, by kernel_rfl, by decide, by kernel_rfl⟩

/-- cloisonne/tree.New -/
def x384 : XDecl := .code ⟨0, 
(.seq (.ops [opE 0 (.move (.c (.pointer none)))] (some []))
(.seq (.ops [opE 1 (.build [(.slice none 0 0), (.slice none 0 0), (.int .i64 0), (.int .i64 0)] [(0, 1), (1, 1), (2, 1), (3, 1)] [(2, (icE (-1)))]),
opE 2 (.box (.t 1)),
mvE 0 2] (some [0]))
.ret)), [.tmp 0]⟩

theorem is384 : FnIs Tryz.prog 384 x384 := ⟨Tryz.f384, _, Tryz.func384, by kernel_rfl, rfl, by kernel_rfl, by decide, by kernel_rfl⟩

/-- cloisonne/room.key -/
def x386 : XDecl := .code ⟨1, 
(.seq (.ops [opE 2 (.move (.c (.bool false)))] (some [0]))
(.seq (.ops [mvE 3 0,
opE 4 (.calcB .len [9] 3 [(.t 3)]),
opE 5 (clE 285 [(.t 4), (icE 1), (icE 32)]),
mvE 2 5] (some [2]))
.ret)), [.tmp 2]⟩

theorem is386 : FnIs Tryz.prog 386 x386 := ⟨Tryz.f386, _, Tryz.func386, by kernel_rfl, rfl, by kernel_rfl, by decide, by kernel_rfl⟩

/-- (*cloisonne/room.Room).put -/
def x387 : XDecl := .code ⟨3, 
(.seq (.ops [opE 5 (.box (.t 2)),
opE 6 (.move (icE 0))] (some [0, 1, 5]))
(.seq (.opsd [(0, 0, mvE 10 0),
(1, 0, mvE 11 1),
(3, 0, opE 13 (.load true 5 (.t 5))),
(2, 3, opE 12 (clE 88 [(.t 10), (.t 11)])),
(4, 15, opE 14 (clE 444 [(.t 12), (.t 13)])),
(5, 31, mvE 9 14),
(6, 63, opE 15 (.extract (.t 9) 0)),
(7, 63, opE 16 (.extract (.t 9) 1)),
(8, 127, mvE 7 15),
(9, 511, mvE 8 16)] (some [0, 1, 7, 8]))
(.seq (.seq (.ops [mvE 17 8,
opE 18 (.bin .neq 32 (.t 17) (icE 0))] (some [0, 1, 7, 8, 18]))
(.cond (.t 18)
(.seq (.ops [mvE 19 8,
mvE 6 19] (some [6]))
.ret)
.skip))
(.seq (.ops [mvE 20 0,
mvE 21 1,
mvE 22 7,
opE 23 (clE 91 [(.t 20), (.t 21), (.t 22)])] (some []))
(.seq (.ops [opE 6 (.move (icE 0))] (some [6]))
.ret))))), [.tmp 6]⟩

theorem is387 : FnIs Tryz.prog 387 x387 := ⟨Tryz.f387, _, Tryz.func387, by kernel_rfl, rfl, by kernel_rfl, by decide, by kernel_rfl⟩

/-- (*cloisonne/ring.Ring).Seq -/
def x389 : XDecl := .code ⟨1, 
(.seq (.ops [opE 2 (.move (icE 0))] (some [0]))
(.seq (.seq (.ops [mvE 3 0,
opE 4 (.isNil .ptr false (.t 3))] (some [0, 4]))
(.cond (.t 4)
(.seq (.ops [opE 2 (.move (icE 0))] (some [2]))
.ret)
.skip))
(.seq (.ops [mvE 5 0,
opE 6 (.nilCheck (.t 5)),
opE 7 (.fieldAddr 2 (.t 6)),
opE 8 (.load false 1 (.t 7)),
mvE 2 8] (some [2]))
.ret))), [.tmp 2]⟩

theorem is389 : FnIs Tryz.prog 389 x389 := ⟨Tryz.f389, _, Tryz.func389, by kernel_rfl, rfl, by kernel_rfl, by decide, by kernel_rfl⟩

/-- cloisonne/room.May -/
def x390 : XDecl := .code ⟨1, 
(.seq (.ops [opE 2 (.move (.c (.bool false)))] (some [0]))
(.seq (.seq (.ops [mvE 5 0,
opE 6 (.len (.t 5)),
opE 7 (.move (icE 0))] (some [0, 5, 6, 7]))
(.block 0
(.loop
(.seq (.ops [opE 8 (.bin .lss 3 (.t 7) (.t 6))] (some [0, 5, 6, 7, 8]))
(.seq (.cond (.t 8)
.skip
(.exit 0))
(.seq (.block 1
(.seq (.ops [mvE 9 7,
opE 10 (.indexAddr 5 (.t 5) (.t 7)),
opE 11 (.load true 5 (.t 10)),
opE 4 (.alloc [(.string .empty), (.bool false), (.bool false), (.string .empty), (.int .u64 0)]),
mvE 3 9,
⟨none, none, .store 5 (.t 4) (.t 11)⟩] (some [0, 3, 4, 5, 6, 7]))
(.seq (.opsd [(0, 0, opE 12 (.fieldAddr 0 (.t 4))),
(1, 1, opE 13 (.load false 1 (.t 12))),
(2, 3, opE 14 (clE 386 [(.t 13)])),
(3, 7, opE 15 (.un .not (.t 14))),
(4, 15, mvE 16 15),
(5, 31, ⟨some 17, some (16, false), .fieldAddr 2 (.t 4)⟩),
(6, 63, ⟨some 18, some (16, false), .load true 3 (.t 17)⟩),
(7, 127, ⟨some 19, some (16, false), clE 116 [(.t 18)]⟩),
(8, 255, ⟨some 20, some (16, false), .un .not (.t 19)⟩),
(9, 511, opE 21 (.pick (.t 16) (.c (.bool true)) (.t 20))),
(10, 1023, mvE 22 21),
(11, 2047, ⟨some 23, some (22, false), .fieldAddr 1 (.t 4)⟩),
(12, 4095, ⟨some 24, some (22, false), .load false 1 (.t 23)⟩),
(13, 8191, ⟨some 25, some (22, false), .move (.t 24)⟩),
(14, 16383, ⟨some 26, some (25, true), .fieldAddr 2 (.t 4)⟩),
(15, 32767, ⟨some 27, some (25, true), .load true 3 (.t 26)⟩),
(16, 16383, ⟨some 28, some (25, true), .build [(.bool false), (.string .empty), (.int .u64 0)] [(0, 1), (1, 1), (2, 1)] []⟩),
(17, 131071, ⟨some 29, some (25, true), .bin .neq 79 (.t 27) (.t 28)⟩),
(18, 262143, ⟨some 30, some (22, false), .pick (.t 25) (.t 29) (.c (.bool false))⟩),
(19, 524287, opE 31 (.pick (.t 22) (.c (.bool true)) (.t 30))),
(20, 1048575, mvE 32 31),
(21, 2097151, ⟨some 33, some (32, false), .move (.t 3)⟩),
(22, 4194303, ⟨some 34, some (32, false), .bin .gtr 3 (.t 33) (icE 0)⟩),
(23, 8388607, ⟨some 35, some (32, false), .move (.t 34)⟩),
(24, 16777215, ⟨some 36, some (35, true), .move (.t 0)⟩),
(25, 16777215, ⟨some 37, some (35, true), .move (.t 3)⟩),
(26, 50331647, ⟨some 38, some (35, true), .bin .sub 3 (.t 37) (icE 1)⟩),
(27, 134217727, ⟨some 39, some (35, true), .indexAddr 5 (.t 36) (.t 38)⟩),
(28, 268435455, ⟨some 40, some (35, true), .fieldAddr 0 (.t 39)⟩),
(29, 536870911, ⟨some 41, some (35, true), .load false 1 (.t 40)⟩),
(30, 16777215, ⟨some 42, some (35, true), .fieldAddr 0 (.t 4)⟩),
(31, 1090519039, ⟨some 43, some (35, true), .load false 1 (.t 42)⟩),
(32, 4294967295, ⟨some 44, some (35, true), .bin .geq 9 (.t 41) (.t 43)⟩),
(33, 8589934591, ⟨some 45, some (32, false), .pick (.t 35) (.t 44) (.c (.bool false))⟩),
(34, 17179869183, opE 46 (.pick (.t 32) (.c (.bool true)) (.t 45)))] (some [0, 5, 6, 7, 46]))
(.cond (.t 46)
(.seq (.ops [opE 2 (.move (.c (.bool false)))] (some [2]))
.ret)
.skip))))
(.ops [opE 47 (.bin .add 3 (.t 7) (icE 1)),
mvE 7 47] (some [0, 5, 6, 7]))))))))
(.seq (.ops [mvE 48 0,
opE 49 (.len (.t 48)),
opE 50 (clE 285 [(.t 49), (icE 1), (icE 16)]),
mvE 2 50] (some [2]))
.ret))), [.tmp 2]⟩

theorem is390 : FnIs Tryz.prog 390 x390 := ⟨Tryz.f390, _, Tryz.func390, by kernel_rfl, rfl, by kernel_rfl, by decide, by kernel_rfl⟩

/-- (*cloisonne/room.Room).room -/
def x391 : XDecl := .code ⟨2, 
(.seq (.ops [opE 4 (.move (icE 0))] (some [0, 1]))
(.seq (.seq (.opsd [(0, 0, mvE 8 0),
(2, 0, mvE 10 0),
(3, 4, opE 11 (.nilCheck (.t 10))),
(4, 12, opE 12 (.fieldAddr 0 (.t 11))),
(5, 28, opE 13 (.fieldAddr 3 (.t 12))),
(6, 60, opE 14 (.load false 1 (.t 13))),
(1, 1, opE 9 (clE 306 [(.t 8)])),
(7, 127, opE 15 (.bin .geq 3 (.t 9) (.t 14)))] (some [0, 1, 15]))
(.cond (.t 15)
(.seq (.ops [opE 4 (.move (icE 17))] (some [4]))
.ret)
.skip))
(.seq (.ops [mvE 16 0,
opE 17 (.nilCheck (.t 16)),
opE 18 (.fieldAddr 8 (.t 17)),
opE 19 (.load false 1 (.t 18)),
mvE 5 19] (some [0, 1, 5]))
(.seq (.seq (.ops [mvE 20 1,
opE 21 (.len (.t 20)),
opE 22 (.move (icE 0))] (some [0, 5, 20, 21, 22]))
(.block 0
(.loop
(.seq (.ops [opE 23 (.bin .lss 3 (.t 22) (.t 21))] (some [0, 5, 20, 21, 22, 23]))
(.seq (.cond (.t 23)
.skip
(.exit 0))
(.seq (.block 1
(.seq (.ops [opE 24 (.indexAddr 5 (.t 20) (.t 22)),
opE 25 (.load true 5 (.t 24)),
opE 7 (.alloc [(.string .empty), (.bool false), (.bool false), (.string .empty), (.int .u64 0)]),
⟨none, none, .store 5 (.t 7) (.t 25)⟩] (some [0, 5, 7, 20, 21, 22]))
(.seq (.opsd [(0, 0, mvE 26 5),
(1, 0, opE 27 (.fieldAddr 0 (.t 7))),
(2, 2, opE 28 (.load false 1 (.t 27))),
(3, 0, mvE 29 0),
(4, 0, opE 30 (.fieldAddr 0 (.t 7))),
(5, 16, opE 31 (.load false 1 (.t 30))),
(6, 56, opE 32 (clE 88 [(.t 29), (.t 31)])),
(7, 126, opE 33 (clE 145 [(.t 28), (.t 32)])),
(8, 255, opE 34 (.bin .sub 3 (.t 26) (.t 33))),
(9, 511, mvE 5 34)] (some [0, 5, 7, 20, 21, 22]))
(.seq (.ops [opE 35 (.fieldAddr 1 (.t 7)),
opE 36 (.load false 1 (.t 35)),
opE 37 (.un .not (.t 36))] (some [0, 5, 7, 20, 21, 22, 37]))
(.cond (.t 37)
(.opsd [(0, 0, mvE 38 5),
(1, 0, opE 39 (.fieldAddr 0 (.t 7))),
(2, 2, opE 40 (.load false 1 (.t 39))),
(3, 6, opE 41 (.calcB .len [9] 3 [(.t 40)])),
(4, 0, opE 42 (.fieldAddr 2 (.t 7))),
(5, 16, opE 43 (.load true 3 (.t 42))),
(6, 48, opE 44 (clE 271 [(.t 43)])),
(7, 126, opE 45 (.bin .add 3 (.t 41) (.t 44))),
(8, 255, opE 46 (.bin .add 3 (.t 38) (.t 45))),
(9, 511, mvE 5 46)] (some [0, 5, 20, 21, 22]))
.skip)))))
(.ops [opE 47 (.bin .add 3 (.t 22) (icE 1)),
mvE 22 47] (some [0, 5, 20, 21, 22]))))))))
(.seq (.seq (.ops [mvE 48 5,
mvE 49 0,
opE 50 (.nilCheck (.t 49)),
opE 51 (.fieldAddr 0 (.t 50)),
opE 52 (.fieldAddr 2 (.t 51)),
opE 53 (.load false 1 (.t 52)),
opE 54 (.bin .gtr 3 (.t 48) (.t 53))] (some [54]))
(.cond (.t 54)
(.seq (.ops [opE 4 (.move (icE 15))] (some [4]))
.ret)
.skip))
(.seq (.ops [opE 4 (.move (icE 0))] (some [4]))
.ret)))))), [.tmp 4]⟩

theorem is391 : FnIs Tryz.prog 391 x391 := ⟨Tryz.f391, _, Tryz.func391, by kernel_rfl, rfl, by kernel_rfl, by decide, by kernel_rfl⟩

/-- (*cloisonne/ring.Ring).Push -/
def x392 : XDecl := .code ⟨2, 
(.seq (.ops [opE 4 (.move (icE 0)),
opE 5 (.move (icE 0))] (some [0, 1]))
(.seq (.block 0
(.seq (.ops [mvE 8 0,
opE 9 (.isNil .ptr false (.t 8)),
mvE 7 9] (some [0, 1, 7]))
(.cond (.t 7)
(.seq (.ops [opE 4 (.move (icE 0)),
opE 5 (.move (icE 2))] (some [4, 5]))
.ret)
(.seq (.ops [mvE 11 1,
mvE 12 0,
opE 13 (clE 446 [(.t 12)]),
opE 14 (.bin .leq 77 (.t 11) (.t 13)),
mvE 10 14] (some [0, 1, 10]))
(.cond (.t 10)
(.seq (.ops [opE 4 (.move (icE 0)),
opE 5 (.move (icE 1))] (some [4, 5]))
.ret)
(.seq (.ops [mvE 16 0,
opE 17 (.nilCheck (.t 16)),
opE 18 (.fieldAddr 2 (.t 17)),
opE 19 (.load false 1 (.t 18)),
opE 20 (.bin .geq 3 (.t 19) (icE 1073741824)),
mvE 15 20] (some [0, 1, 15]))
(.cond (.t 15)
(.seq (.ops [opE 4 (.move (icE 0)),
opE 5 (.move (icE 17))] (some [4, 5]))
.ret)
.skip)))))))
(.seq (.ops [mvE 21 0,
opE 22 (.nilCheck (.t 21)),
opE 23 (.fieldAddr 2 (.t 22)),
opE 24 (.load false 1 (.t 23)),
opE 25 (.bin .add 3 (.t 24) (icE 1)),
opE 26 (.nilCheck (.t 21)),
opE 27 (.fieldAddr 2 (.t 26)),
⟨none, none, .store 1 (.t 27) (.t 25)⟩] (some [0, 1]))
(.seq (.ops [mvE 28 0,
mvE 29 0,
opE 30 (.nilCheck (.t 29)),
opE 31 (.fieldAddr 3 (.t 30)),
opE 32 (.load false 1 (.t 31)),
mvE 33 1,
opE 34 (.buildSlice [(.int .u64 0)] 1 1 [(0, (.t 33))]),
opE 35 (.append 1 8 [(.int .u64 0)] (.t 32) (.t 34)),
opE 36 (.nilCheck (.t 28)),
opE 37 (.fieldAddr 3 (.t 36)),
⟨none, none, .store 1 (.t 37) (.t 35)⟩] (some [0]))
(.seq (.seq (.opsr [mvE 38 0,
opE 39 (.nilCheck (.t 38)),
opE 40 (.fieldAddr 3 (.t 39)),
opE 41 (.load false 1 (.t 40)),
opE 42 (.len (.t 41)),
mvE 43 0,
opE 44 (.nilCheck (.t 43)),
opE 45 (.fieldAddr 0 (.t 44)),
opE 46 (.load false 1 (.t 45)),
opE 47 (.bin .sub 3 (.t 42) (.t 46)),
mvE 6 47] (some [0, 6]))
(.seq (.ops [mvE 48 6,
opE 49 (.bin .gtr 3 (.t 48) (icE 0))] (some [0, 6, 49]))
(.cond (.t 49)
(.ops [mvE 50 0,
mvE 51 0,
opE 52 (.nilCheck (.t 51)),
opE 53 (.fieldAddr 3 (.t 52)),
opE 54 (.load false 1 (.t 53)),
mvE 55 6,
opE 56 (clE 447 [(.t 54), (icE 0), (.t 55)]),
opE 57 (.nilCheck (.t 50)),
opE 58 (.fieldAddr 3 (.t 57)),
⟨none, none, .store 1 (.t 58) (.t 56)⟩] (some [0]))
.skip)))
(.seq (.ops [mvE 59 0,
opE 60 (.nilCheck (.t 59)),
opE 61 (.fieldAddr 2 (.t 60)),
opE 62 (.load false 1 (.t 61)),
mvE 4 62,
opE 5 (.move (icE 0))] (some [4, 5]))
.ret)))))), [.tmp 4, .tmp 5]⟩

theorem is392 : FnIs Tryz.prog 392 x392 := ⟨Tryz.f392, _, Tryz.func392, by kernel_rfl, rfl, by kernel_rfl, by decide, by kernel_rfl⟩

/-- cloisonne/chain.At -/
def x393 : XDecl := .code ⟨2, 
(.seq (.ops [opE 4 (.alloc [(.int .i64 0), (.bool false), (.bool false), (.string .empty), (.int .u64 0)]),
opE 5 (.move (.c (.bool false)))] (some [0, 1, 4]))
(.seq (.seq (.ops [mvE 7 0,
opE 8 (clE 142 [(.t 7)]),
opE 9 (.un .not (.t 8)),
mvE 10 9,
⟨some 11, some (10, false), .move (.t 1)⟩,
⟨some 12, some (10, false), .bin .lss 3 (.t 11) (icE 1)⟩,
opE 13 (.pick (.t 10) (.c (.bool true)) (.t 12))] (some [0, 1, 4, 13]))
(.cond (.t 13)
(.seq (.ops [opE 14 (.build [(.int .i64 0), (.bool false), (.bool false), (.string .empty), (.int .u64 0)] [(0, 1), (1, 1), (2, 3)] []),
⟨none, none, .store 5 (.t 4) (.t 14)⟩,
opE 5 (.move (.c (.bool false)))] (some [4, 5]))
.ret)
.skip))
(.seq (.ops [mvE 15 0,
mvE 16 1,
opE 17 (clE 143 [(.t 15), (.t 16)]),
mvE 6 17] (some [0, 4, 6]))
(.seq (.seq (.ops [mvE 18 6,
opE 19 (.bin .eql 3 (.t 18) (icE 0)),
mvE 20 19,
⟨some 21, some (20, false), .move (.t 0)⟩,
⟨some 22, some (20, false), .move (.t 6)⟩,
⟨some 23, some (20, false), .bin .sub 3 (.t 22) (icE 1)⟩,
⟨some 24, some (20, false), .indexAddr 5 (.t 21) (.t 23)⟩,
⟨some 25, some (20, false), .fieldAddr 1 (.t 24)⟩,
⟨some 26, some (20, false), .load false 1 (.t 25)⟩,
opE 27 (.pick (.t 20) (.c (.bool true)) (.t 26))] (some [0, 4, 6, 27]))
(.cond (.t 27)
(.seq (.ops [opE 28 (.build [(.int .i64 0), (.bool false), (.bool false), (.string .empty), (.int .u64 0)] [(0, 1), (1, 1), (2, 3)] []),
⟨none, none, .store 5 (.t 4) (.t 28)⟩,
opE 5 (.move (.c (.bool false)))] (some [4, 5]))
.ret)
.skip))
(.seq (.ops [mvE 29 0,
mvE 30 6,
opE 31 (.bin .sub 3 (.t 30) (icE 1)),
opE 32 (.indexAddr 5 (.t 29) (.t 31)),
opE 33 (.load true 5 (.t 32)),
⟨none, none, .store 5 (.t 4) (.t 33)⟩,
opE 5 (.move (.c (.bool true)))] (some [4, 5]))
.ret))))), [.cell true 5 4, .tmp 5]⟩

theorem is393 : FnIs Tryz.prog 393 x393 := ⟨Tryz.f393, _, Tryz.func393, by kernel_rfl, rfl, by kernel_rfl, by decide, by kernel_rfl⟩

/-- cmp.isNaN[string] -/
def x399 : XDecl := .code ⟨1, 
(.seq (.ops [opE 2 (.move (.c (.bool false)))] (some [0]))
(.seq (.ops [mvE 3 0,
mvE 4 0,
opE 5 (.bin .neq 9 (.t 3) (.t 4)),
mvE 2 5] (some [2]))
.ret)), [.tmp 2]⟩

theorem is399 : FnIs Tryz.prog 399 x399 := ⟨Tryz.f399, _, Tryz.func399, by kernel_rfl, rfl, by kernel_rfl, by decide, by kernel_rfl⟩

-- 400 internal/bytealg.abigen_runtime_cmpstring: no body
def x400 : XDecl := .ext 400

theorem is400 : FnIs Tryz.prog 400 x400 := rfl

/-- internal/stringslite.IndexByte -/
def x401 : XDecl := .code ⟨2, 
(.seq (.ops [opE 4 (.move (icE 0))] (some [0, 1]))
(.seq (.ops [mvE 5 0,
mvE 6 1,
opE 7 (clE 449 [(.t 5), (.t 6)]),
mvE 4 7] (some [4]))
.ret)), [.tmp 4]⟩

theorem is401 : FnIs Tryz.prog 401 x401 := ⟨Tryz.f401, _, Tryz.func401, by kernel_rfl, rfl, by kernel_rfl, by decide, by kernel_rfl⟩

/-- internal/stringslite.HasPrefix -/
def x402 : XDecl := .code ⟨2, 
(.seq (.ops [opE 4 (.move (.c (.bool false)))] (some [0, 1]))
(.seq (.ops [mvE 5 0,
opE 6 (.calcB .len [9] 3 [(.t 5)]),
mvE 7 1,
opE 8 (.calcB .len [9] 3 [(.t 7)]),
opE 9 (.bin .geq 3 (.t 6) (.t 8)),
mvE 10 9,
⟨some 11, some (10, true), .move (.t 0)⟩,
⟨some 12, some (10, true), .move (.t 1)⟩,
⟨some 13, some (10, true), .calcB .len [9] 3 [(.t 12)]⟩,
⟨some 14, some (10, true), .substr 9 (.t 11) none (some (.t 13))⟩,
⟨some 15, some (10, true), .move (.t 1)⟩,
⟨some 16, some (10, true), .bin .eql 9 (.t 14) (.t 15)⟩,
opE 17 (.pick (.t 10) (.t 16) (.c (.bool false))),
mvE 4 17] (some [4]))
.ret)), [.tmp 4]⟩

theorem is402 : FnIs Tryz.prog 402 x402 := ⟨Tryz.f402, _, Tryz.func402, by kernel_rfl, rfl, by kernel_rfl, by decide, by kernel_rfl⟩

/-- (*cloisonne/caps.Table).Clear -/
def x403 : XDecl := .code ⟨4, 
(.seq (.ops [opE 6 (.box (.t 2)),
opE 8 (.move (.c (.bool false)))] (some [0, 1, 3, 6]))
(.seq (.seq (.ops [mvE 10 0,
mvE 11 1,
opE 12 (clE 409 [(.t 10), (.t 11)]),
opE 13 (.un .not (.t 12))] (some [0, 1, 3, 6, 13]))
(.cond (.t 13)
(.seq (.ops [opE 8 (.move (.c (.bool false)))] (some [8]))
.ret)
.skip))
(.seq (.ops [mvE 14 0,
opE 15 (.nilCheck (.t 14)),
opE 16 (.fieldAddr 1 (.t 15)),
opE 17 (.load false 1 (.t 16)),
mvE 18 1,
opE 19 (.indexAddr 2 (.t 17) (.t 18)),
opE 20 (.fieldAddr 0 (.t 19)),
opE 21 (.load false 1 (.t 20)),
opE 9 (.alloc [(.int .u64 0)]),
⟨none, none, .store 1 (.t 9) (.t 21)⟩] (some [3, 6, 9]))
(.seq (.ops [mvE 22 3,
opE 23 (.makeFunc (.func 450) [] [(.t 9), (.t 6)]),
opE 24 (clE 404 [(.t 22), (.t 23)]),
opE 25 (.un .not (.t 24)),
mvE 8 25] (some [8]))
.ret)))), [.tmp 8]⟩

theorem is403 : FnIs Tryz.prog 403 x403 := ⟨Tryz.f403, _, Tryz.func403, by kernel_rfl, rfl, by kernel_rfl, by decide, by kernel_rfl⟩

/-- slices.ContainsFunc[[]uint64,uint64] -/
def x404 : XDecl := .code ⟨2, 
(.seq (.ops [opE 4 (.move (.c (.bool false)))] (some [0, 1]))
(.seq (.ops [mvE 5 0,
mvE 6 1,
opE 7 (clE 451 [(.t 5), (.t 6)]),
opE 8 (.bin .geq 3 (.t 7) (icE 0)),
mvE 4 8] (some [4]))
.ret)), [.tmp 4]⟩

theorem is404 : FnIs Tryz.prog 404 x404 := ⟨Tryz.f404, _, Tryz.func404, by kernel_rfl, rfl, by kernel_rfl, by decide, by kernel_rfl⟩

/-- cloisonne/label.In$1 -/
def x405 : XDecl := .code ⟨2, 
(.seq (.ops [opE 3 (.move (.c (.bool false)))] (some [0, 1]))
(.seq (.ops [opE 4 (.load false 1 (.t 1)),
mvE 5 0,
opE 6 (clE 337 [(.t 4), (.t 5)]),
opE 7 (.un .not (.t 6)),
mvE 3 7] (some [3]))
.ret)), [.tmp 3]⟩

theorem is405 : FnIs Tryz.prog 405 x405 := ⟨Tryz.f405, _, Tryz.func405, by kernel_rfl, rfl, by kernel_rfl, by decide, by kernel_rfl⟩

/-- cloisonne/label.Of -/
def x406 : XDecl := .code ⟨1, 
(.seq (.ops [opE 2 (.move (.c (.slice none 0 0))),
opE 3 (.move (icE 0))] (some [0]))
(.seq (.ops [mvE 5 0,
opE 6 (clE 136 [(.t 5)]),
mvE 4 6] (some [4]))
(.seq (.ops [mvE 7 4,
opE 8 (clE 452 [(.t 7)])] (some [4]))
(.seq (.ops [mvE 9 4,
opE 10 (clE 453 [(.t 9)]),
mvE 4 10] (some [4]))
(.seq (.block 0
(.seq (.ops [mvE 12 4,
opE 13 (.len (.t 12)),
opE 14 (.bin .gtr 3 (.t 13) (icE 0)),
mvE 15 14,
⟨some 16, some (15, true), .move (.t 4)⟩,
⟨some 17, some (15, true), .indexAddr 1 (.t 16) (icE 0)⟩,
⟨some 18, some (15, true), .load false 1 (.t 17)⟩,
⟨some 19, some (15, true), .bin .eql 77 (.t 18) (.c (.int .u64 0))⟩,
opE 20 (.pick (.t 15) (.t 19) (.c (.bool false))),
mvE 11 20] (some [4, 11]))
(.cond (.t 11)
(.seq (.ops [opE 2 (.move (.c (.slice none 0 0))),
opE 3 (.move (icE 1))] (some [2, 3]))
.ret)
(.seq (.ops [mvE 22 4,
opE 23 (.len (.t 22)),
opE 24 (.bin .gtr 3 (.t 23) (icE 6)),
mvE 21 24] (some [4, 21]))
(.cond (.t 21)
(.seq (.ops [opE 2 (.move (.c (.slice none 0 0))),
opE 3 (.move (icE 5))] (some [2, 3]))
.ret)
.skip)))))
(.seq (.ops [mvE 25 4,
mvE 2 25,
opE 3 (.move (icE 0))] (some [2, 3]))
.ret)))))), [.tmp 2, .tmp 3]⟩

theorem is406 : FnIs Tryz.prog 406 x406 := ⟨Tryz.f406, _, Tryz.func406, by kernel_rfl, rfl, by kernel_rfl, by decide, by kernel_rfl⟩

/-- slices.Concat[[]uint64,uint64] -/
def x407 : XDecl := .code ⟨1, 
(.seq (.ops [opE 2 (.move (.c (.slice none 0 0)))] (some [0]))
(.seq (.ops [opE 3 (.move (icE 0))] (some [0, 3]))
(.seq (.seq (.ops [mvE 9 0,
opE 10 (.len (.t 9)),
opE 11 (.move (icE 0))] (some [0, 3, 9, 10, 11]))
(.block 0
(.loop
(.seq (.ops [opE 12 (.bin .lss 3 (.t 11) (.t 10))] (some [0, 3, 9, 10, 11, 12]))
(.seq (.cond (.t 12)
.skip
(.exit 0))
(.seq (.block 1
(.seq (.ops [opE 13 (.indexAddr 1 (.t 9) (.t 11)),
opE 14 (.load false 1 (.t 13)),
mvE 5 14] (some [0, 3, 5, 9, 10, 11]))
(.seq (.ops [mvE 15 3,
mvE 16 5,
opE 17 (.len (.t 16)),
opE 18 (.bin .add 3 (.t 15) (.t 17)),
mvE 3 18] (some [0, 3, 9, 10, 11]))
(.seq (.ops [mvE 19 3,
opE 20 (.bin .lss 3 (.t 19) (icE 0))] (some [0, 3, 9, 10, 11, 20]))
(.cond (.t 20)
(.ops [opE 21 (.makeIface 9 (.c (.string ⟨#[108, 101, 110, 32, 111, 117, 116, 32, 111, 102, 32, 114, 97, 110, 103, 101]⟩))),
⟨none, none, .fail⟩] (some [0, 3, 9, 10, 11]))
.skip)))))
(.ops [opE 22 (.bin .add 3 (.t 11) (icE 1)),
mvE 11 22] (some [0, 3, 9, 10, 11]))))))))
(.seq (.ops [mvE 23 3,
opE 24 (clE 454 [(.c (.slice none 0 0)), (.t 23)]),
mvE 6 24] (some [0, 6]))
(.seq (.seq (.ops [mvE 25 0,
opE 26 (.len (.t 25)),
opE 27 (.move (icE 0))] (some [6, 25, 26, 27]))
(.block 2
(.loop
(.seq (.ops [opE 28 (.bin .lss 3 (.t 27) (.t 26))] (some [6, 25, 26, 27, 28]))
(.seq (.cond (.t 28)
.skip
(.exit 2))
(.seq (.block 3
(.seq (.ops [opE 29 (.indexAddr 1 (.t 25) (.t 27)),
opE 30 (.load false 1 (.t 29)),
mvE 8 30] (some [6, 8, 25, 26, 27]))
(.ops [mvE 31 6,
mvE 32 8,
opE 33 (.append 1 8 [(.int .u64 0)] (.t 31) (.t 32)),
mvE 6 33] (some [6, 25, 26, 27]))))
(.ops [opE 34 (.bin .add 3 (.t 27) (icE 1)),
mvE 27 34] (some [6, 25, 26, 27]))))))))
(.seq (.ops [mvE 35 6,
mvE 2 35] (some [2]))
.ret)))))), [.tmp 2]⟩

theorem is407 : FnIs Tryz.prog 407 x407 := ⟨Tryz.f407, _, Tryz.func407, by kernel_rfl, rfl, by kernel_rfl, by decide, by kernel_rfl⟩

/-- slices.Contains[[]uint64,uint64] -/
def x408 : XDecl := .code ⟨2, 
(.seq (.ops [opE 4 (.move (.c (.bool false)))] (some [0, 1]))
(.seq (.ops [mvE 5 0,
mvE 6 1,
opE 7 (clE 455 [(.t 5), (.t 6)]),
opE 8 (.bin .geq 3 (.t 7) (icE 0)),
mvE 4 8] (some [4]))
.ret)), [.tmp 4]⟩

theorem is408 : FnIs Tryz.prog 408 x408 := ⟨Tryz.f408, _, Tryz.func408, by kernel_rfl, rfl, by kernel_rfl, by decide, by kernel_rfl⟩

/-- (*cloisonne/caps.Table).one -/
def x409 : XDecl := .code ⟨2, 
(.seq (.ops [opE 4 (.move (.c (.bool false)))] (some [0, 1]))
(.seq (.ops [mvE 5 0,
opE 6 (.isNil .ptr true (.t 5)),
mvE 7 6,
⟨some 8, some (7, true), .move (.t 1)⟩,
⟨some 9, some (7, true), .bin .geq 3 (.t 8) (icE 0)⟩,
opE 10 (.pick (.t 7) (.t 9) (.c (.bool false))),
mvE 11 10,
⟨some 12, some (11, true), .move (.t 1)⟩,
⟨some 13, some (11, true), .move (.t 0)⟩,
⟨some 14, some (11, true), .nilCheck (.t 13)⟩,
⟨some 15, some (11, true), .fieldAddr 1 (.t 14)⟩,
⟨some 16, some (11, true), .load false 1 (.t 15)⟩,
⟨some 17, some (11, true), .len (.t 16)⟩,
⟨some 18, some (11, true), .bin .lss 3 (.t 12) (.t 17)⟩,
opE 19 (.pick (.t 11) (.t 18) (.c (.bool false))),
mvE 4 19] (some [4]))
.ret)), [.tmp 4]⟩

theorem is409 : FnIs Tryz.prog 409 x409 := ⟨Tryz.f409, _, Tryz.func409, by kernel_rfl, rfl, by kernel_rfl, by decide, by kernel_rfl⟩

/-- (*cloisonne/ring.Ring).AsOf -/
def x412 : XDecl := .code ⟨2, 
(.seq (.ops [opE 4 (.move (icE 0)),
opE 5 (.move (icE 0))] (some [0, 1]))
(.seq (.seq (.ops [mvE 9 0,
opE 10 (.isNil .ptr false (.t 9))] (some [0, 1, 10]))
(.cond (.t 10)
(.seq (.ops [opE 4 (.move (icE 0)),
opE 5 (.move (icE 2))] (some [4, 5]))
.ret)
.skip))
(.seq (.ops [mvE 12 0,
opE 13 (.nilCheck (.t 12)),
opE 14 (.fieldAddr 3 (.t 13)),
opE 15 (.load false 1 (.t 14)),
mvE 16 1,
opE 17 (clE 458 [(.t 15), (.t 16)]),
mvE 11 17,
opE 18 (.extract (.t 11) 0),
opE 19 (.extract (.t 11) 1),
mvE 6 18,
mvE 7 19] (some [0, 6, 7]))
(.seq (.seq (.ops [mvE 20 7] (some [0, 6, 20]))
(.cond (.t 20)
(.ops [mvE 21 6,
opE 22 (.bin .add 3 (.t 21) (icE 1)),
mvE 6 22] (some [0, 6]))
.skip))
(.seq (.opsr [mvE 23 0,
opE 24 (.nilCheck (.t 23)),
opE 25 (.fieldAddr 2 (.t 24)),
opE 26 (.load false 1 (.t 25)),
mvE 27 0,
opE 28 (.nilCheck (.t 27)),
opE 29 (.fieldAddr 3 (.t 28)),
opE 30 (.load false 1 (.t 29)),
opE 31 (.len (.t 30)),
opE 32 (.bin .sub 3 (.t 26) (.t 31)),
mvE 33 6,
opE 34 (.bin .add 3 (.t 32) (.t 33)),
mvE 8 34] (some [0, 8]))
(.seq (.seq (.ops [mvE 35 8,
mvE 36 0,
opE 37 (clE 144 [(.t 36)]),
opE 38 (.bin .lss 3 (.t 35) (.t 37))] (some [8, 38]))
(.cond (.t 38)
(.seq (.ops [opE 4 (.move (icE 0)),
opE 5 (.move (icE 14))] (some [4, 5]))
.ret)
.skip))
(.seq (.ops [mvE 39 8,
mvE 4 39,
opE 5 (.move (icE 0))] (some [4, 5]))
.ret))))))), [.tmp 4, .tmp 5]⟩

theorem is412 : FnIs Tryz.prog 412 x412 := ⟨Tryz.f412, _, Tryz.func412, by kernel_rfl, rfl, by kernel_rfl, by decide, by kernel_rfl⟩

/-- (*cloisonne/merge.Cursor).from -/
def x413 : XDecl := .code ⟨2, 
(.seq (.ops [opE 3 (.box (.t 1)),
opE 4 (.move (.c (.string .empty))),
opE 5 (.move (.c (.bool false)))] (some [0, 3]))
(.seq (.seq (.ops [mvE 6 0,
opE 7 (.nilCheck (.t 6)),
opE 8 (.fieldAddr 11 (.t 7)),
opE 9 (.load false 1 (.t 8)),
opE 10 (.bin .eql 3 (.t 9) (icE 0))] (some [0, 3, 10]))
(.cond (.t 10)
(.seq (.ops [mvE 11 0,
opE 12 (.nilCheck (.t 11)),
opE 13 (.fieldAddr 1 (.t 12)),
opE 14 (.fieldAddr 0 (.t 13)),
opE 15 (.load false 1 (.t 14)),
mvE 4 15,
opE 5 (.move (.c (.bool false)))] (some [4, 5]))
.ret)
.skip))
(.seq (.opsr [mvE 16 0,
opE 17 (.nilCheck (.t 16)),
opE 18 (.fieldAddr 6 (.t 17)),
opE 19 (.fieldAddr 1 (.t 18)),
opE 20 (.load false 1 (.t 19)),
opE 21 (.fieldAddr 2 (.t 3)),
opE 22 (.load false 1 (.t 21)),
mvE 23 0,
opE 24 (.nilCheck (.t 23)),
opE 25 (.fieldAddr 6 (.t 24)),
opE 26 (.fieldAddr 0 (.t 25)),
opE 27 (.load false 1 (.t 26)),
opE 28 (.bin .leq 3 (.t 22) (.t 27)),
mvE 4 20,
mvE 5 28] (some [4, 5]))
.ret))), [.tmp 4, .tmp 5]⟩

theorem is413 : FnIs Tryz.prog 413 x413 := ⟨Tryz.f413, _, Tryz.func413, by kernel_rfl, rfl, by kernel_rfl, by decide, by kernel_rfl⟩

/-- (*cloisonne/merge.Cursor).seek -/
def x414 : XDecl := .code ⟨4, 
(.seq (.ops [opE 5 (.box (.t 1)),
opE 8 (.alloc [(.int .i64 0), (.string .empty), (.bool false), (.string .empty), (.int .u64 0)]),
opE 9 (.move (.c (.bool false)))] (some [0, 2, 3, 5, 8]))
(.seq (.ops [opE 15 (.load true 3 (.t 5)),
opE 16 (.makeFunc (.func 459) [(.t 15)] []),
mvE 10 16] (some [0, 2, 3, 5, 8, 10]))
(.seq (.seq (.opsr [opE 17 (.fieldAddr 2 (.t 5)),
opE 18 (.load false 1 (.t 17)),
mvE 19 0,
opE 20 (.nilCheck (.t 19)),
opE 21 (.fieldAddr 5 (.t 20)),
opE 22 (.load false 1 (.t 21)),
opE 23 (.bin .eql 3 (.t 18) (.t 22))] (some [0, 2, 3, 5, 8, 10, 23]))
(.cond (.t 23)
(.ops [mvE 24 0,
opE 25 (.makeFunc (.func 461) [(.t 24)] []),
opE 26 (.load true 3 (.t 5)),
opE 27 (.makeFunc (.func 459) [(.t 26)] []),
opE 28 (clE 460 [(.t 25), (.t 27)]),
mvE 10 28] (some [0, 2, 3, 5, 8, 10]))
.skip))
(.block 0
(.loop
(.block 1
(.seq (.ops [mvE 30 10,
mvE 31 2,
mvE 32 3,
opE 33 (.call (.t 30) [(.t 31), (.t 32)]),
mvE 29 33,
opE 34 (.extract (.t 29) 0),
opE 35 (.extract (.t 29) 1),
opE 36 (.extract (.t 29) 2),
opE 37 (.extract (.t 29) 3),
opE 12 (.alloc [(.bool false), (.string .empty), (.int .u64 0)]),
mvE 11 34,
⟨none, none, .store 3 (.t 12) (.t 35)⟩,
mvE 13 36,
mvE 14 37] (some [0, 5, 8, 10, 11, 12, 13, 14]))
(.seq (.seq (.ops [mvE 38 14,
opE 39 (.un .not (.t 38)),
mvE 40 39,
⟨some 41, some (40, false), .move (.t 0)⟩,
⟨some 42, some (40, false), .nilCheck (.t 41)⟩,
⟨some 43, some (40, false), .fieldAddr 1 (.t 42)⟩,
⟨some 44, some (40, false), .fieldAddr 1 (.t 43)⟩,
⟨some 45, some (40, false), .load false 1 (.t 44)⟩,
⟨some 46, some (40, false), .bin .neq 9 (.t 45) (.c (.string .empty))⟩,
⟨some 47, some (40, false), .move (.t 46)⟩,
⟨some 48, some (47, true), .move (.t 11)⟩,
⟨some 49, some (47, true), .move (.t 0)⟩,
⟨some 50, some (47, true), .nilCheck (.t 49)⟩,
⟨some 51, some (47, true), .fieldAddr 1 (.t 50)⟩,
⟨some 52, some (47, true), .fieldAddr 1 (.t 51)⟩,
⟨some 53, some (47, true), .load false 1 (.t 52)⟩,
⟨some 54, some (47, true), .bin .geq 9 (.t 48) (.t 53)⟩,
⟨some 55, some (40, false), .pick (.t 47) (.t 54) (.c (.bool false))⟩,
opE 56 (.pick (.t 40) (.c (.bool true)) (.t 55))] (some [0, 5, 8, 10, 11, 12, 13, 56]))
(.cond (.t 56)
(.seq (.ops [opE 57 (.build [(.int .i64 0), (.string .empty), (.bool false), (.string .empty), (.int .u64 0)] [(0, 1), (1, 1), (2, 3)] []),
⟨none, none, .store 5 (.t 8) (.t 57)⟩,
opE 9 (.move (.c (.bool false)))] (some [8, 9]))
.ret)
.skip))
(.seq (.seq (.ops [mvE 58 13] (some [0, 5, 8, 10, 11, 12, 58]))
(.cond (.t 58)
(.seq (.ops [opE 59 (.fieldAddr 2 (.t 5)),
opE 60 (.load false 1 (.t 59)),
mvE 61 11,
opE 62 (.load true 3 (.t 12)),
opE 63 (.build [(.int .i64 0), (.string .empty), (.bool false), (.string .empty), (.int .u64 0)] [(0, 1), (1, 1), (2, 3)] [(0, (.t 60)), (1, (.t 61)), (2, (.t 62))]),
⟨none, none, .store 5 (.t 8) (.t 63)⟩,
opE 9 (.move (.c (.bool true)))] (some [8, 9]))
.ret)
.skip))
(.ops [mvE 64 11,
mvE 2 64,
opE 3 (.move (.c (.bool true)))] (some [0, 2, 3, 5, 8, 10]))))))))))), [.cell true 5 8, .tmp 9]⟩

theorem is414 : FnIs Tryz.prog 414 x414 := ⟨Tryz.f414, _, Tryz.func414, by kernel_rfl, rfl, by kernel_rfl, by decide, by kernel_rfl⟩

/-- (*cloisonne/sess.Session).labelOf -/
def x418 : XDecl := .code ⟨2, 
(.seq (.ops [opE 4 (.move (.c (.slice none 0 0))),
opE 5 (.move (.c (.bool false)))] (some [0, 1]))
(.seq (.ops [mvE 7 0,
opE 8 (.nilCheck (.t 7)),
opE 9 (.fieldAddr 0 (.t 8)),
opE 10 (.load false 1 (.t 9)),
mvE 11 1,
opE 12 (clE 44 [(.t 10), (.t 11)]),
mvE 6 12] (some [6]))
(.seq (.ops [mvE 13 6,
opE 14 (clE 230 [(.t 13)]),
opE 15 (.field false 0 1 (.t 14)),
mvE 16 6,
opE 17 (.isNil .ptr true (.t 16)),
mvE 4 15,
mvE 5 17] (some [4, 5]))
.ret))), [.tmp 4, .tmp 5]⟩

theorem is418 : FnIs Tryz.prog 418 x418 := ⟨Tryz.f418, _, Tryz.func418, by kernel_rfl, rfl, by kernel_rfl, by decide, by kernel_rfl⟩

/-- (*cloisonne/wset.Set).Get -/
def x419 : XDecl := .code ⟨2, 
(.seq (.ops [opE 4 (.alloc [(.string .empty), (.bool false), (.bool false), (.string .empty), (.int .u64 0)]),
opE 5 (.move (.c (.bool false)))] (some [0, 1, 4]))
(.seq (.seq (.ops [mvE 8 0,
opE 9 (.isNil .ptr false (.t 8))] (some [0, 1, 4, 9]))
(.cond (.t 9)
(.seq (.ops [opE 10 (.build [(.string .empty), (.bool false), (.bool false), (.string .empty), (.int .u64 0)] [(0, 1), (1, 1), (2, 3)] []),
⟨none, none, .store 5 (.t 4) (.t 10)⟩,
opE 5 (.move (.c (.bool false)))] (some [4, 5]))
.ret)
.skip))
(.seq (.ops [mvE 12 0,
mvE 13 1,
opE 14 (clE 463 [(.t 12), (.t 13)]),
mvE 11 14,
opE 15 (.extract (.t 11) 0),
opE 16 (.extract (.t 11) 1),
mvE 6 15,
mvE 7 16] (some [0, 4, 6, 7]))
(.seq (.seq (.ops [mvE 17 7,
opE 18 (.un .not (.t 17))] (some [0, 4, 6, 18]))
(.cond (.t 18)
(.seq (.ops [opE 19 (.build [(.string .empty), (.bool false), (.bool false), (.string .empty), (.int .u64 0)] [(0, 1), (1, 1), (2, 3)] []),
⟨none, none, .store 5 (.t 4) (.t 19)⟩,
opE 5 (.move (.c (.bool false)))] (some [4, 5]))
.ret)
.skip))
(.seq (.ops [mvE 20 0,
opE 21 (.nilCheck (.t 20)),
opE 22 (.fieldAddr 0 (.t 21)),
opE 23 (.load false 1 (.t 22)),
mvE 24 6,
opE 25 (.indexAddr 5 (.t 23) (.t 24)),
opE 26 (.load true 5 (.t 25)),
⟨none, none, .store 5 (.t 4) (.t 26)⟩,
opE 5 (.move (.c (.bool true)))] (some [4, 5]))
.ret))))), [.cell true 5 4, .tmp 5]⟩

theorem is419 : FnIs Tryz.prog 419 x419 := ⟨Tryz.f419, _, Tryz.func419, by kernel_rfl, rfl, by kernel_rfl, by decide, by kernel_rfl⟩

/-- (*cloisonne/wset.Set).write -/
def x421 : XDecl := .code ⟨2, 
(.seq (.ops [opE 3 (.box (.t 1)),
opE 4 (.move (icE 0))] (some [0, 3]))
(.seq (.seq (.ops [mvE 7 0,
opE 8 (.isNil .ptr false (.t 7))] (some [0, 3, 8]))
(.cond (.t 8)
(.seq (.ops [opE 4 (.move (icE 2))] (some [4]))
.ret)
.skip))
(.seq (.seq (.ops [opE 9 (.fieldAddr 0 (.t 3)),
opE 10 (.load false 1 (.t 9)),
opE 11 (.bin .eql 9 (.t 10) (.c (.string .empty))),
mvE 12 11,
⟨some 13, some (12, false), .fieldAddr 0 (.t 3)⟩,
⟨some 14, some (12, false), .load false 1 (.t 13)⟩,
⟨some 15, some (12, false), .calcB .len [9] 3 [(.t 14)]⟩,
⟨some 16, some (12, false), .bin .gtr 3 (.t 15) (icE 32)⟩,
opE 17 (.pick (.t 12) (.c (.bool true)) (.t 16)),
mvE 18 17,
⟨some 19, some (18, false), .fieldAddr 2 (.t 3)⟩,
⟨some 20, some (18, false), .load true 3 (.t 19)⟩,
⟨some 21, some (18, false), clE 116 [(.t 20)]⟩,
⟨some 22, some (18, false), .un .not (.t 21)⟩,
opE 23 (.pick (.t 18) (.c (.bool true)) (.t 22))] (some [0, 3, 23]))
(.cond (.t 23)
(.seq (.ops [opE 4 (.move (icE 1))] (some [4]))
.ret)
.skip))
(.seq (.ops [mvE 25 0,
opE 26 (.fieldAddr 0 (.t 3)),
opE 27 (.load false 1 (.t 26)),
opE 28 (clE 419 [(.t 25), (.t 27)]),
mvE 24 28,
opE 29 (.extract (.t 24) 0),
opE 30 (.extract (.t 24) 1),
opE 5 (.alloc [(.string .empty), (.bool false), (.bool false), (.string .empty), (.int .u64 0)]),
⟨none, none, .store 5 (.t 5) (.t 29)⟩,
mvE 6 30] (some [0, 3, 5, 6]))
(.seq (.seq (.ops [mvE 31 6,
opE 32 (.un .not (.t 31)),
mvE 33 32,
⟨some 34, some (33, true), .move (.t 0)⟩,
⟨some 35, some (33, true), .nilCheck (.t 34)⟩,
⟨some 36, some (33, true), .fieldAddr 0 (.t 35)⟩,
⟨some 37, some (33, true), .load false 1 (.t 36)⟩,
⟨some 38, some (33, true), .len (.t 37)⟩,
⟨some 39, some (33, true), .bin .geq 3 (.t 38) (icE 16)⟩,
opE 40 (.pick (.t 33) (.t 39) (.c (.bool false)))] (some [0, 3, 5, 6, 40]))
(.cond (.t 40)
(.seq (.ops [opE 4 (.move (icE 18))] (some [4]))
.ret)
.skip))
(.seq (.seq (.ops [mvE 41 0,
opE 42 (.nilCheck (.t 41)),
opE 43 (.fieldAddr 2 (.t 42)),
opE 44 (.load false 1 (.t 43)),
opE 45 (.len (.t 44)),
opE 46 (.bin .gtr 3 (.t 45) (icE 0))] (some [0, 3, 5, 6, 46]))
(.cond (.t 46)
(.opsd [(0, 0, mvE 47 0),
(1, 0, mvE 48 0),
(2, 2, opE 49 (.nilCheck (.t 48))),
(3, 6, opE 50 (.fieldAddr 1 (.t 49))),
(4, 14, opE 51 (.load false 1 (.t 50))),
(5, 0, opE 52 (.fieldAddr 0 (.t 3))),
(6, 32, opE 53 (.load false 1 (.t 52))),
(7, 0, opE 54 (.load true 5 (.t 5))),
(8, 0, mvE 55 6),
(9, 480, opE 56 (.build [(.string .empty), (.string .empty), (.bool false), (.bool false), (.string .empty), (.int .u64 0), (.bool false)] [(0, 1), (1, 5), (6, 1)] [(0, (.t 53)), (1, (.t 54)), (2, (.t 55))])),
(10, 992, opE 57 (.buildSlice [(.string .empty), (.string .empty), (.bool false), (.bool false), (.string .empty), (.int .u64 0), (.bool false)] 7 1 [(0, (.t 56))])),
(11, 2046, opE 58 (.append 7 80 [(.string .empty), (.string .empty), (.bool false), (.bool false), (.string .empty), (.int .u64 0), (.bool false)] (.t 51) (.t 57))),
(12, 4095, opE 59 (.nilCheck (.t 47))),
(13, 8191, opE 60 (.fieldAddr 1 (.t 59))),
(14, 16383, ⟨none, none, .store 1 (.t 60) (.t 58)⟩)] (some [0, 3]))
.skip))
(.seq (.ops [mvE 61 0,
opE 62 (.load true 5 (.t 3)),
opE 63 (clE 423 [(.t 61), (.t 62), (.c (.bool true))])] (some []))
(.seq (.ops [opE 4 (.move (icE 0))] (some [4]))
.ret)))))))), [.tmp 4]⟩

theorem is421 : FnIs Tryz.prog 421 x421 := ⟨Tryz.f421, _, Tryz.func421, by kernel_rfl, rfl, by kernel_rfl, by decide, by kernel_rfl⟩

/-- (*cloisonne/wset.Set).lay -/
def x423 : XDecl := .code ⟨3, 
(.seq (.ops [opE 4 (.box (.t 1))] (some [0, 2, 4]))
(.seq (.ops [mvE 9 0,
opE 10 (.fieldAddr 0 (.t 4)),
opE 11 (.load false 1 (.t 10)),
opE 12 (clE 463 [(.t 9), (.t 11)]),
mvE 8 12,
opE 13 (.extract (.t 8) 0),
opE 14 (.extract (.t 8) 1),
mvE 6 13,
mvE 7 14] (some [0, 2, 4, 6, 7]))
(.block 0
(.seq (.ops [mvE 16 7,
mvE 17 16,
⟨some 18, some (17, true), .move (.t 2)⟩,
opE 19 (.pick (.t 17) (.t 18) (.c (.bool false))),
mvE 15 19] (some [0, 2, 4, 6, 7, 15]))
(.cond (.t 15)
(.opsd [(0, 0, mvE 20 0),
(1, 1, opE 21 (.nilCheck (.t 20))),
(2, 3, opE 22 (.fieldAddr 0 (.t 21))),
(3, 7, opE 23 (.load false 1 (.t 22))),
(4, 0, mvE 24 6),
(5, 0, opE 25 (.load true 5 (.t 4))),
(6, 63, opE 26 (.indexAddr 5 (.t 23) (.t 24))),
(7, 127, ⟨none, none, .store 5 (.t 26) (.t 25)⟩)] (some []))
(.seq (.ops [mvE 28 7,
mvE 27 28] (some [0, 2, 4, 6, 27]))
(.cond (.t 27)
(.ops [mvE 29 0,
mvE 30 0,
opE 31 (.nilCheck (.t 30)),
opE 32 (.fieldAddr 0 (.t 31)),
opE 33 (.load false 1 (.t 32)),
mvE 34 6,
mvE 35 6,
opE 36 (.bin .add 3 (.t 35) (icE 1)),
opE 37 (clE 465 [(.t 33), (.t 34), (.t 36)]),
opE 38 (.nilCheck (.t 29)),
opE 39 (.fieldAddr 0 (.t 38)),
⟨none, none, .store 1 (.t 39) (.t 37)⟩] (some []))
(.seq (.ops [mvE 41 2,
mvE 40 41] (some [0, 4, 6, 40]))
(.cond (.t 40)
(.opsd [(0, 0, mvE 42 0),
(1, 0, mvE 43 0),
(2, 2, opE 44 (.nilCheck (.t 43))),
(3, 6, opE 45 (.fieldAddr 0 (.t 44))),
(4, 14, opE 46 (.load false 1 (.t 45))),
(5, 0, mvE 47 6),
(6, 0, opE 48 (.load true 5 (.t 4))),
(7, 64, opE 49 (.buildSlice [(.string .empty), (.bool false), (.bool false), (.string .empty), (.int .u64 0)] 5 1 [(0, (.t 48))])),
(8, 254, opE 50 (clE 466 [(.t 46), (.t 47), (.t 49)])),
(9, 511, opE 51 (.nilCheck (.t 42))),
(10, 1023, opE 52 (.fieldAddr 0 (.t 51))),
(11, 2047, ⟨none, none, .store 1 (.t 52) (.t 50)⟩)] (some []))
.skip))))))))), []⟩

theorem is423 : FnIs Tryz.prog 423 x423 := ⟨Tryz.f423, _, Tryz.func423, by kernel_rfl, rfl, by kernel_rfl, by decide, by kernel_rfl⟩

/-- cloisonne/sector.Right -/
def x428 : XDecl := .code ⟨1, 
(.seq (.ops [opE 1 (.box (.t 0)),
opE 2 (.move (.c (.bool false)))] (some [1]))
(.seq (.ops [opE 3 (.fieldAddr 0 (.t 1)),
opE 4 (.load false 1 (.t 3)),
opE 5 (clE 469 [(.t 4), (icE 1), (icE 2147483647)]),
mvE 6 5,
⟨some 7, some (6, true), .fieldAddr 2 (.t 1)⟩,
⟨some 8, some (6, true), .load false 1 (.t 7)⟩,
⟨some 9, some (6, true), clE 469 [(.t 8), (icE 1), (icE 2147483647)]⟩,
opE 10 (.pick (.t 6) (.t 9) (.c (.bool false))),
mvE 11 10,
⟨some 12, some (11, true), .fieldAddr 1 (.t 1)⟩,
⟨some 13, some (11, true), .load false 1 (.t 12)⟩,
⟨some 14, some (11, true), clE 469 [(.t 13), (icE 0), (icE 127)]⟩,
opE 15 (.pick (.t 11) (.t 14) (.c (.bool false))),
mvE 16 15,
⟨some 17, some (16, true), .fieldAddr 4 (.t 1)⟩,
⟨some 18, some (16, true), .load false 1 (.t 17)⟩,
⟨some 19, some (16, true), clE 469 [(.t 18), (icE 1), (icE 128)]⟩,
opE 20 (.pick (.t 16) (.t 19) (.c (.bool false))),
mvE 21 20,
⟨some 22, some (21, true), .fieldAddr 3 (.t 1)⟩,
⟨some 23, some (21, true), .load false 1 (.t 22)⟩,
⟨some 24, some (21, true), .fieldAddr 4 (.t 1)⟩,
⟨some 25, some (21, true), .load false 1 (.t 24)⟩,
⟨some 26, some (21, true), .bin .sub 3 (.t 25) (icE 1)⟩,
⟨some 27, some (21, true), clE 469 [(.t 23), (icE 0), (.t 26)]⟩,
opE 28 (.pick (.t 21) (.t 27) (.c (.bool false))),
mvE 2 28] (some [2]))
.ret)), [.tmp 2]⟩

theorem is428 : FnIs Tryz.prog 428 x428 := ⟨Tryz.f428, _, Tryz.func428, by kernel_rfl, rfl, by kernel_rfl, by decide, by kernel_rfl⟩

/-- cloisonne/sector.put -/
def x429 : XDecl := .code ⟨3, 
(.seq (.ops [opE 6 (.move (.c (.slice none 0 0)))] (some [0, 1, 2]))
(.seq (.seq (.ops [mvE 8 2,
opE 9 (.bin .sub 3 (.t 8) (icE 1)),
mvE 7 9] (some [0, 1, 7]))
(.block 0
(.loop
(.seq (.seq (.ops [mvE 10 7,
opE 11 (.bin .geq 3 (.t 10) (icE 0))] (some [0, 1, 7, 11]))
(.cond (.t 11)
.skip
(.exit 0)))
(.seq (.block 1
(.ops [mvE 14 0,
mvE 15 1,
mvE 16 7,
opE 17 (.bin .mul 3 (icE 8) (.t 16)),
opE 18 (.bin .shr 3 (.t 15) (.t 17)),
opE 19 (.conv 3 5 (.t 18)),
opE 20 (.buildSlice [(.int .u8 0)] 1 1 [(0, (.t 19))]),
opE 21 (.append 1 1 [(.int .u8 0)] (.t 14) (.t 20)),
mvE 0 21] (some [0, 1, 7])))
(.ops [mvE 12 7,
opE 13 (.bin .sub 3 (.t 12) (icE 1)),
mvE 7 13] (some [0, 1, 7])))))))
(.seq (.ops [mvE 22 0,
mvE 6 22] (some [6]))
.ret))), [.tmp 6]⟩

theorem is429 : FnIs Tryz.prog 429 x429 := ⟨Tryz.f429, _, Tryz.func429, by kernel_rfl, rfl, by kernel_rfl, by decide, by kernel_rfl⟩

/-- cmp.isNaN[uint64] -/
def x430 : XDecl := .code ⟨1, 
(.seq (.ops [opE 2 (.move (.c (.bool false)))] (some [0]))
(.seq (.ops [mvE 3 0,
mvE 4 0,
opE 5 (.bin .neq 77 (.t 3) (.t 4)),
mvE 2 5] (some [2]))
.ret)), [.tmp 2]⟩

theorem is430 : FnIs Tryz.prog 430 x430 := ⟨Tryz.f430, _, Tryz.func430, by kernel_rfl, rfl, by kernel_rfl, by decide, by kernel_rfl⟩

/-- cloisonne/sector.Count -/
def x436 : XDecl := .code ⟨1, 
(.seq (.ops [opE 2 (.move (icE 0))] (some [0]))
(.seq (.seq (.ops [mvE 3 0,
opE 4 (.bin .lss 3 (.t 3) (icE 0))] (some [0, 4]))
(.cond (.t 4)
(.seq (.ops [opE 2 (.move (icE 0))] (some [2]))
.ret)
.skip))
(.seq (.ops [mvE 5 0,
opE 6 (.bin .sub 3 (.t 5) (icE 1)),
opE 7 (.bin .quo 3 (.t 6) (icE 50)),
opE 8 (.bin .add 3 (.t 7) (icE 1)),
opE 9 (.calcB .max [3, 3] 3 [(icE 1), (.t 8)]),
mvE 2 9] (some [2]))
.ret))), [.tmp 2]⟩

theorem is436 : FnIs Tryz.prog 436 x436 := ⟨Tryz.f436, _, Tryz.func436, by kernel_rfl, rfl, by kernel_rfl, by decide, by kernel_rfl⟩

/-- cloisonne/chain.Add -/
def x444 : XDecl := .code ⟨2, 
(.seq (.ops [opE 3 (.box (.t 1)),
opE 4 (.move (.c (.slice none 0 0))),
opE 5 (.move (icE 0))] (some [0, 3]))
(.seq (.opsd [(0, 0, mvE 7 0),
(2, 0, opE 9 (.load true 5 (.t 3))),
(3, 4, opE 10 (.buildSlice [(.int .i64 0), (.bool false), (.bool false), (.string .empty), (.int .u64 0)] 5 1 [(0, (.t 9))])),
(1, 1, opE 8 (clE 148 [(.t 7)])),
(4, 15, opE 11 (.append 5 48 [(.int .i64 0), (.bool false), (.bool false), (.string .empty), (.int .u64 0)] (.t 8) (.t 10))),
(5, 31, mvE 6 11)] (some [6]))
(.seq (.seq (.ops [mvE 12 6,
opE 13 (clE 142 [(.t 12)]),
opE 14 (.un .not (.t 13))] (some [6, 14]))
(.cond (.t 14)
(.seq (.ops [opE 4 (.move (.c (.slice none 0 0))),
opE 5 (.move (icE 1))] (some [4, 5]))
.ret)
.skip))
(.seq (.ops [mvE 15 6,
mvE 4 15,
opE 5 (.move (icE 0))] (some [4, 5]))
.ret)))), [.tmp 4, .tmp 5]⟩

theorem is444 : FnIs Tryz.prog 444 x444 := ⟨Tryz.f444, _, Tryz.func444, by kernel_rfl, rfl, by kernel_rfl, by decide, by kernel_rfl⟩

/-- (*cloisonne/ring.Ring).last -/
def x446 : XDecl := .code ⟨1, 
(.seq (.ops [opE 2 (.move (.c (.int .u64 0)))] (some [0]))
(.seq (.seq (.ops [mvE 3 0,
opE 4 (.nilCheck (.t 3)),
opE 5 (.fieldAddr 3 (.t 4)),
opE 6 (.load false 1 (.t 5)),
opE 7 (.len (.t 6)),
opE 8 (.bin .eql 3 (.t 7) (icE 0))] (some [0, 8]))
(.cond (.t 8)
(.seq (.ops [opE 2 (.move (.c (.int .u64 0)))] (some [2]))
.ret)
.skip))
(.seq (.opsr [mvE 9 0,
opE 10 (.nilCheck (.t 9)),
opE 11 (.fieldAddr 3 (.t 10)),
opE 12 (.load false 1 (.t 11)),
mvE 13 0,
opE 14 (.nilCheck (.t 13)),
opE 15 (.fieldAddr 3 (.t 14)),
opE 16 (.load false 1 (.t 15)),
opE 17 (.len (.t 16)),
opE 18 (.bin .sub 3 (.t 17) (icE 1)),
opE 19 (.indexAddr 1 (.t 12) (.t 18)),
opE 20 (.load false 1 (.t 19)),
mvE 2 20] (some [2]))
.ret))), [.tmp 2]⟩

theorem is446 : FnIs Tryz.prog 446 x446 := ⟨Tryz.f446, _, Tryz.func446, by kernel_rfl, rfl, by kernel_rfl, by decide, by kernel_rfl⟩

-- 449 internal/bytealg.IndexByteString: no body
def x449 : XDecl := .ext 449

theorem is449 : FnIs Tryz.prog 449 x449 := rfl

/-- slices.IndexFunc[[]uint64,uint64] -/
def x451 : XDecl := .code ⟨2, 
(.seq (.ops [opE 4 (.move (icE 0))] (some [0, 1]))
(.seq (.seq (.ops [mvE 6 0,
opE 7 (.len (.t 6)),
opE 8 (.move (icE 0))] (some [0, 1, 7, 8]))
(.block 0
(.loop
(.seq (.ops [opE 9 (.bin .lss 3 (.t 8) (.t 7))] (some [0, 1, 7, 8, 9]))
(.seq (.cond (.t 9)
.skip
(.exit 0))
(.seq (.block 1
(.seq (.ops [mvE 10 8,
mvE 5 10] (some [0, 1, 5, 7, 8]))
(.seq (.ops [mvE 11 1,
mvE 12 0,
mvE 13 5,
opE 14 (.indexAddr 1 (.t 12) (.t 13)),
opE 15 (.load false 1 (.t 14)),
opE 16 (.call (.t 11) [(.t 15)])] (some [0, 1, 5, 7, 8, 16]))
(.cond (.t 16)
(.seq (.ops [mvE 17 5,
mvE 4 17] (some [4]))
.ret)
.skip))))
(.ops [opE 18 (.bin .add 3 (.t 8) (icE 1)),
mvE 8 18] (some [0, 1, 7, 8]))))))))
(.seq (.ops [opE 4 (.move (icE (-1)))] (some [4]))
.ret))), [.tmp 4]⟩

theorem is451 : FnIs Tryz.prog 451 x451 := ⟨Tryz.f451, _, Tryz.func451, by kernel_rfl, rfl, by kernel_rfl, by decide, by kernel_rfl⟩

/-- slices.Sort[[]uint64,uint64] -/
def x452 : XDecl := .code ⟨1, 
(.seq (.ops [mvE 3 0,
opE 4 (.len (.t 3)),
mvE 2 4] (some [0, 2]))
(.ops [mvE 5 0,
mvE 6 2,
mvE 7 2,
opE 8 (.conv 3 356 (.t 7)),
opE 9 (clE 234 [(.t 8)]),
opE 10 (clE 480 [(.t 5), (icE 0), (.t 6), (.t 9)])] (some []))), []⟩

theorem is452 : FnIs Tryz.prog 452 x452 := ⟨Tryz.f452, _, Tryz.func452, by kernel_rfl, rfl, by kernel_rfl, by decide, by kernel_rfl⟩

/-- slices.Compact[[]uint64,uint64] -/
def x453 : XDecl := .code ⟨1, 
(.seq (.ops [opE 2 (.move (.c (.slice none 0 0)))] (some [0]))
(.seq (.seq (.ops [mvE 6 0,
opE 7 (.len (.t 6)),
opE 8 (.bin .lss 3 (.t 7) (icE 2))] (some [0, 8]))
(.cond (.t 8)
(.seq (.ops [mvE 9 0,
mvE 2 9] (some [2]))
.ret)
.skip))
(.seq (.seq (.ops [opE 3 (.move (icE 1))] (some [0, 3]))
(.block 0
(.loop
(.seq (.seq (.ops [mvE 10 3,
mvE 11 0,
opE 12 (.len (.t 11)),
opE 13 (.bin .lss 3 (.t 10) (.t 12))] (some [0, 3, 13]))
(.cond (.t 13)
.skip
(.exit 0)))
(.seq (.block 1
(.seq (.opsr [mvE 16 0,
mvE 17 3,
opE 18 (.indexAddr 1 (.t 16) (.t 17)),
opE 19 (.load false 1 (.t 18)),
mvE 20 0,
mvE 21 3,
opE 22 (.bin .sub 3 (.t 21) (icE 1)),
opE 23 (.indexAddr 1 (.t 20) (.t 22)),
opE 24 (.load false 1 (.t 23)),
opE 25 (.bin .eql 77 (.t 19) (.t 24))] (some [0, 3, 25]))
(.cond (.t 25)
(.seq (.ops [mvE 26 0,
mvE 27 3,
opE 28 (.slice 1 (.t 26) (some (.t 27)) none none),
mvE 4 28] (some [0, 3, 4]))
(.seq (.seq (.ops [opE 5 (.move (icE 1))] (some [0, 3, 4, 5]))
(.block 2
(.loop
(.seq (.seq (.ops [mvE 29 5,
mvE 30 4,
opE 31 (.len (.t 30)),
opE 32 (.bin .lss 3 (.t 29) (.t 31))] (some [0, 3, 4, 5, 32]))
(.cond (.t 32)
.skip
(.exit 2)))
(.seq (.block 3
(.seq (.opsr [mvE 35 4,
mvE 36 5,
opE 37 (.indexAddr 1 (.t 35) (.t 36)),
opE 38 (.load false 1 (.t 37)),
mvE 39 4,
mvE 40 5,
opE 41 (.bin .sub 3 (.t 40) (icE 1)),
opE 42 (.indexAddr 1 (.t 39) (.t 41)),
opE 43 (.load false 1 (.t 42)),
opE 44 (.bin .neq 77 (.t 38) (.t 43))] (some [0, 3, 4, 5, 44]))
(.cond (.t 44)
(.seq (.ops [mvE 45 0,
mvE 46 3,
mvE 47 4,
mvE 48 5,
opE 49 (.indexAddr 1 (.t 47) (.t 48)),
opE 50 (.load false 1 (.t 49)),
opE 51 (.indexAddr 1 (.t 45) (.t 46)),
⟨none, none, .store 1 (.t 51) (.t 50)⟩] (some [0, 3, 4, 5]))
(.ops [mvE 52 3,
opE 53 (.bin .add 3 (.t 52) (icE 1)),
mvE 3 53] (some [0, 3, 4, 5])))
.skip)))
(.ops [mvE 33 5,
opE 34 (.bin .add 3 (.t 33) (icE 1)),
mvE 5 34] (some [0, 3, 4, 5])))))))
(.seq (.ops [mvE 54 0,
mvE 55 3,
opE 56 (.slice 1 (.t 54) (some (.t 55)) none none),
⟨none, none, .clear [(.int .u64 0)] (.t 56)⟩] (some [0, 3]))
(.seq (.ops [mvE 57 0,
mvE 58 3,
opE 59 (.slice 1 (.t 57) none (some (.t 58)) none),
mvE 2 59] (some [2]))
.ret))))
.skip)))
(.ops [mvE 14 3,
opE 15 (.bin .add 3 (.t 14) (icE 1)),
mvE 3 15] (some [0, 3])))))))
(.seq (.ops [mvE 60 0,
mvE 2 60] (some [2]))
.ret)))), [.tmp 2]⟩

theorem is453 : FnIs Tryz.prog 453 x453 := ⟨Tryz.f453, _, Tryz.func453, by kernel_rfl, rfl, by kernel_rfl, by decide, by kernel_rfl⟩

/-- slices.Grow[[]uint64,uint64] -/
def x454 : XDecl := .code ⟨2, 
(.seq (.ops [opE 4 (.move (.c (.slice none 0 0)))] (some [0, 1]))
(.seq (.seq (.ops [mvE 5 1,
opE 6 (.bin .lss 3 (.t 5) (icE 0))] (some [0, 1, 6]))
(.cond (.t 6)
(.ops [opE 7 (.makeIface 9 (.c (.string ⟨#[99, 97, 110, 110, 111, 116, 32, 98, 101, 32, 110, 101, 103, 97, 116, 105, 118, 101]⟩))),
⟨none, none, .fail⟩] (some [0, 1]))
.skip))
(.seq (.seq (.ops [mvE 8 1,
mvE 9 0,
opE 10 (.cap (.t 9)),
mvE 11 0,
opE 12 (.len (.t 11)),
opE 13 (.bin .sub 3 (.t 10) (.t 12)),
opE 14 (.bin .sub 3 (.t 8) (.t 13)),
mvE 1 14] (some [0, 1]))
(.seq (.ops [mvE 15 1,
opE 16 (.bin .gtr 3 (.t 15) (icE 0))] (some [0, 1, 16]))
(.cond (.t 16)
(.ops [mvE 17 0,
mvE 18 0,
opE 19 (.cap (.t 18)),
opE 20 (.slice 1 (.t 17) none (some (.t 19)) none),
mvE 21 1,
opE 22 (.appendZeros 1 8 [(.int .u64 0)] (.t 20) (.t 21)),
mvE 23 0,
opE 24 (.len (.t 23)),
opE 25 (.slice 1 (.t 22) none (some (.t 24)) none),
mvE 0 25] (some [0]))
.skip)))
(.seq (.ops [mvE 26 0,
mvE 4 26] (some [4]))
.ret)))), [.tmp 4]⟩

theorem is454 : FnIs Tryz.prog 454 x454 := ⟨Tryz.f454, _, Tryz.func454, by kernel_rfl, rfl, by kernel_rfl, by decide, by kernel_rfl⟩

/-- slices.Index[[]uint64,uint64] -/
def x455 : XDecl := .code ⟨2, 
(.seq (.ops [opE 4 (.move (icE 0))] (some [0, 1]))
(.seq (.seq (.ops [mvE 6 0,
opE 7 (.len (.t 6)),
opE 8 (.move (icE 0))] (some [0, 1, 7, 8]))
(.block 0
(.loop
(.seq (.ops [opE 9 (.bin .lss 3 (.t 8) (.t 7))] (some [0, 1, 7, 8, 9]))
(.seq (.cond (.t 9)
.skip
(.exit 0))
(.seq (.block 1
(.seq (.ops [mvE 10 8,
mvE 5 10] (some [0, 1, 5, 7, 8]))
(.seq (.ops [mvE 11 1,
mvE 12 0,
mvE 13 5,
opE 14 (.indexAddr 1 (.t 12) (.t 13)),
opE 15 (.load false 1 (.t 14)),
opE 16 (.bin .eql 77 (.t 11) (.t 15))] (some [0, 1, 5, 7, 8, 16]))
(.cond (.t 16)
(.seq (.ops [mvE 17 5,
mvE 4 17] (some [4]))
.ret)
.skip))))
(.ops [opE 18 (.bin .add 3 (.t 8) (icE 1)),
mvE 8 18] (some [0, 1, 7, 8]))))))))
(.seq (.ops [opE 4 (.move (icE (-1)))] (some [4]))
.ret))), [.tmp 4]⟩

theorem is455 : FnIs Tryz.prog 455 x455 := ⟨Tryz.f455, _, Tryz.func455, by kernel_rfl, rfl, by kernel_rfl, by decide, by kernel_rfl⟩

/-- slices.BinarySearch[[]uint64,uint64] -/
def x458 : XDecl := .code ⟨2, 
(.seq (.ops [opE 4 (.move (icE 0)),
opE 5 (.move (.c (.bool false)))] (some [0, 1]))
(.seq (.ops [mvE 10 0,
opE 11 (.len (.t 10)),
mvE 6 11] (some [0, 1, 6]))
(.seq (.ops [mvE 12 6,
opE 7 (.move (icE 0)),
mvE 8 12] (some [0, 1, 6, 7, 8]))
(.seq (.block 0
(.loop
(.seq (.seq (.ops [mvE 13 7,
mvE 14 8,
opE 15 (.bin .lss 3 (.t 13) (.t 14))] (some [0, 1, 6, 7, 8, 15]))
(.cond (.t 15)
.skip
(.exit 0)))
(.block 1
(.seq (.ops [mvE 16 7,
mvE 17 8,
opE 18 (.bin .add 3 (.t 16) (.t 17)),
opE 19 (.conv 3 356 (.t 18)),
opE 20 (.bin .shr 356 (.t 19) (.c (.int .u64 1))),
opE 21 (.conv 356 3 (.t 20)),
mvE 9 21] (some [0, 1, 6, 7, 8, 9]))
(.seq (.ops [mvE 22 0,
mvE 23 9,
opE 24 (.indexAddr 1 (.t 22) (.t 23)),
opE 25 (.load false 1 (.t 24)),
mvE 26 1,
opE 27 (clE 481 [(.t 25), (.t 26)])] (some [0, 1, 6, 7, 8, 9, 27]))
(.cond (.t 27)
(.ops [mvE 28 9,
opE 29 (.bin .add 3 (.t 28) (icE 1)),
mvE 7 29] (some [0, 1, 6, 7, 8]))
(.ops [mvE 30 9,
mvE 8 30] (some [0, 1, 6, 7, 8])))))))))
(.seq (.ops [mvE 31 7,
mvE 32 7,
mvE 33 6,
opE 34 (.bin .lss 3 (.t 32) (.t 33)),
mvE 35 34,
⟨some 36, some (35, true), .move (.t 0)⟩,
⟨some 37, some (35, true), .move (.t 7)⟩,
⟨some 38, some (35, true), .indexAddr 1 (.t 36) (.t 37)⟩,
⟨some 39, some (35, true), .load false 1 (.t 38)⟩,
⟨some 40, some (35, true), .move (.t 1)⟩,
⟨some 41, some (35, true), .bin .eql 77 (.t 39) (.t 40)⟩,
⟨some 42, some (35, true), .move (.t 41)⟩,
⟨some 43, some (42, false), .move (.t 0)⟩,
⟨some 44, some (42, false), .move (.t 7)⟩,
⟨some 45, some (42, false), .indexAddr 1 (.t 43) (.t 44)⟩,
⟨some 46, some (42, false), .load false 1 (.t 45)⟩,
⟨some 47, some (42, false), clE 482 [(.t 46)]⟩,
⟨some 48, some (42, false), .move (.t 47)⟩,
⟨some 49, some (48, true), .move (.t 1)⟩,
⟨some 50, some (48, true), clE 482 [(.t 49)]⟩,
⟨some 51, some (42, false), .pick (.t 48) (.t 50) (.c (.bool false))⟩,
⟨some 52, some (35, true), .pick (.t 42) (.c (.bool true)) (.t 51)⟩,
opE 53 (.pick (.t 35) (.t 52) (.c (.bool false))),
mvE 4 31,
mvE 5 53] (some [4, 5]))
.ret))))), [.tmp 4, .tmp 5]⟩

theorem is458 : FnIs Tryz.prog 458 x458 := ⟨Tryz.f458, _, Tryz.func458, by kernel_rfl, rfl, by kernel_rfl, by decide, by kernel_rfl⟩

/-- (cloisonne/merge.Source).inRoom -/
def x459 : XDecl := .code ⟨3, 
(.seq (.ops [opE 3 (.box (.t 0)),
opE 6 (.move (.c (.string .empty))),
opE 7 (.alloc [(.bool false), (.string .empty), (.int .u64 0)]),
opE 8 (.move (.c (.bool false))),
opE 9 (.move (.c (.bool false)))] (some [1, 2, 3, 7]))
(.seq (.seq (.ops [mvE 16 2] (some [1, 3, 7, 16]))
(.cond (.t 16)
(.seq (.ops [opE 18 (.fieldAddr 0 (.t 3)),
opE 19 (.load false 1 (.t 18)),
mvE 20 1,
opE 21 (.fieldAddr 1 (.t 3)),
opE 22 (.load false 1 (.t 21)),
opE 23 (clE 483 [(.t 19), (.t 20), (.t 22)]),
mvE 17 23,
opE 24 (.extract (.t 17) 0),
opE 25 (.extract (.t 17) 1),
opE 26 (.extract (.t 17) 2),
opE 11 (.alloc [(.bool false), (.string .empty), (.int .u64 0)]),
mvE 10 24,
⟨none, none, .store 3 (.t 11) (.t 25)⟩,
mvE 12 26] (some [7, 10, 11, 12]))
(.seq (.opsd [(0, 0, mvE 27 10),
(1, 0, opE 28 (.load true 3 (.t 11))),
(2, 0, mvE 29 12),
(3, 1, mvE 6 27),
(4, 11, ⟨none, none, .store 3 (.t 7) (.t 28)⟩),
(5, 27, opE 8 (.move (.c (.bool true)))),
(6, 63, mvE 9 29)] (some [6, 7, 8, 9]))
.ret))
.skip))
(.seq (.ops [opE 31 (.fieldAddr 0 (.t 3)),
opE 32 (.load false 1 (.t 31)),
mvE 33 1,
opE 34 (.fieldAddr 1 (.t 3)),
opE 35 (.load false 1 (.t 34)),
opE 36 (clE 484 [(.t 32), (.t 33), (.t 35)]),
mvE 30 36,
opE 37 (.extract (.t 30) 0),
opE 38 (.extract (.t 30) 1),
opE 39 (.extract (.t 30) 2),
opE 14 (.alloc [(.bool false), (.string .empty), (.int .u64 0)]),
mvE 13 37,
⟨none, none, .store 3 (.t 14) (.t 38)⟩,
mvE 15 39] (some [7, 13, 14, 15]))
(.seq (.opsd [(0, 0, mvE 40 13),
(1, 0, opE 41 (.load true 3 (.t 14))),
(2, 0, mvE 42 15),
(3, 1, mvE 6 40),
(4, 11, ⟨none, none, .store 3 (.t 7) (.t 41)⟩),
(5, 27, opE 8 (.move (.c (.bool true)))),
(6, 63, mvE 9 42)] (some [6, 7, 8, 9]))
.ret)))), [.tmp 6, .cell true 3 7, .tmp 8, .tmp 9]⟩

theorem is459 : FnIs Tryz.prog 459 x459 := ⟨Tryz.f459, _, Tryz.func459, by kernel_rfl, rfl, by kernel_rfl, by decide, by kernel_rfl⟩

/-- (*cloisonne/wset.Set).at -/
def x463 : XDecl := .code ⟨2, 
(.seq (.ops [opE 4 (.move (icE 0)),
opE 5 (.move (.c (.bool false)))] (some [0, 1]))
(.seq (.ops [mvE 6 0,
opE 7 (.nilCheck (.t 6)),
opE 8 (.fieldAddr 0 (.t 7)),
opE 9 (.load false 1 (.t 8)),
mvE 10 1,
opE 11 (clE 488 [(.t 9), (.t 10), (.c (.func (.func 489) #[] #[]))]),
opE 12 (.extract (.t 11) 0),
opE 13 (.extract (.t 11) 1),
mvE 4 12,
mvE 5 13] (some [4, 5]))
.ret)), [.tmp 4, .tmp 5]⟩

theorem is463 : FnIs Tryz.prog 463 x463 := ⟨Tryz.f463, _, Tryz.func463, by kernel_rfl, rfl, by kernel_rfl, by decide, by kernel_rfl⟩

/-- slices.Insert[[]cloisonne/api.Write,cloisonne/api.Write] -/
def x466 : XDecl := .code ⟨3, 
(.seq (.ops [opE 6 (.move (.c (.slice none 0 0)))] (some [0, 1, 2]))
(.seq (.ops [mvE 10 0,
mvE 11 1,
opE 12 (.slice 5 (.t 10) (some (.t 11)) none none)] (some [0, 1, 2]))
(.seq (.ops [mvE 13 2,
opE 14 (.len (.t 13)),
mvE 7 14] (some [0, 1, 2, 7]))
(.seq (.seq (.ops [mvE 15 7,
opE 16 (.bin .eql 3 (.t 15) (icE 0))] (some [0, 1, 2, 7, 16]))
(.cond (.t 16)
(.seq (.ops [mvE 17 0,
mvE 6 17] (some [6]))
.ret)
.skip))
(.seq (.ops [mvE 18 0,
opE 19 (.len (.t 18)),
mvE 8 19] (some [0, 1, 2, 7, 8]))
(.seq (.seq (.ops [mvE 20 1,
mvE 21 8,
opE 22 (.bin .eql 3 (.t 20) (.t 21))] (some [0, 1, 2, 7, 8, 22]))
(.cond (.t 22)
(.seq (.ops [mvE 23 0,
mvE 24 2,
opE 25 (.append 5 56 [(.string .empty), (.bool false), (.bool false), (.string .empty), (.int .u64 0)] (.t 23) (.t 24)),
mvE 6 25] (some [6]))
.ret)
.skip))
(.seq (.seq (.ops [mvE 26 8,
mvE 27 7,
opE 28 (.bin .add 3 (.t 26) (.t 27)),
mvE 29 0,
opE 30 (.cap (.t 29)),
opE 31 (.bin .gtr 3 (.t 28) (.t 30))] (some [0, 1, 2, 7, 8, 31]))
(.cond (.t 31)
(.seq (.ops [mvE 32 0,
mvE 33 1,
opE 34 (.slice 5 (.t 32) none (some (.t 33)) none),
mvE 35 8,
mvE 36 7,
opE 37 (.bin .add 3 (.t 35) (.t 36)),
mvE 38 1,
opE 39 (.bin .sub 3 (.t 37) (.t 38)),
opE 40 (.appendZeros 5 56 [(.string .empty), (.bool false), (.bool false), (.string .empty), (.int .u64 0)] (.t 34) (.t 39)),
mvE 9 40] (some [0, 1, 2, 7, 9]))
(.seq (.ops [mvE 41 9,
mvE 42 1,
opE 43 (.slice 5 (.t 41) (some (.t 42)) none none),
mvE 44 2,
opE 45 (.copy 5 (.t 43) (.t 44))] (some [0, 1, 7, 9]))
(.seq (.opsd [(0, 0, mvE 46 9),
(1, 0, mvE 47 1),
(2, 0, mvE 48 7),
(3, 6, opE 49 (.bin .add 3 (.t 47) (.t 48))),
(4, 15, opE 50 (.slice 5 (.t 46) (some (.t 49)) none none)),
(5, 0, mvE 51 0),
(6, 0, mvE 52 1),
(7, 96, opE 53 (.slice 5 (.t 51) (some (.t 52)) none none)),
(8, 255, opE 54 (.copy 5 (.t 50) (.t 53)))] (some [9]))
(.seq (.ops [mvE 55 9,
mvE 6 55] (some [6]))
.ret))))
.skip))
(.seq (.ops [mvE 56 0,
mvE 57 8,
mvE 58 7,
opE 59 (.bin .add 3 (.t 57) (.t 58)),
opE 60 (.slice 5 (.t 56) none (some (.t 59)) none),
mvE 0 60] (some [0, 1, 2, 7, 8]))
(.seq (.seq (.ops [mvE 61 2,
mvE 62 0,
mvE 63 1,
mvE 64 7,
opE 65 (.bin .add 3 (.t 63) (.t 64)),
opE 66 (.slice 5 (.t 62) (some (.t 65)) none none),
opE 67 (clE 492 [(.t 61), (.t 66)]),
opE 68 (.un .not (.t 67))] (some [0, 1, 2, 7, 8, 68]))
(.cond (.t 68)
(.seq (.opsd [(0, 0, mvE 69 0),
(1, 0, mvE 70 1),
(2, 0, mvE 71 7),
(3, 6, opE 72 (.bin .add 3 (.t 70) (.t 71))),
(4, 15, opE 73 (.slice 5 (.t 69) (some (.t 72)) none none)),
(5, 0, mvE 74 0),
(6, 0, mvE 75 1),
(7, 96, opE 76 (.slice 5 (.t 74) (some (.t 75)) none none)),
(8, 255, opE 77 (.copy 5 (.t 73) (.t 76)))] (some [0, 1, 2]))
(.seq (.ops [mvE 78 0,
mvE 79 1,
opE 80 (.slice 5 (.t 78) (some (.t 79)) none none),
mvE 81 2,
opE 82 (.copy 5 (.t 80) (.t 81))] (some [0]))
(.seq (.ops [mvE 83 0,
mvE 6 83] (some [6]))
.ret)))
.skip))
(.seq (.ops [mvE 84 0,
mvE 85 8,
opE 86 (.slice 5 (.t 84) (some (.t 85)) none none),
mvE 87 2,
opE 88 (.copy 5 (.t 86) (.t 87))] (some [0, 1, 7]))
(.seq (.ops [mvE 89 0,
mvE 90 1,
opE 91 (.slice 5 (.t 89) (some (.t 90)) none none),
mvE 92 7,
opE 93 (clE 493 [(.t 91), (.t 92)])] (some [0]))
(.seq (.ops [mvE 94 0,
mvE 6 94] (some [6]))
.ret)))))))))))), [.tmp 6]⟩

theorem is466 : FnIs Tryz.prog 466 x466 := ⟨Tryz.f466, _, Tryz.func466, by kernel_rfl, rfl, by kernel_rfl, by decide, by kernel_rfl⟩

def tabE : FuncId → Option XDecl
  | 342 => some x342
  | 344 => some x344
  | 345 => some x345
  | 346 => some x346
  | 347 => some x347
  | 351 => some x351
  | 353 => some x353
  | 359 => some x359
  | 367 => some x367
  | 368 => some x368
  | 369 => some x369
  | 371 => some x371
  | 372 => some x372
  | 374 => some x374
  | 375 => some x375
  | 376 => some x376
  | 377 => some x377
  | 383 => some x383
  | 384 => some x384
  | 386 => some x386
  | 387 => some x387
  | 389 => some x389
  | 390 => some x390
  | 391 => some x391
  | 392 => some x392
  | 393 => some x393
  | 399 => some x399
  | 400 => some x400
  | 401 => some x401
  | 402 => some x402
  | 403 => some x403
  | 404 => some x404
  | 405 => some x405
  | 406 => some x406
  | 407 => some x407
  | 408 => some x408
  | 409 => some x409
  | 412 => some x412
  | 413 => some x413
  | 414 => some x414
  | 418 => some x418
  | 419 => some x419
  | 421 => some x421
  | 423 => some x423
  | 428 => some x428
  | 429 => some x429
  | 430 => some x430
  | 436 => some x436
  | 444 => some x444
  | 446 => some x446
  | 449 => some x449
  | 451 => some x451
  | 452 => some x452
  | 453 => some x453
  | 454 => some x454
  | 455 => some x455
  | 458 => some x458
  | 459 => some x459
  | 463 => some x463
  | 466 => some x466
  | _ => none
theorem tabE_is : ∀ f d, tabE f = some d → FnIs Tryz.prog f d := by
  intro f d h
  unfold tabE at h
  split at h
  · cases h; exact is342
  · cases h; exact is344
  · cases h; exact is345
  · cases h; exact is346
  · cases h; exact is347
  · cases h; exact is351
  · cases h; exact is353
  · cases h; exact is359
  · cases h; exact is367
  · cases h; exact is368
  · cases h; exact is369
  · cases h; exact is371
  · cases h; exact is372
  · cases h; exact is374
  · cases h; exact is375
  · cases h; exact is376
  · cases h; exact is377
  · cases h; exact is383
  · cases h; exact is384
  · cases h; exact is386
  · cases h; exact is387
  · cases h; exact is389
  · cases h; exact is390
  · cases h; exact is391
  · cases h; exact is392
  · cases h; exact is393
  · cases h; exact is399
  · cases h; exact is400
  · cases h; exact is401
  · cases h; exact is402
  · cases h; exact is403
  · cases h; exact is404
  · cases h; exact is405
  · cases h; exact is406
  · cases h; exact is407
  · cases h; exact is408
  · cases h; exact is409
  · cases h; exact is412
  · cases h; exact is413
  · cases h; exact is414
  · cases h; exact is418
  · cases h; exact is419
  · cases h; exact is421
  · cases h; exact is423
  · cases h; exact is428
  · cases h; exact is429
  · cases h; exact is430
  · cases h; exact is436
  · cases h; exact is444
  · cases h; exact is446
  · cases h; exact is449
  · cases h; exact is451
  · cases h; exact is452
  · cases h; exact is453
  · cases h; exact is454
  · cases h; exact is455
  · cases h; exact is458
  · cases h; exact is459
  · cases h; exact is463
  · cases h; exact is466
  · cases h

end Go.Proofs.YtglefgcnafoafaaGreatDoor.X
