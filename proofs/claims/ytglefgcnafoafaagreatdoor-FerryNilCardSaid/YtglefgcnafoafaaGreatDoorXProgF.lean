/-
  Own work, printed by a program of ours (mkprog.py): the functions of this seat as code of the abstract run, and that each is the model's.
-/
import Derived.Test.YtglefgcnafoafaaGreatDoorXLaw
import Derived.Test.YtglefgcnafoafaaGreatDoorChecked
set_option maxRecDepth 100000
namespace Go.Proofs.YtglefgcnafoafaaGreatDoor.X
open Go

abbrev mvF (d s : Nat) : XOp := ⟨some d, none, .move (.t s)⟩
abbrev opF (d : Nat) (i : XI) : XOp := ⟨some d, none, i⟩
abbrev clF (f : Nat) (l : List Arg) : XI := .call (.c (.func (.func f) #[] #[])) l
abbrev icF (n : Int) : Arg := .c (.int .i64 n)

/-- cloisonne/sector.within -/
def x469 : XDecl := .code ⟨3, 
(.seq (.ops [opF 6 (.move (.c (.bool false)))] (some [0, 1, 2]))
(.seq (.ops [mvF 7 0,
mvF 8 1,
opF 9 (.bin .geq 3 (.t 7) (.t 8)),
mvF 10 9,
⟨some 11, some (10, true), .move (.t 0)⟩,
⟨some 12, some (10, true), .move (.t 2)⟩,
⟨some 13, some (10, true), .bin .leq 3 (.t 11) (.t 12)⟩,
opF 14 (.pick (.t 10) (.t 13) (.c (.bool false))),
mvF 6 14] (some [6]))
.ret)), [.tmp 6]⟩

theorem is469 : FnIs Tryz.prog 469 x469 := ⟨Tryz.f469, _, Tryz.func469, by kernel_rfl, rfl, by kernel_rfl, by decide, by kernel_rfl⟩

/-- slices.pdqsortOrdered[uint64] -/
def x480 : XDecl := .code ⟨4, 
(.seq (.ops [opF 8 (.move (.c (.bool true)))] (some [0, 1, 2, 3, 8]))
(.seq (.ops [opF 9 (.move (.c (.bool true)))] (some [0, 1, 2, 3, 8, 9]))
(.block 0
(.loop
(.block 1
(.seq (.ops [mvF 19 2,
mvF 20 1,
opF 21 (.bin .sub 3 (.t 19) (.t 20)),
mvF 10 21] (some [0, 1, 2, 3, 8, 9, 10]))
(.seq (.seq (.ops [mvF 22 10,
opF 23 (.bin .leq 3 (.t 22) (icF 12))] (some [0, 1, 2, 3, 8, 9, 10, 23]))
(.cond (.t 23)
(.seq (.ops [mvF 24 0,
mvF 25 1,
mvF 26 2,
opF 27 (clF 499 [(.t 24), (.t 25), (.t 26)])] (some []))
.ret)
.skip))
(.seq (.seq (.ops [mvF 28 3,
opF 29 (.bin .eql 3 (.t 28) (icF 0))] (some [0, 1, 2, 3, 8, 9, 10, 29]))
(.cond (.t 29)
(.seq (.ops [mvF 30 0,
mvF 31 1,
mvF 32 2,
opF 33 (clF 500 [(.t 30), (.t 31), (.t 32)])] (some []))
.ret)
.skip))
(.seq (.seq (.ops [mvF 34 8,
opF 35 (.un .not (.t 34))] (some [0, 1, 2, 3, 8, 9, 10, 35]))
(.cond (.t 35)
(.seq (.ops [mvF 36 0,
mvF 37 1,
mvF 38 2,
opF 39 (clF 501 [(.t 36), (.t 37), (.t 38)])] (some [0, 1, 2, 3, 8, 9, 10]))
(.ops [mvF 40 3,
opF 41 (.bin .sub 3 (.t 40) (icF 1)),
mvF 3 41] (some [0, 1, 2, 3, 8, 9, 10])))
.skip))
(.seq (.ops [mvF 43 0,
mvF 44 1,
mvF 45 2,
opF 46 (clF 502 [(.t 43), (.t 44), (.t 45)]),
mvF 42 46,
opF 47 (.extract (.t 42) 0),
opF 48 (.extract (.t 42) 1),
mvF 11 47,
mvF 12 48] (some [0, 1, 2, 3, 8, 9, 10, 11, 12]))
(.seq (.seq (.ops [mvF 49 12,
opF 50 (.bin .eql 446 (.t 49) (icF 2))] (some [0, 1, 2, 3, 8, 9, 10, 11, 12, 50]))
(.cond (.t 50)
(.seq (.ops [mvF 51 0,
mvF 52 1,
mvF 53 2,
opF 54 (clF 503 [(.t 51), (.t 52), (.t 53)])] (some [0, 1, 2, 3, 8, 9, 10, 11]))
(.seq (.ops [mvF 55 2,
opF 56 (.bin .sub 3 (.t 55) (icF 1)),
mvF 57 11,
mvF 58 1,
opF 59 (.bin .sub 3 (.t 57) (.t 58)),
opF 60 (.bin .sub 3 (.t 56) (.t 59)),
mvF 11 60] (some [0, 1, 2, 3, 8, 9, 10, 11]))
(.ops [opF 12 (.move (icF 1))] (some [0, 1, 2, 3, 8, 9, 10, 11, 12]))))
.skip))
(.seq (.seq (.ops [mvF 61 8,
mvF 62 61,
⟨some 63, some (62, true), .move (.t 9)⟩,
opF 64 (.pick (.t 62) (.t 63) (.c (.bool false))),
mvF 65 64,
⟨some 66, some (65, true), .move (.t 12)⟩,
⟨some 67, some (65, true), .bin .eql 446 (.t 66) (icF 1)⟩,
opF 68 (.pick (.t 65) (.t 67) (.c (.bool false)))] (some [0, 1, 2, 3, 8, 9, 10, 11, 68]))
(.cond (.t 68)
(.seq (.ops [mvF 69 0,
mvF 70 1,
mvF 71 2,
opF 72 (clF 504 [(.t 69), (.t 70), (.t 71)])] (some [0, 1, 2, 3, 8, 9, 10, 11, 72]))
(.cond (.t 72)
.ret
.skip))
.skip))
(.seq (.seq (.opsd [(0, 0, mvF 73 1),
(1, 1, opF 74 (.bin .gtr 3 (.t 73) (icF 0))),
(2, 3, mvF 75 74),
(3, 7, ⟨some 76, some (75, true), .move (.t 0)⟩),
(4, 7, ⟨some 77, some (75, true), .move (.t 1)⟩),
(5, 23, ⟨some 78, some (75, true), .bin .sub 3 (.t 77) (icF 1)⟩),
(6, 63, ⟨some 79, some (75, true), .indexAddr 1 (.t 76) (.t 78)⟩),
(7, 127, ⟨some 80, some (75, true), .load false 1 (.t 79)⟩),
(8, 7, ⟨some 81, some (75, true), .move (.t 0)⟩),
(9, 7, ⟨some 82, some (75, true), .move (.t 11)⟩),
(10, 775, ⟨some 83, some (75, true), .indexAddr 1 (.t 81) (.t 82)⟩),
(11, 1799, ⟨some 84, some (75, true), .load false 1 (.t 83)⟩),
(12, 4095, ⟨some 85, some (75, true), clF 481 [(.t 80), (.t 84)]⟩),
(13, 8191, ⟨some 86, some (75, true), .un .not (.t 85)⟩),
(14, 16383, opF 87 (.pick (.t 75) (.t 86) (.c (.bool false))))] (some [0, 1, 2, 3, 8, 9, 10, 11, 87]))
(.cond (.t 87)
(.seq (.ops [mvF 88 0,
mvF 89 1,
mvF 90 2,
mvF 91 11,
opF 92 (clF 505 [(.t 88), (.t 89), (.t 90), (.t 91)]),
mvF 13 92] (some [0, 2, 3, 8, 9, 13]))
(.seq (.ops [mvF 93 13,
mvF 1 93] (some [0, 1, 2, 3, 8, 9]))
(.exit 1)))
.skip))
(.seq (.ops [mvF 95 0,
mvF 96 1,
mvF 97 2,
mvF 98 11,
opF 99 (clF 506 [(.t 95), (.t 96), (.t 97), (.t 98)]),
mvF 94 99,
opF 100 (.extract (.t 94) 0),
opF 101 (.extract (.t 94) 1),
mvF 14 100,
mvF 15 101] (some [0, 1, 2, 3, 10, 14, 15]))
(.seq (.ops [mvF 102 15,
mvF 9 102] (some [0, 1, 2, 3, 9, 10, 14]))
(.seq (.ops [mvF 103 14,
mvF 104 1,
opF 105 (.bin .sub 3 (.t 103) (.t 104)),
mvF 106 2,
mvF 107 14,
opF 108 (.bin .sub 3 (.t 106) (.t 107)),
mvF 16 105,
mvF 17 108] (some [0, 1, 2, 3, 9, 10, 14, 16, 17]))
(.seq (.ops [mvF 109 10,
opF 110 (.bin .quo 3 (.t 109) (icF 8)),
mvF 18 110] (some [0, 1, 2, 3, 9, 14, 16, 17, 18]))
(.seq (.ops [mvF 111 16,
mvF 112 17,
opF 113 (.bin .lss 3 (.t 111) (.t 112))] (some [0, 1, 2, 3, 9, 14, 16, 17, 18, 113]))
(.cond (.t 113)
(.seq (.ops [mvF 114 16,
mvF 115 18,
opF 116 (.bin .geq 3 (.t 114) (.t 115)),
mvF 8 116] (some [0, 1, 2, 3, 8, 9, 14]))
(.seq (.ops [mvF 117 0,
mvF 118 1,
mvF 119 14,
mvF 120 3,
opF 121 (clF 480 [(.t 117), (.t 118), (.t 119), (.t 120)])] (some [0, 2, 3, 8, 9, 14]))
(.ops [mvF 122 14,
opF 123 (.bin .add 3 (.t 122) (icF 1)),
mvF 1 123] (some [0, 1, 2, 3, 8, 9]))))
(.seq (.ops [mvF 124 17,
mvF 125 18,
opF 126 (.bin .geq 3 (.t 124) (.t 125)),
mvF 8 126] (some [0, 1, 2, 3, 8, 9, 14]))
(.seq (.ops [mvF 127 0,
mvF 128 14,
opF 129 (.bin .add 3 (.t 128) (icF 1)),
mvF 130 2,
mvF 131 3,
opF 132 (clF 480 [(.t 127), (.t 129), (.t 130), (.t 131)])] (some [0, 1, 3, 8, 9, 14]))
(.ops [mvF 133 14,
mvF 2 133] (some [0, 1, 2, 3, 8, 9]))))))))))))))))))))))), []⟩

theorem is480 : FnIs Tryz.prog 480 x480 := ⟨Tryz.f480, _, Tryz.func480, by kernel_rfl, rfl, by kernel_rfl, by decide, by kernel_rfl⟩

/-- cmp.Less[uint64] -/
def x481 : XDecl := .code ⟨2, 
(.seq (.ops [opF 4 (.move (.c (.bool false)))] (some [0, 1]))
(.seq (.ops [mvF 5 0,
opF 6 (clF 430 [(.t 5)]),
mvF 7 6,
⟨some 8, some (7, true), .move (.t 1)⟩,
⟨some 9, some (7, true), clF 430 [(.t 8)]⟩,
⟨some 10, some (7, true), .un .not (.t 9)⟩,
opF 11 (.pick (.t 7) (.t 10) (.c (.bool false))),
mvF 12 11,
⟨some 13, some (12, false), .move (.t 0)⟩,
⟨some 14, some (12, false), .move (.t 1)⟩,
⟨some 15, some (12, false), .bin .lss 77 (.t 13) (.t 14)⟩,
opF 16 (.pick (.t 12) (.c (.bool true)) (.t 15)),
mvF 4 16] (some [4]))
.ret)), [.tmp 4]⟩

theorem is481 : FnIs Tryz.prog 481 x481 := ⟨Tryz.f481, _, Tryz.func481, by kernel_rfl, rfl, by kernel_rfl, by decide, by kernel_rfl⟩

/-- (*cloisonne/room.Room).Seek -/
def x484 : XDecl := .code ⟨3, 
(.seq (.ops [opF 6 (.move (.c (.string .empty))),
opF 7 (.alloc [(.bool false), (.string .empty), (.int .u64 0)]),
opF 8 (.move (.c (.bool false)))] (some [0, 1, 2, 7]))
(.seq (.seq (.ops [mvF 12 0,
opF 13 (.isNil .ptr false (.t 12))] (some [0, 1, 2, 7, 13]))
(.cond (.t 13)
(.seq (.ops [opF 14 (.build [(.bool false), (.string .empty), (.int .u64 0)] [(0, 1), (1, 1), (2, 1)] []),
opF 6 (.move (.c (.string .empty))),
⟨none, none, .store 3 (.t 7) (.t 14)⟩,
opF 8 (.move (.c (.bool false)))] (some [6, 7, 8]))
.ret)
.skip))
(.seq (.ops [mvF 16 0,
opF 17 (.nilCheck (.t 16)),
opF 18 (.fieldAddr 5 (.t 17)),
opF 19 (.load false 1 (.t 18)),
mvF 20 1,
opF 21 (clF 196 [(.t 19), (.t 20)]),
mvF 15 21,
opF 22 (.extract (.t 15) 0),
opF 23 (.extract (.t 15) 1),
opF 24 (.extract (.t 15) 2),
mvF 9 22,
mvF 10 23,
mvF 11 24] (some [0, 2, 7, 9, 10, 11]))
(.seq (.ops [mvF 25 0,
mvF 26 9,
mvF 27 10,
mvF 28 11,
mvF 29 2,
opF 30 (clF 507 [(.t 25), (.t 26), (.t 27), (.t 28), (.t 29)]),
opF 31 (.extract (.t 30) 0),
opF 32 (.extract (.t 30) 1),
opF 33 (.extract (.t 30) 2),
mvF 6 31,
⟨none, none, .store 3 (.t 7) (.t 32)⟩,
mvF 8 33] (some [6, 7, 8]))
.ret)))), [.tmp 6, .cell true 3 7, .tmp 8]⟩

theorem is484 : FnIs Tryz.prog 484 x484 := ⟨Tryz.f484, _, Tryz.func484, by kernel_rfl, rfl, by kernel_rfl, by decide, by kernel_rfl⟩

/-- slices.BinarySearchFunc[[]cloisonne/api.Write,cloisonne/api.Write,string] -/
def x488 : XDecl := .code ⟨3, 
(.seq (.ops [opF 6 (.move (icF 0)),
opF 7 (.move (.c (.bool false)))] (some [0, 1, 2]))
(.seq (.ops [mvF 12 0,
opF 13 (.len (.t 12)),
mvF 8 13] (some [0, 1, 2, 8]))
(.seq (.ops [mvF 14 8,
opF 9 (.move (icF 0)),
mvF 10 14] (some [0, 1, 2, 8, 9, 10]))
(.seq (.block 0
(.loop
(.seq (.seq (.ops [mvF 15 9,
mvF 16 10,
opF 17 (.bin .lss 3 (.t 15) (.t 16))] (some [0, 1, 2, 8, 9, 10, 17]))
(.cond (.t 17)
.skip
(.exit 0)))
(.block 1
(.seq (.ops [mvF 18 9,
mvF 19 10,
opF 20 (.bin .add 3 (.t 18) (.t 19)),
opF 21 (.conv 3 356 (.t 20)),
opF 22 (.bin .shr 356 (.t 21) (.c (.int .u64 1))),
opF 23 (.conv 356 3 (.t 22)),
mvF 11 23] (some [0, 1, 2, 8, 9, 10, 11]))
(.seq (.ops [mvF 24 2,
mvF 25 0,
mvF 26 11,
opF 27 (.indexAddr 5 (.t 25) (.t 26)),
opF 28 (.load true 5 (.t 27)),
mvF 29 1,
opF 30 (.call (.t 24) [(.t 28), (.t 29)]),
opF 31 (.bin .lss 3 (.t 30) (icF 0))] (some [0, 1, 2, 8, 9, 10, 11, 31]))
(.cond (.t 31)
(.ops [mvF 32 11,
opF 33 (.bin .add 3 (.t 32) (icF 1)),
mvF 9 33] (some [0, 1, 2, 8, 9, 10]))
(.ops [mvF 34 11,
mvF 10 34] (some [0, 1, 2, 8, 9, 10])))))))))
(.seq (.ops [mvF 35 9,
mvF 36 9,
mvF 37 8,
opF 38 (.bin .lss 3 (.t 36) (.t 37)),
mvF 39 38,
⟨some 40, some (39, true), .move (.t 2)⟩,
⟨some 41, some (39, true), .move (.t 0)⟩,
⟨some 42, some (39, true), .move (.t 9)⟩,
⟨some 43, some (39, true), .indexAddr 5 (.t 41) (.t 42)⟩,
⟨some 44, some (39, true), .load true 5 (.t 43)⟩,
⟨some 45, some (39, true), .move (.t 1)⟩,
⟨some 46, some (39, true), .call (.t 40) [(.t 44), (.t 45)]⟩,
⟨some 47, some (39, true), .bin .eql 3 (.t 46) (icF 0)⟩,
opF 48 (.pick (.t 39) (.t 47) (.c (.bool false))),
mvF 6 35,
mvF 7 48] (some [6, 7]))
.ret))))), [.tmp 6, .tmp 7]⟩

theorem is488 : FnIs Tryz.prog 488 x488 := ⟨Tryz.f488, _, Tryz.func488, by kernel_rfl, rfl, by kernel_rfl, by decide, by kernel_rfl⟩

/-- slices.insertionSortOrdered[uint64] -/
def x499 : XDecl := .code ⟨3, 
(.seq (.ops [mvF 8 1,
opF 9 (.bin .add 3 (.t 8) (icF 1)),
mvF 6 9] (some [0, 1, 2, 6]))
(.block 0
(.loop
(.seq (.seq (.ops [mvF 10 6,
mvF 11 2,
opF 12 (.bin .lss 3 (.t 10) (.t 11))] (some [0, 1, 2, 6, 12]))
(.cond (.t 12)
.skip
(.exit 0)))
(.seq (.block 1
(.seq (.ops [mvF 15 6,
mvF 7 15] (some [0, 1, 2, 6, 7]))
(.block 2
(.loop
(.seq (.seq (.opsd [(0, 0, mvF 16 7),
(1, 0, mvF 17 1),
(2, 3, opF 18 (.bin .gtr 3 (.t 16) (.t 17))),
(3, 7, mvF 19 18),
(4, 15, ⟨some 20, some (19, true), .move (.t 0)⟩),
(5, 15, ⟨some 21, some (19, true), .move (.t 7)⟩),
(6, 63, ⟨some 22, some (19, true), .indexAddr 1 (.t 20) (.t 21)⟩),
(7, 127, ⟨some 23, some (19, true), .load false 1 (.t 22)⟩),
(8, 15, ⟨some 24, some (19, true), .move (.t 0)⟩),
(9, 15, ⟨some 25, some (19, true), .move (.t 7)⟩),
(10, 527, ⟨some 26, some (19, true), .bin .sub 3 (.t 25) (icF 1)⟩),
(11, 1807, ⟨some 27, some (19, true), .indexAddr 1 (.t 24) (.t 26)⟩),
(12, 3855, ⟨some 28, some (19, true), .load false 1 (.t 27)⟩),
(13, 8191, ⟨some 29, some (19, true), clF 481 [(.t 23), (.t 28)]⟩),
(14, 16383, opF 30 (.pick (.t 19) (.t 29) (.c (.bool false))))] (some [0, 1, 2, 6, 7, 30]))
(.cond (.t 30)
.skip
(.exit 2)))
(.seq (.block 3
(.opsd [(0, 0, mvF 33 0),
(1, 0, mvF 34 7),
(2, 0, mvF 35 0),
(3, 0, mvF 36 7),
(4, 8, opF 37 (.bin .sub 3 (.t 36) (icF 1))),
(5, 0, mvF 38 0),
(6, 0, mvF 39 7),
(7, 64, opF 40 (.bin .sub 3 (.t 39) (icF 1))),
(8, 224, opF 41 (.indexAddr 1 (.t 38) (.t 40))),
(9, 480, opF 42 (.load false 1 (.t 41))),
(10, 0, mvF 43 0),
(11, 0, mvF 44 7),
(12, 3072, opF 45 (.indexAddr 1 (.t 43) (.t 44))),
(13, 7168, opF 46 (.load false 1 (.t 45))),
(14, 16355, opF 47 (.indexAddr 1 (.t 33) (.t 34))),
(15, 32739, ⟨none, none, .store 1 (.t 47) (.t 42)⟩),
(16, 65535, opF 48 (.indexAddr 1 (.t 35) (.t 37))),
(17, 131071, ⟨none, none, .store 1 (.t 48) (.t 46)⟩)] (some [0, 1, 2, 6, 7])))
(.ops [mvF 31 7,
opF 32 (.bin .sub 3 (.t 31) (icF 1)),
mvF 7 32] (some [0, 1, 2, 6, 7]))))))))
(.ops [mvF 13 6,
opF 14 (.bin .add 3 (.t 13) (icF 1)),
mvF 6 14] (some [0, 1, 2, 6]))))))), []⟩

theorem is499 : FnIs Tryz.prog 499 x499 := ⟨Tryz.f499, _, Tryz.func499, by kernel_rfl, rfl, by kernel_rfl, by decide, by kernel_rfl⟩

/-- (*cloisonne/room.Room).from -/
def x507 : XDecl := .code ⟨5, 
(.seq (.ops [opF 10 (.move (.c (.string .empty))),
opF 11 (.alloc [(.bool false), (.string .empty), (.int .u64 0)]),
opF 12 (.move (.c (.bool false)))] (some [0, 1, 2, 3, 4, 11]))
(.seq (.block 0
(.loop
(.seq (.seq (.ops [mvF 15 3] (some [0, 1, 2, 4, 11, 15]))
(.cond (.t 15)
.skip
(.exit 0)))
(.block 1
(.seq (.seq (.ops [mvF 17 0,
opF 18 (.nilCheck (.t 17)),
opF 19 (.fieldAddr 6 (.t 18)),
opF 20 (.load false 1 (.t 19)),
mvF 21 2,
opF 22 (.indexAddr 1 (.t 20) (.t 21)),
opF 23 (.load false 1 (.t 22)),
mvF 24 4,
opF 25 (clF 393 [(.t 23), (.t 24)]),
mvF 16 25,
opF 26 (.extract (.t 16) 0),
opF 27 (.extract (.t 16) 1),
opF 13 (.alloc [(.int .i64 0), (.bool false), (.bool false), (.string .empty), (.int .u64 0)]),
⟨none, none, .store 5 (.t 13) (.t 26)⟩,
mvF 14 27] (some [0, 1, 4, 11, 13, 14]))
(.seq (.ops [mvF 28 14] (some [0, 1, 4, 11, 13, 28]))
(.cond (.t 28)
(.seq (.opsd [(0, 0, mvF 29 1),
(1, 0, opF 30 (.fieldAddr 2 (.t 13))),
(2, 2, opF 31 (.load true 3 (.t 30))),
(3, 1, mvF 10 29),
(4, 15, ⟨none, none, .store 3 (.t 11) (.t 31)⟩),
(5, 31, opF 12 (.move (.c (.bool true))))] (some [10, 11, 12]))
.ret)
.skip)))
(.ops [mvF 33 0,
opF 34 (.nilCheck (.t 33)),
opF 35 (.fieldAddr 5 (.t 34)),
opF 36 (.load false 1 (.t 35)),
mvF 37 1,
opF 38 (clF 197 [(.t 36), (.t 37)]),
mvF 32 38,
opF 39 (.extract (.t 32) 0),
opF 40 (.extract (.t 32) 1),
opF 41 (.extract (.t 32) 2),
mvF 1 39,
mvF 2 40,
mvF 3 41] (some [0, 1, 2, 3, 4, 11])))))))
(.seq (.ops [opF 42 (.build [(.bool false), (.string .empty), (.int .u64 0)] [(0, 1), (1, 1), (2, 1)] []),
opF 10 (.move (.c (.string .empty))),
⟨none, none, .store 3 (.t 11) (.t 42)⟩,
opF 12 (.move (.c (.bool false)))] (some [10, 11, 12]))
.ret))), [.tmp 10, .cell true 3 11, .tmp 12]⟩

theorem is507 : FnIs Tryz.prog 507 x507 := ⟨Tryz.f507, _, Tryz.func507, by kernel_rfl, rfl, by kernel_rfl, by decide, by kernel_rfl⟩

/-- (cloisonne/job.commit).check -/
def x558 : XDecl := .code ⟨2, 
(.seq (.ops [opF 2 (.box (.t 0)),
opF 4 (.move (.c (.pointer none))),
opF 5 (.move (icF 0))] (some [1, 2]))
(.seq (.ops [mvF 10 1,
opF 11 (.fieldAddr 0 (.t 2)),
opF 12 (.load false 1 (.t 11)),
opF 13 (clF 44 [(.t 10), (.t 12)]),
mvF 6 13] (some [1, 2, 6]))
(.seq (.ops [mvF 15 6,
opF 16 (.fieldAddr 2 (.t 2)),
opF 17 (.load false 1 (.t 16)),
opF 18 (clF 346 [(.t 15), (.t 17)]),
mvF 14 18,
opF 19 (.extract (.t 14) 0),
opF 20 (.extract (.t 14) 1),
mvF 7 19,
mvF 8 20] (some [1, 2, 6, 7, 8]))
(.seq (.seq (.ops [mvF 21 8,
opF 22 (.bin .eql 32 (.t 21) (icF 0))] (some [1, 2, 6, 7, 8, 22]))
(.cond (.t 22)
(.ops [mvF 23 6,
opF 24 (.fieldAddr 1 (.t 2)),
opF 25 (.load false 1 (.t 24)),
mvF 26 7,
opF 27 (clF 560 [(.t 23), (.t 25), (.t 26)]),
mvF 8 27] (some [1, 2, 6, 8]))
.skip))
(.seq (.seq (.ops [mvF 28 8,
opF 29 (.bin .neq 32 (.t 28) (icF 0))] (some [1, 2, 6, 8, 29]))
(.cond (.t 29)
(.seq (.ops [mvF 30 8,
opF 4 (.move (.c (.pointer none))),
mvF 5 30] (some [4, 5]))
.ret)
.skip))
(.seq (.opsd [(0, 0, mvF 32 6),
(3, 0, opF 35 (.fieldAddr 1 (.t 2))),
(4, 8, opF 36 (.load false 1 (.t 35))),
(1, 1, opF 33 (clF 306 [(.t 32)])),
(2, 3, opF 34 (.bin .add 3 (.t 33) (icF 1))),
(5, 31, opF 37 (clF 561 [(.t 34), (.t 36)])),
(6, 63, mvF 31 37),
(7, 127, opF 38 (.extract (.t 31) 0)),
(8, 127, opF 39 (.extract (.t 31) 1)),
(9, 255, mvF 9 38),
(10, 1023, mvF 8 39)] (some [1, 2, 8, 9]))
(.seq (.seq (.ops [mvF 40 8,
opF 41 (.bin .neq 32 (.t 40) (icF 0))] (some [1, 2, 8, 9, 41]))
(.cond (.t 41)
(.seq (.ops [mvF 42 8,
opF 4 (.move (.c (.pointer none))),
mvF 5 42] (some [4, 5]))
.ret)
.skip))
(.seq (.ops [mvF 43 1,
opF 44 (.fieldAddr 0 (.t 2)),
opF 45 (.load false 1 (.t 44)),
opF 46 (clF 149 [(.t 43), (.t 45)]),
mvF 47 9,
opF 48 (clF 562 [(.t 46), (.t 47)]),
opF 49 (.extract (.t 48) 0),
opF 50 (.extract (.t 48) 1),
mvF 4 49,
mvF 5 50] (some [4, 5]))
.ret)))))))), [.tmp 4, .tmp 5]⟩

theorem is558 : FnIs Tryz.prog 558 x558 := ⟨Tryz.f558, _, Tryz.func558, by kernel_rfl, rfl, by kernel_rfl, by decide, by kernel_rfl⟩

/-- (cloisonne/job.commit).install -/
def x559 : XDecl := .code ⟨2, 
(.seq (.ops [opF 2 (.box (.t 0)),
opF 4 (.move (.c (.int .u64 0))),
opF 5 (.move (icF 0))] (some [1, 2]))
(.seq (.opsd [(0, 0, mvF 9 1),
(1, 0, opF 10 (.fieldAddr 0 (.t 2))),
(2, 2, opF 11 (.load false 1 (.t 10))),
(4, 0, opF 13 (.fieldAddr 1 (.t 2))),
(5, 16, opF 14 (.load false 1 (.t 13))),
(6, 0, mvF 15 1),
(3, 7, opF 12 (clF 44 [(.t 9), (.t 11)])),
(7, 79, opF 16 (clF 563 [(.t 15)])),
(8, 255, opF 17 (clF 307 [(.t 12), (.t 14), (.t 16)])),
(9, 511, mvF 8 17),
(10, 1023, opF 18 (.extract (.t 8) 0)),
(11, 1023, opF 19 (.extract (.t 8) 1)),
(12, 2047, mvF 6 18),
(13, 8191, mvF 7 19)] (some [6, 7]))
(.seq (.ops [mvF 20 6,
opF 21 (.conv 3 77 (.t 20)),
mvF 22 7,
mvF 4 21,
mvF 5 22] (some [4, 5]))
.ret))), [.tmp 4, .tmp 5]⟩

theorem is559 : FnIs Tryz.prog 559 x559 := ⟨Tryz.f559, _, Tryz.func559, by kernel_rfl, rfl, by kernel_rfl, by decide, by kernel_rfl⟩

/-- (*cloisonne/room.Room).Check -/
def x560 : XDecl := .code ⟨3, 
(.seq (.ops [opF 6 (.move (icF 0))] (some [0, 1, 2]))
(.seq (.block 0
(.seq (.ops [mvF 12 0,
opF 13 (.isNil .ptr false (.t 12)),
mvF 11 13] (some [0, 1, 2, 11]))
(.cond (.t 11)
(.seq (.ops [opF 6 (.move (icF 2))] (some [6]))
.ret)
(.seq (.ops [mvF 15 1,
opF 16 (clF 390 [(.t 15)]),
opF 17 (.un .not (.t 16)),
mvF 14 17] (some [0, 1, 2, 14]))
(.cond (.t 14)
(.seq (.ops [opF 6 (.move (icF 1))] (some [6]))
.ret)
(.seq (.ops [mvF 19 2,
mvF 20 0,
opF 21 (clF 90 [(.t 20)]),
mvF 22 0,
opF 23 (clF 306 [(.t 22)]),
opF 24 (clF 285 [(.t 19), (.t 21), (.t 23)]),
opF 25 (.un .not (.t 24)),
mvF 18 25] (some [0, 1, 2, 18]))
(.cond (.t 18)
(.seq (.ops [opF 6 (.move (icF 14))] (some [6]))
.ret)
.skip)))))))
(.seq (.seq (.ops [mvF 26 1,
opF 27 (.len (.t 26)),
opF 28 (.move (icF 0))] (some [0, 1, 2, 26, 27, 28]))
(.block 1
(.loop
(.seq (.ops [opF 29 (.bin .lss 3 (.t 28) (.t 27))] (some [0, 1, 2, 26, 27, 28, 29]))
(.seq (.cond (.t 29)
.skip
(.exit 1))
(.seq (.block 2
(.seq (.ops [opF 30 (.indexAddr 5 (.t 26) (.t 28)),
opF 31 (.load true 5 (.t 30)),
opF 8 (.alloc [(.string .empty), (.bool false), (.bool false), (.string .empty), (.int .u64 0)]),
⟨none, none, .store 5 (.t 8) (.t 31)⟩] (some [0, 1, 2, 8, 26, 27, 28]))
(.seq (.ops [mvF 33 0,
opF 34 (.fieldAddr 0 (.t 8)),
opF 35 (.load false 1 (.t 34)),
opF 36 (clF 88 [(.t 33), (.t 35)]),
opF 37 (clF 270 [(.t 36)]),
mvF 32 37,
opF 38 (.extract (.t 32) 0),
opF 39 (.extract (.t 32) 1),
opF 9 (.alloc [(.int .i64 0), (.bool false), (.bool false), (.string .empty), (.int .u64 0)]),
⟨none, none, .store 5 (.t 9) (.t 38)⟩,
mvF 10 39] (some [0, 1, 2, 9, 10, 26, 27, 28]))
(.seq (.ops [mvF 40 10,
mvF 41 40,
⟨some 42, some (41, true), .fieldAddr 0 (.t 9)⟩,
⟨some 43, some (41, true), .load false 1 (.t 42)⟩,
⟨some 44, some (41, true), .move (.t 2)⟩,
⟨some 45, some (41, true), .bin .gtr 3 (.t 43) (.t 44)⟩,
opF 46 (.pick (.t 41) (.t 45) (.c (.bool false)))] (some [0, 1, 2, 26, 27, 28, 46]))
(.cond (.t 46)
(.seq (.ops [opF 6 (.move (icF 13))] (some [6]))
.ret)
.skip)))))
(.ops [opF 47 (.bin .add 3 (.t 28) (icF 1)),
mvF 28 47] (some [0, 1, 2, 26, 27, 28]))))))))
(.seq (.ops [mvF 48 0,
mvF 49 1,
opF 50 (clF 391 [(.t 48), (.t 49)]),
mvF 6 50] (some [6]))
.ret)))), [.tmp 6]⟩

theorem is560 : FnIs Tryz.prog 560 x560 := ⟨Tryz.f560, _, Tryz.func560, by kernel_rfl, rfl, by kernel_rfl, by decide, by kernel_rfl⟩

/-- cloisonne/record.Commit -/
def x561 : XDecl := .code ⟨2, 
(.seq (.ops [opF 4 (.move (.c (.string .empty))),
opF 5 (.alloc [(.int .i64 0)])] (some [0, 1, 5]))
(.seq (.ops [⟨none, none, .dfr [(.t 5), (icF 1)]⟩] (some [0, 1, 5]))
(.seq (.ops [mvF 9 0,
opF 10 (.bin .geq 3 (.t 9) (icF 1)),
mvF 11 10,
⟨some 12, some (11, true), .move (.t 0)⟩,
⟨some 13, some (11, true), .bin .leq 3 (.t 12) (icF 1073741824)⟩,
opF 14 (.pick (.t 11) (.t 13) (.c (.bool false))),
mvF 15 14,
⟨some 16, some (15, true), .move (.t 1)⟩,
⟨some 17, some (15, true), clF 390 [(.t 16)]⟩,
opF 18 (.pick (.t 15) (.t 17) (.c (.bool false))),
opF 19 (clF 300 [(.t 18)])] (some [0, 1, 5]))
(.seq (.ops [opF 20 (clF 291 [(icF 1)]),
mvF 21 0,
opF 22 (clF 291 [(.t 21)]),
opF 23 (.buildSlice [(.int .u64 0), (.string .empty), (.slice none 0 0), (.slice none 0 0)] 4 2 [(0, (.t 20)), (1, (.t 22))]),
opF 24 (clF 290 [(.c (.string ⟨#[98, 110]⟩)), (.t 23)]),
mvF 6 24] (some [1, 5, 6]))
(.seq (.seq (.ops [mvF 25 1,
opF 26 (.len (.t 25)),
opF 27 (.move (icF 0))] (some [5, 6, 25, 26, 27]))
(.block 0
(.loop
(.seq (.ops [opF 28 (.bin .lss 3 (.t 27) (.t 26))] (some [5, 6, 25, 26, 27, 28]))
(.seq (.cond (.t 28)
.skip
(.exit 0))
(.seq (.block 1
(.seq (.ops [opF 29 (.indexAddr 5 (.t 25) (.t 27)),
opF 30 (.load true 5 (.t 29)),
opF 8 (.alloc [(.string .empty), (.bool false), (.bool false), (.string .empty), (.int .u64 0)]),
⟨none, none, .store 5 (.t 8) (.t 30)⟩] (some [5, 6, 8, 25, 26, 27]))
(.opsd [(0, 0, mvF 31 6),
(1, 0, opF 32 (.fieldAddr 1 (.t 8))),
(2, 2, opF 33 (.load false 1 (.t 32))),
(4, 0, opF 35 (.fieldAddr 0 (.t 8))),
(5, 16, opF 36 (.load false 1 (.t 35))),
(6, 48, opF 37 (.build [(.int .u64 0), (.string .empty), (.slice none 0 0), (.slice none 0 0)] [(0, 1), (1, 1), (2, 1), (3, 1)] [(1, (.t 36))])),
(7, 0, opF 38 (.fieldAddr 2 (.t 8))),
(8, 128, opF 39 (.load true 3 (.t 38))),
(9, 0, opF 40 (.fieldAddr 1 (.t 8))),
(10, 512, opF 41 (.load false 1 (.t 40))),
(3, 6, opF 34 (clF 564 [(.t 33)])),
(11, 1934, opF 42 (clF 302 [(.t 39), (.t 41)])),
(12, 3982, opF 43 (.build [(.int .u64 0), (.string .empty), (.slice none 0 0), (.slice none 0 0)] [(0, 1), (1, 1), (2, 1), (3, 1)] [(1, (.t 42))])),
(13, 8190, opF 44 (.buildSlice [(.int .u64 0), (.string .empty), (.slice none 0 0), (.slice none 0 0)] 4 3 [(0, (.t 34)), (1, (.t 37)), (2, (.t 43))])),
(14, 16382, opF 45 (clF 290 [(.c (.string ⟨#[98, 116, 116]⟩)), (.t 44)])),
(15, 32767, opF 46 (.bin .add 9 (.t 31) (.t 45))),
(16, 65535, mvF 6 46)] (some [5, 6, 25, 26, 27]))))
(.ops [opF 47 (.bin .add 3 (.t 27) (icF 1)),
mvF 27 47] (some [5, 6, 25, 26, 27]))))))))
(.seq (.ops [mvF 48 6,
mvF 4 48,
⟨none, none, .store 1 (.t 5) (icF 0)⟩] (some [4, 5]))
.ret)))))), [.tmp 4, .cell false 1 5]⟩

theorem is561 : FnIs Tryz.prog 561 x561 := ⟨Tryz.f561, _, Tryz.func561, by kernel_rfl, rfl, by kernel_rfl, by decide, by kernel_rfl⟩

/-- (*cloisonne/seglog.Log).Record -/
def x562 : XDecl := .code ⟨2, 
(.seq (.ops [opF 4 (.move (.c (.pointer none))),
opF 5 (.move (icF 0))] (some [0, 1]))
(.seq (.block 0
(.seq (.ops [mvF 7 0,
opF 8 (.isNil .ptr false (.t 7)),
mvF 6 8] (some [0, 1, 6]))
(.cond (.t 6)
(.seq (.ops [opF 4 (.move (.c (.pointer none))),
opF 5 (.move (icF 2))] (some [4, 5]))
.ret)
(.seq (.ops [mvF 10 0,
opF 11 (clF 374 [(.t 10)]),
mvF 9 11] (some [0, 1, 9]))
(.cond (.t 9)
(.seq (.ops [opF 4 (.move (.c (.pointer none))),
opF 5 (.move (icF 9))] (some [4, 5]))
.ret)
(.seq (.ops [mvF 13 0,
opF 14 (.nilCheck (.t 13)),
opF 15 (.fieldAddr 3 (.t 14)),
opF 16 (.load false 1 (.t 15)),
opF 17 (.bin .eql 3 (.t 16) (icF 0)),
mvF 12 17] (some [0, 1, 12]))
(.cond (.t 12)
(.seq (.ops [opF 4 (.move (.c (.pointer none))),
opF 5 (.move (icF 7))] (some [4, 5]))
.ret)
(.seq (.ops [mvF 19 0,
mvF 20 1,
opF 21 (.calcB .len [9] 3 [(.t 20)]),
opF 22 (clF 565 [(.t 19), (.t 21)]),
opF 23 (.un .not (.t 22)),
mvF 18 23] (some [0, 1, 18]))
(.cond (.t 18)
(.seq (.ops [opF 4 (.move (.c (.pointer none))),
opF 5 (.move (icF 16))] (some [4, 5]))
.ret)
.skip)))))))))
(.seq (.opsd [(0, 0, mvF 24 0),
(1, 0, mvF 25 0),
(2, 2, opF 26 (.nilCheck (.t 25))),
(3, 6, opF 27 (.fieldAddr 2 (.t 26))),
(4, 14, opF 28 (.load false 1 (.t 27))),
(5, 0, mvF 29 0),
(6, 32, opF 30 (.nilCheck (.t 29))),
(7, 96, opF 31 (.fieldAddr 3 (.t 30))),
(8, 224, opF 32 (.load false 1 (.t 31))),
(9, 0, mvF 33 0),
(10, 512, opF 34 (.nilCheck (.t 33))),
(11, 1536, opF 35 (.fieldAddr 4 (.t 34))),
(12, 3584, opF 36 (.load false 1 (.t 35))),
(13, 0, mvF 37 1),
(14, 8192, opF 38 (clF 377 [(.t 37)])),
(15, 32766, opF 39 (.build [(.pointer none), (.int .i64 0), (.int .i64 0), (.int .i64 0), (.slice none 0 0), (.int .i64 0), (.bool false)] [(0, 1), (1, 1), (2, 1), (3, 1), (4, 1), (5, 1), (6, 1)] [(1, (.t 28)), (2, (.t 32)), (3, (.t 36)), (4, (.t 38))])),
(16, 65534, opF 40 (.box (.t 39))),
(17, 131071, opF 41 (clF 376 [(.t 24), (.t 40)])),
(18, 262143, opF 42 (.extract (.t 41) 0)),
(19, 262143, opF 43 (.extract (.t 41) 1)),
(20, 1048575, mvF 4 42),
(21, 2097151, mvF 5 43)] (some [4, 5]))
.ret))), [.tmp 4, .tmp 5]⟩

theorem is562 : FnIs Tryz.prog 562 x562 := ⟨Tryz.f562, _, Tryz.func562, by kernel_rfl, rfl, by kernel_rfl, by decide, by kernel_rfl⟩

/-- (*cloisonne/vault.Vault).Next -/
def x563 : XDecl := .code ⟨1, 
(.seq (.ops [opF 2 (.move (.c (.int .u64 0)))] (some [0]))
(.seq (.seq (.ops [mvF 3 0,
opF 4 (.isNil .ptr false (.t 3))] (some [0, 4]))
(.cond (.t 4)
(.seq (.ops [opF 2 (.move (.c (.int .u64 0)))] (some [2]))
.ret)
.skip))
(.seq (.ops [mvF 5 0,
opF 6 (.nilCheck (.t 5)),
opF 7 (.fieldAddr 9 (.t 6)),
opF 8 (.load false 1 (.t 7)),
opF 9 (.bin .add 77 (.t 8) (.c (.int .u64 1))),
opF 10 (.nilCheck (.t 5)),
opF 11 (.fieldAddr 9 (.t 10)),
⟨none, none, .store 1 (.t 11) (.t 9)⟩] (some [0]))
(.seq (.ops [mvF 12 0,
opF 13 (.nilCheck (.t 12)),
opF 14 (.fieldAddr 9 (.t 13)),
opF 15 (.load false 1 (.t 14)),
mvF 2 15] (some [2]))
.ret)))), [.tmp 2]⟩

theorem is563 : FnIs Tryz.prog 563 x563 := ⟨Tryz.f563, _, Tryz.func563, by kernel_rfl, rfl, by kernel_rfl, by decide, by kernel_rfl⟩

/-- cloisonne/record.truth -/
def x564 : XDecl := .code ⟨1, 
(.seq (.ops [opF 2 (.alloc [(.int .u64 0), (.string .empty), (.slice none 0 0), (.slice none 0 0)])] (some [0, 2]))
(.seq (.seq (.ops [mvF 3 0] (some [2, 3]))
(.cond (.t 3)
(.seq (.ops [opF 4 (.build [(.int .u64 0), (.string .empty), (.slice none 0 0), (.slice none 0 0)] [(0, 1), (1, 1), (2, 1), (3, 1)] [(0, (.c (.int .u64 1)))]),
⟨none, none, .store 4 (.t 2) (.t 4)⟩] (some [2]))
.ret)
.skip))
(.seq (.ops [opF 5 (.build [(.int .u64 0), (.string .empty), (.slice none 0 0), (.slice none 0 0)] [(0, 1), (1, 1), (2, 1), (3, 1)] []),
⟨none, none, .store 4 (.t 2) (.t 5)⟩] (some [2]))
.ret))), [.cell true 4 2]⟩

theorem is564 : FnIs Tryz.prog 564 x564 := ⟨Tryz.f564, _, Tryz.func564, by kernel_rfl, rfl, by kernel_rfl, by decide, by kernel_rfl⟩

/-- (*cloisonne/seglog.Log).Room -/
def x565 : XDecl := .code ⟨2, 
(.seq (.ops [opF 4 (.move (.c (.bool false)))] (some [0, 1]))
(.seq (.ops [mvF 5 0,
opF 6 (.isNil .ptr true (.t 5)),
mvF 7 6,
⟨some 8, some (7, true), .move (.t 0)⟩,
⟨some 9, some (7, true), .nilCheck (.t 8)⟩,
⟨some 10, some (7, true), .fieldAddr 3 (.t 9)⟩,
⟨some 11, some (7, true), .load false 1 (.t 10)⟩,
⟨some 12, some (7, true), .bin .gtr 3 (.t 11) (icF 0)⟩,
opF 13 (.pick (.t 7) (.t 12) (.c (.bool false))),
mvF 14 13,
⟨some 15, some (14, true), .move (.t 0)⟩,
⟨some 16, some (14, true), .move (.t 1)⟩,
⟨some 17, some (14, true), .move (.t 0)⟩,
⟨some 18, some (14, true), .nilCheck (.t 17)⟩,
⟨some 19, some (14, true), .fieldAddr 4 (.t 18)⟩,
⟨some 20, some (14, true), .load false 1 (.t 19)⟩,
⟨some 21, some (14, true), clF 375 [(.t 15), (.t 16), (.t 20)]⟩,
opF 22 (.pick (.t 14) (.t 21) (.c (.bool false))),
mvF 4 22] (some [4]))
.ret)), [.tmp 4]⟩

theorem is565 : FnIs Tryz.prog 565 x565 := ⟨Tryz.f565, _, Tryz.func565, by kernel_rfl, rfl, by kernel_rfl, by decide, by kernel_rfl⟩

def tabF : FuncId → Option XDecl
  | 469 => some x469
  | 480 => some x480
  | 481 => some x481
  | 484 => some x484
  | 488 => some x488
  | 499 => some x499
  | 507 => some x507
  | 558 => some x558
  | 559 => some x559
  | 560 => some x560
  | 561 => some x561
  | 562 => some x562
  | 563 => some x563
  | 564 => some x564
  | 565 => some x565
  | _ => none
theorem tabF_is : ∀ f d, tabF f = some d → FnIs Tryz.prog f d := by
  intro f d h
  unfold tabF at h
  split at h
  · cases h; exact is469
  · cases h; exact is480
  · cases h; exact is481
  · cases h; exact is484
  · cases h; exact is488
  · cases h; exact is499
  · cases h; exact is507
  · cases h; exact is558
  · cases h; exact is559
  · cases h; exact is560
  · cases h; exact is561
  · cases h; exact is562
  · cases h; exact is563
  · cases h; exact is564
  · cases h; exact is565
  · cases h

end Go.Proofs.YtglefgcnafoafaaGreatDoor.X
