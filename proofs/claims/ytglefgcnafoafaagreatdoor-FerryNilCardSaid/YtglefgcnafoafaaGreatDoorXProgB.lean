/-
  Own work, printed by a program of ours (mkprog.py): the functions of this seat as code of the abstract run, and that each is the model's.
-/
import Derived.Test.YtglefgcnafoafaaGreatDoorXLaw
import Derived.Test.YtglefgcnafoafaaGreatDoorChecked
set_option maxRecDepth 100000
namespace Go.Proofs.YtglefgcnafoafaaGreatDoor.X
open Go

abbrev mvB (d s : Nat) : XOp := ⟨some d, none, .move (.t s)⟩
abbrev opB (d : Nat) (i : XI) : XOp := ⟨some d, none, i⟩
abbrev clB (f : Nat) (l : List Arg) : XI := .call (.c (.func (.func f) #[] #[])) l
abbrev icB (n : Int) : Arg := .c (.int .i64 n)

/-- (*cloisonne/room.Room).chain -/
def x88 : XDecl := .code ⟨2, 
(.seq (.ops [opB 4 (.move (.c (.slice none 0 0)))] (some [0, 1]))
(.seq (.seq (.ops [mvB 7 0,
opB 8 (.isNil .ptr false (.t 7))] (some [0, 1, 8]))
(.cond (.t 8)
(.seq (.ops [opB 4 (.move (.c (.slice none 0 0)))] (some [4]))
.ret)
.skip))
(.seq (.ops [mvB 10 0,
opB 11 (.nilCheck (.t 10)),
opB 12 (.fieldAddr 5 (.t 11)),
opB 13 (.load false 1 (.t 12)),
mvB 14 1,
opB 15 (clB 141 [(.t 13), (.t 14)]),
mvB 9 15,
opB 16 (.extract (.t 9) 0),
opB 17 (.extract (.t 9) 1),
mvB 5 16,
mvB 6 17] (some [0, 5, 6]))
(.seq (.seq (.ops [mvB 18 6,
opB 19 (.un .not (.t 18))] (some [0, 5, 19]))
(.cond (.t 19)
(.seq (.ops [opB 4 (.move (.c (.slice none 0 0)))] (some [4]))
.ret)
.skip))
(.seq (.ops [mvB 20 0,
opB 21 (.nilCheck (.t 20)),
opB 22 (.fieldAddr 6 (.t 21)),
opB 23 (.load false 1 (.t 22)),
mvB 24 5,
opB 25 (.indexAddr 1 (.t 23) (.t 24)),
opB 26 (.load false 1 (.t 25)),
mvB 4 26] (some [4]))
.ret))))), [.tmp 4]⟩

theorem is88 : FnIs Tryz.prog 88 x88 := ⟨Tryz.f88, _, Tryz.func88, by kernel_rfl, rfl, by kernel_rfl, by decide, by kernel_rfl⟩

/-- (*cloisonne/room.Room).Floor -/
def x90 : XDecl := .code ⟨1, 
(.seq (.ops [opB 2 (.move (icB 0))] (some [0]))
(.seq (.seq (.ops [mvB 3 0,
opB 4 (.isNil .ptr false (.t 3))] (some [0, 4]))
(.cond (.t 4)
(.seq (.ops [opB 2 (.move (icB 0))] (some [2]))
.ret)
.skip))
(.seq (.ops [mvB 5 0,
opB 6 (.nilCheck (.t 5)),
opB 7 (.fieldAddr 4 (.t 6)),
opB 8 (.load false 1 (.t 7)),
opB 9 (clB 144 [(.t 8)]),
mvB 2 9] (some [2]))
.ret))), [.tmp 2]⟩

theorem is90 : FnIs Tryz.prog 90 x90 := ⟨Tryz.f90, _, Tryz.func90, by kernel_rfl, rfl, by kernel_rfl, by decide, by kernel_rfl⟩

/-- (*cloisonne/room.Room).lay -/
def x91 : XDecl := .code ⟨3, 
(.seq (.ops [mvB 11 0,
mvB 12 1,
opB 13 (clB 88 [(.t 11), (.t 12)]),
mvB 6 13] (some [0, 1, 2, 6]))
(.seq (.ops [mvB 14 0,
opB 15 (.nilCheck (.t 14)),
opB 16 (.fieldAddr 10 (.t 15)),
opB 17 (.load false 1 (.t 16)),
mvB 18 2,
opB 19 (.len (.t 18)),
mvB 20 6,
opB 21 (.len (.t 20)),
opB 22 (.bin .sub 3 (.t 19) (.t 21)),
opB 23 (.bin .add 3 (.t 17) (.t 22)),
opB 24 (.nilCheck (.t 14)),
opB 25 (.fieldAddr 10 (.t 24)),
⟨none, none, .store 1 (.t 25) (.t 23)⟩] (some [0, 1, 2, 6]))
(.seq (.ops [mvB 26 1,
mvB 27 6,
opB 28 (clB 145 [(.t 26), (.t 27)]),
mvB 29 1,
mvB 30 2,
opB 31 (clB 145 [(.t 29), (.t 30)]),
mvB 7 28,
mvB 8 31] (some [0, 1, 2, 7, 8]))
(.seq (.ops [mvB 32 0,
opB 33 (.nilCheck (.t 32)),
opB 34 (.fieldAddr 8 (.t 33)),
opB 35 (.load false 1 (.t 34)),
mvB 36 8,
mvB 37 7,
opB 38 (.bin .sub 3 (.t 36) (.t 37)),
opB 39 (.bin .add 3 (.t 35) (.t 38)),
opB 40 (.nilCheck (.t 32)),
opB 41 (.fieldAddr 8 (.t 40)),
⟨none, none, .store 1 (.t 41) (.t 39)⟩] (some [0, 1, 2, 7, 8]))
(.seq (.ops [mvB 42 0,
opB 43 (.nilCheck (.t 42)),
opB 44 (.fieldAddr 9 (.t 43)),
opB 45 (.load false 1 (.t 44)),
mvB 46 8,
opB 47 (.calcB .min [3, 3] 3 [(.t 46), (icB 1)]),
mvB 48 7,
opB 49 (.calcB .min [3, 3] 3 [(.t 48), (icB 1)]),
opB 50 (.bin .sub 3 (.t 47) (.t 49)),
opB 51 (.bin .add 3 (.t 45) (.t 50)),
opB 52 (.nilCheck (.t 42)),
opB 53 (.fieldAddr 9 (.t 52)),
⟨none, none, .store 1 (.t 53) (.t 51)⟩] (some [0, 1, 2]))
(.seq (.ops [mvB 55 0,
opB 56 (.nilCheck (.t 55)),
opB 57 (.fieldAddr 5 (.t 56)),
opB 58 (.load false 1 (.t 57)),
mvB 59 1,
opB 60 (clB 141 [(.t 58), (.t 59)]),
mvB 54 60,
opB 61 (.extract (.t 54) 0),
opB 62 (.extract (.t 54) 1),
mvB 9 61,
mvB 10 62] (some [0, 1, 2, 9, 10]))
(.block 0
(.seq (.ops [mvB 64 10,
mvB 65 64,
⟨some 66, some (65, true), .move (.t 2)⟩,
⟨some 67, some (65, true), .len (.t 66)⟩,
⟨some 68, some (65, true), .bin .eql 3 (.t 67) (icB 0)⟩,
opB 69 (.pick (.t 65) (.t 68) (.c (.bool false))),
mvB 63 69] (some [0, 1, 2, 9, 10, 63]))
(.cond (.t 63)
(.seq (.ops [mvB 70 0,
opB 71 (.nilCheck (.t 70)),
opB 72 (.fieldAddr 5 (.t 71)),
opB 73 (.load false 1 (.t 72)),
mvB 74 1,
opB 75 (clB 146 [(.t 73), (.t 74)])] (some [0, 9]))
(.seq (.ops [mvB 76 0,
opB 77 (.nilCheck (.t 76)),
opB 78 (.fieldAddr 6 (.t 77)),
opB 79 (.load false 1 (.t 78)),
mvB 80 9,
opB 81 (.indexAddr 1 (.t 79) (.t 80)),
⟨none, none, .store 1 (.t 81) (.c (.slice none 0 0))⟩] (some [0, 9]))
(.ops [mvB 82 0,
mvB 83 0,
opB 84 (.nilCheck (.t 83)),
opB 85 (.fieldAddr 7 (.t 84)),
opB 86 (.load false 1 (.t 85)),
mvB 87 9,
opB 88 (.buildSlice [(.int .i64 0)] 1 1 [(0, (.t 87))]),
opB 89 (.append 1 8 [(.int .i64 0)] (.t 86) (.t 88)),
opB 90 (.nilCheck (.t 82)),
opB 91 (.fieldAddr 7 (.t 90)),
⟨none, none, .store 1 (.t 91) (.t 89)⟩] (some []))))
(.seq (.ops [mvB 93 10,
mvB 92 93] (some [0, 1, 2, 9, 92]))
(.cond (.t 92)
(.ops [mvB 94 0,
opB 95 (.nilCheck (.t 94)),
opB 96 (.fieldAddr 6 (.t 95)),
opB 97 (.load false 1 (.t 96)),
mvB 98 9,
mvB 99 2,
opB 100 (.indexAddr 1 (.t 97) (.t 98)),
⟨none, none, .store 1 (.t 100) (.t 99)⟩] (some []))
(.seq (.ops [mvB 102 2,
opB 103 (.len (.t 102)),
opB 104 (.bin .gtr 3 (.t 103) (icB 0)),
mvB 105 104,
⟨some 106, some (105, true), .move (.t 0)⟩,
⟨some 107, some (105, true), .nilCheck (.t 106)⟩,
⟨some 108, some (105, true), .fieldAddr 7 (.t 107)⟩,
⟨some 109, some (105, true), .load false 1 (.t 108)⟩,
⟨some 110, some (105, true), .len (.t 109)⟩,
⟨some 111, some (105, true), .bin .gtr 3 (.t 110) (icB 0)⟩,
opB 112 (.pick (.t 105) (.t 111) (.c (.bool false))),
mvB 101 112] (some [0, 1, 2, 101]))
(.cond (.t 101)
(.seq (.opsr [mvB 113 0,
opB 114 (.nilCheck (.t 113)),
opB 115 (.fieldAddr 7 (.t 114)),
opB 116 (.load false 1 (.t 115)),
mvB 117 0,
opB 118 (.nilCheck (.t 117)),
opB 119 (.fieldAddr 7 (.t 118)),
opB 120 (.load false 1 (.t 119)),
opB 121 (.len (.t 120)),
opB 122 (.bin .sub 3 (.t 121) (icB 1)),
opB 123 (.indexAddr 1 (.t 116) (.t 122)),
opB 124 (.load false 1 (.t 123)),
mvB 9 124] (some [0, 1, 2, 9]))
(.seq (.opsd [(0, 0, mvB 125 0),
(1, 0, mvB 126 0),
(2, 2, opB 127 (.nilCheck (.t 126))),
(3, 6, opB 128 (.fieldAddr 7 (.t 127))),
(4, 14, opB 129 (.load false 1 (.t 128))),
(5, 0, mvB 130 0),
(6, 32, opB 131 (.nilCheck (.t 130))),
(7, 96, opB 132 (.fieldAddr 7 (.t 131))),
(8, 224, opB 133 (.load false 1 (.t 132))),
(9, 480, opB 134 (.len (.t 133))),
(10, 992, opB 135 (.bin .sub 3 (.t 134) (icB 1))),
(11, 2046, opB 136 (.slice 1 (.t 129) none (some (.t 135)) none)),
(12, 4095, opB 137 (.nilCheck (.t 125))),
(13, 8191, opB 138 (.fieldAddr 7 (.t 137))),
(14, 16383, ⟨none, none, .store 1 (.t 138) (.t 136)⟩)] (some [0, 1, 2, 9]))
(.seq (.ops [mvB 139 0,
opB 140 (.nilCheck (.t 139)),
opB 141 (.fieldAddr 6 (.t 140)),
opB 142 (.load false 1 (.t 141)),
mvB 143 9,
mvB 144 2,
opB 145 (.indexAddr 1 (.t 142) (.t 143)),
⟨none, none, .store 1 (.t 145) (.t 144)⟩] (some [0, 1, 9]))
(.ops [mvB 146 0,
opB 147 (.nilCheck (.t 146)),
opB 148 (.fieldAddr 5 (.t 147)),
opB 149 (.load false 1 (.t 148)),
mvB 150 1,
mvB 151 9,
opB 152 (clB 147 [(.t 149), (.t 150), (.t 151)])] (some [])))))
(.seq (.ops [mvB 154 2,
opB 155 (.len (.t 154)),
opB 156 (.bin .gtr 3 (.t 155) (icB 0)),
mvB 153 156] (some [0, 1, 2, 153]))
(.cond (.t 153)
(.seq (.opsd [(0, 0, mvB 157 0),
(1, 1, opB 158 (.nilCheck (.t 157))),
(2, 3, opB 159 (.fieldAddr 5 (.t 158))),
(3, 7, opB 160 (.load false 1 (.t 159))),
(4, 0, mvB 161 1),
(5, 0, mvB 162 0),
(6, 32, opB 163 (.nilCheck (.t 162))),
(7, 96, opB 164 (.fieldAddr 6 (.t 163))),
(8, 224, opB 165 (.load false 1 (.t 164))),
(9, 480, opB 166 (.len (.t 165))),
(10, 1023, opB 167 (clB 147 [(.t 160), (.t 161), (.t 166)]))] (some [0, 2]))
(.ops [mvB 168 0,
mvB 169 0,
opB 170 (.nilCheck (.t 169)),
opB 171 (.fieldAddr 6 (.t 170)),
opB 172 (.load false 1 (.t 171)),
mvB 173 2,
opB 174 (.buildSlice [(.slice none 0 0)] 1 1 [(0, (.t 173))]),
opB 175 (.append 1 24 [(.slice none 0 0)] (.t 172) (.t 174)),
opB 176 (.nilCheck (.t 168)),
opB 177 (.fieldAddr 6 (.t 176)),
⟨none, none, .store 1 (.t 177) (.t 175)⟩] (some [])))
.skip))))))))))))))), []⟩

theorem is91 : FnIs Tryz.prog 91 x91 := ⟨Tryz.f91, _, Tryz.func91, by kernel_rfl, rfl, by kernel_rfl, by decide, by kernel_rfl⟩

/-- (*cloisonne/job.Job).Move -/
def x94 : XDecl := .code ⟨1, 
(.seq (.ops [opB 2 (.move (icB 0)),
opB 3 (.move (icB 0))] (some [0]))
(.seq (.seq (.ops [mvB 4 0,
opB 5 (.isNil .ptr false (.t 4))] (some [0, 5]))
(.cond (.t 5)
(.seq (.ops [opB 2 (.move (icB 0)),
opB 3 (.move (icB 2))] (some [2, 3]))
.ret)
.skip))
(.seq (.seq (.ops [mvB 6 0,
opB 7 (.nilCheck (.t 6)),
opB 8 (.fieldAddr 4 (.t 7)),
opB 9 (.load false 1 (.t 8))] (some [0, 9]))
(.block 0
(.seq (.ops [opB 11 (.bin .eql 3 (.t 9) (icB 0)),
mvB 10 11] (some [0, 9, 10]))
(.cond (.t 10)
(.seq (.ops [mvB 12 0,
opB 13 (clB 150 [(.t 12)]),
opB 14 (.extract (.t 13) 0),
opB 15 (.extract (.t 13) 1),
mvB 2 14,
mvB 3 15] (some [2, 3]))
.ret)
(.seq (.ops [opB 17 (.bin .eql 3 (.t 9) (icB 1)),
mvB 16 17] (some [0, 9, 16]))
(.cond (.t 16)
(.seq (.ops [mvB 18 0,
opB 19 (clB 151 [(.t 18)]),
opB 20 (.extract (.t 19) 0),
opB 21 (.extract (.t 19) 1),
mvB 2 20,
mvB 3 21] (some [2, 3]))
.ret)
(.seq (.ops [opB 23 (.bin .eql 3 (.t 9) (icB 2)),
mvB 22 23] (some [0, 22]))
(.cond (.t 22)
(.seq (.ops [mvB 24 0,
opB 25 (clB 152 [(.t 24)]),
opB 26 (.extract (.t 25) 0),
opB 27 (.extract (.t 25) 1),
mvB 2 26,
mvB 3 27] (some [2, 3]))
.ret)
.skip))))))))
(.seq (.ops [opB 2 (.move (icB 2)),
opB 3 (.move (icB 0))] (some [2, 3]))
.ret)))), [.tmp 2, .tmp 3]⟩

theorem is94 : FnIs Tryz.prog 94 x94 := ⟨Tryz.f94, _, Tryz.func94, by kernel_rfl, rfl, by kernel_rfl, by decide, by kernel_rfl⟩

/-- (*cloisonne/job.Job).Done -/
def x95 : XDecl := .code ⟨1, 
(.seq (.ops [opB 2 (.move (.c (.int .u64 0))),
opB 3 (.move (icB 0)),
opB 4 (.move (.c (.bool false)))] (some [0]))
(.seq (.seq (.ops [mvB 5 0,
opB 6 (.isNil .ptr false (.t 5))] (some [0, 6]))
(.cond (.t 6)
(.seq (.ops [opB 2 (.move (.c (.int .u64 0))),
opB 3 (.move (icB 2)),
opB 4 (.move (.c (.bool false)))] (some [2, 3, 4]))
.ret)
.skip))
(.seq (.opsr [mvB 7 0,
opB 8 (.nilCheck (.t 7)),
opB 9 (.fieldAddr 6 (.t 8)),
opB 10 (.load false 1 (.t 9)),
mvB 11 0,
opB 12 (.nilCheck (.t 11)),
opB 13 (.fieldAddr 7 (.t 12)),
opB 14 (.load false 1 (.t 13)),
mvB 15 0,
opB 16 (.nilCheck (.t 15)),
opB 17 (.fieldAddr 4 (.t 16)),
opB 18 (.load false 1 (.t 17)),
opB 19 (.bin .eql 3 (.t 18) (icB 3)),
mvB 2 10,
mvB 3 14,
mvB 4 19] (some [2, 3, 4]))
.ret))), [.tmp 2, .tmp 3, .tmp 4]⟩

theorem is95 : FnIs Tryz.prog 95 x95 := ⟨Tryz.f95, _, Tryz.func95, by kernel_rfl, rfl, by kernel_rfl, by decide, by kernel_rfl⟩

/-- (*cloisonne/extent.World).On -/
def x97 : XDecl := .code ⟨1, 
(.seq (.ops [opB 2 (.move (.c (.bool false)))] (some [0]))
(.seq (.ops [mvB 3 0,
opB 4 (.isNil .ptr true (.t 3)),
mvB 5 4,
⟨some 6, some (5, true), .move (.t 0)⟩,
⟨some 7, some (5, true), .nilCheck (.t 6)⟩,
⟨some 8, some (5, true), .fieldAddr 0 (.t 7)⟩,
⟨some 9, some (5, true), .load false 1 (.t 8)⟩,
⟨some 10, some (5, true), .un .not (.t 9)⟩,
opB 11 (.pick (.t 5) (.t 10) (.c (.bool false))),
mvB 2 11] (some [2]))
.ret)), [.tmp 2]⟩

theorem is97 : FnIs Tryz.prog 97 x97 := ⟨Tryz.f97, _, Tryz.func97, by kernel_rfl, rfl, by kernel_rfl, by decide, by kernel_rfl⟩

/-- cloisonne/vault.Open -/
def x99 : XDecl := .code ⟨2, 
(.seq (.ops [opB 2 (.box (.t 0)),
opB 4 (.move (.c (.pointer none))),
opB 5 (.move (icB 0))] (some [1, 2]))
(.seq (.block 0
(.seq (.ops [mvB 12 1,
opB 13 (.isNil .ptr false (.t 12)),
mvB 11 13] (some [1, 2, 11]))
(.cond (.t 11)
(.seq (.ops [opB 4 (.move (.c (.pointer none))),
opB 5 (.move (icB 2))] (some [4, 5]))
.ret)
(.seq (.opsd [(0, 0, opB 15 (.load true 4 (.t 2))),
(1, 1, opB 16 (clB 154 [(.t 15)])),
(2, 3, opB 17 (.un .not (.t 16))),
(3, 7, mvB 18 17),
(4, 15, ⟨some 19, some (18, false), .move (.t 1)⟩),
(6, 15, ⟨some 21, some (18, false), .fieldAddr 3 (.t 2)⟩),
(7, 79, ⟨some 22, some (18, false), .load false 1 (.t 21)⟩),
(8, 207, ⟨some 23, some (18, false), .len (.t 22)⟩),
(9, 463, ⟨some 24, some (18, false), .bin .mul 3 (icB 2) (.t 23)⟩),
(10, 975, ⟨some 25, some (18, false), .bin .add 3 (icB 2) (.t 24)⟩),
(5, 31, ⟨some 20, some (18, false), clB 155 [(.t 19)]⟩),
(11, 2047, ⟨some 26, some (18, false), .bin .lss 3 (.t 20) (.t 25)⟩),
(12, 4095, opB 27 (.pick (.t 18) (.c (.bool true)) (.t 26))),
(13, 8191, mvB 28 27),
(14, 16383, ⟨some 29, some (28, false), .move (.t 1)⟩),
(16, 16383, ⟨some 31, some (28, false), .fieldAddr 2 (.t 2)⟩),
(17, 81919, ⟨some 32, some (28, false), .load false 1 (.t 31)⟩),
(15, 32767, ⟨some 30, some (28, false), clB 156 [(.t 29)]⟩),
(18, 262143, ⟨some 33, some (28, false), .bin .neq 3 (.t 30) (.t 32)⟩),
(19, 524287, opB 34 (.pick (.t 28) (.c (.bool true)) (.t 33))),
(20, 1048575, mvB 14 34)] (some [1, 2, 14]))
(.cond (.t 14)
(.seq (.ops [opB 4 (.move (.c (.pointer none))),
opB 5 (.move (icB 1))] (some [4, 5]))
.ret)
(.seq (.ops [mvB 36 1,
opB 37 (clB 97 [(.t 36)]),
opB 38 (.un .not (.t 37)),
mvB 35 38] (some [1, 2, 35]))
(.cond (.t 35)
(.seq (.ops [opB 4 (.move (.c (.pointer none))),
opB 5 (.move (icB 6))] (some [4, 5]))
.ret)
.skip)))))))
(.seq (.ops [opB 39 (.load true 4 (.t 2)),
opB 40 (clB 101 [(.t 39)]),
mvB 41 1,
opB 42 (.makeMap),
opB 43 (.build [(.int .i64 0), (.int .i64 0), (.int .i64 0), (.slice none 0 0), (.pointer none), (.pointer none), (.slice none 0 0), (.slice none 0 0), (.map none), (.int .u64 0)] [(0, 4), (4, 1), (5, 1), (6, 1), (7, 1), (8, 1), (9, 1)] [(0, (.t 40)), (1, (.t 41)), (5, (.t 42))]),
opB 44 (.box (.t 43)),
mvB 6 44] (some [6]))
(.seq (.seq (.ops [mvB 45 6,
opB 46 (clB 157 [(.t 45)]),
mvB 7 46] (some [6, 7]))
(.seq (.ops [mvB 47 7,
opB 48 (.bin .neq 32 (.t 47) (icB 0))] (some [6, 7, 48]))
(.cond (.t 48)
(.seq (.ops [mvB 49 7,
opB 4 (.move (.c (.pointer none))),
mvB 5 49] (some [4, 5]))
.ret)
.skip)))
(.seq (.seq (.ops [mvB 50 6,
opB 51 (.nilCheck (.t 50)),
opB 52 (.fieldAddr 0 (.t 51)),
opB 53 (.fieldAddr 3 (.t 52)),
opB 54 (.load false 1 (.t 53)),
opB 55 (.len (.t 54)),
opB 56 (.move (icB 0))] (some [6, 54, 55, 56]))
(.block 1
(.loop
(.seq (.ops [opB 57 (.bin .lss 3 (.t 56) (.t 55))] (some [6, 54, 55, 56, 57]))
(.seq (.cond (.t 57)
.skip
(.exit 1))
(.seq (.block 2
(.seq (.ops [opB 58 (.indexAddr 4 (.t 54) (.t 56)),
opB 59 (.load true 4 (.t 58)),
opB 9 (.alloc [(.slice none 0 0), (.int .i64 0), (.int .i64 0), (.int .i64 0)]),
⟨none, none, .store 4 (.t 9) (.t 59)⟩] (some [6, 9, 54, 55, 56]))
(.seq (.ops [mvB 60 6,
opB 61 (.load true 4 (.t 9)),
opB 62 (clB 158 [(.t 60), (.t 61)]),
mvB 10 62] (some [6, 10, 54, 55, 56]))
(.seq (.ops [mvB 63 10,
opB 64 (.bin .neq 32 (.t 63) (icB 0))] (some [6, 10, 54, 55, 56, 64]))
(.cond (.t 64)
(.seq (.ops [mvB 65 10,
opB 4 (.move (.c (.pointer none))),
mvB 5 65] (some [4, 5]))
.ret)
.skip)))))
(.ops [opB 66 (.bin .add 3 (.t 56) (icB 1)),
mvB 56 66] (some [6, 54, 55, 56]))))))))
(.seq (.ops [mvB 67 6,
mvB 4 67,
opB 5 (.move (icB 0))] (some [4, 5]))
.ret)))))), [.tmp 4, .tmp 5]⟩

theorem is99 : FnIs Tryz.prog 99 x99 := ⟨Tryz.f99, _, Tryz.func99, by kernel_rfl, rfl, by kernel_rfl, by decide, by kernel_rfl⟩

/-- cloisonne/sess.New -/
def x100 : XDecl := .code ⟨2, 
(.seq (.ops [opB 4 (.move (.c (.pointer none))),
opB 5 (.move (icB 0))] (some [0, 1]))
(.seq (.seq (.ops [mvB 6 0,
opB 7 (.isNil .ptr false (.t 6))] (some [0, 1, 7]))
(.cond (.t 7)
(.seq (.ops [opB 4 (.move (.c (.pointer none))),
opB 5 (.move (icB 2))] (some [4, 5]))
.ret)
.skip))
(.seq (.ops [mvB 8 0,
mvB 9 1,
opB 10 (.build [(.pointer none), (.int .i64 0), (.bool false), (.bool false), (.int .i64 0), (.slice none 0 0), (.pointer none), (.pointer none), (.int .i64 0)] [(0, 1), (1, 1), (2, 1), (3, 1), (4, 1), (5, 1), (6, 1), (7, 1), (8, 1)] [(0, (.t 8)), (1, (.t 9))]),
opB 11 (.box (.t 10)),
mvB 4 11,
opB 5 (.move (icB 0))] (some [4, 5]))
.ret))), [.tmp 4, .tmp 5]⟩

theorem is100 : FnIs Tryz.prog 100 x100 := ⟨Tryz.f100, _, Tryz.func100, by kernel_rfl, rfl, by kernel_rfl, by decide, by kernel_rfl⟩

/-- cloisonne/vault.copied -/
def x101 : XDecl := .code ⟨1, 
(.seq (.ops [opB 1 (.box (.t 0)),
opB 2 (.alloc [(.int .i64 0), (.int .i64 0), (.int .i64 0), (.slice none 0 0)])] (some [1, 2]))
(.seq (.ops [opB 4 (.fieldAddr 3 (.t 1)),
opB 5 (.load false 1 (.t 4)),
opB 6 (clB 159 [(.t 5)]),
opB 7 (.fieldAddr 3 (.t 1)),
⟨none, none, .store 1 (.t 7) (.t 6)⟩] (some [1, 2]))
(.seq (.seq (.ops [opB 8 (.fieldAddr 3 (.t 1)),
opB 9 (.load false 1 (.t 8)),
opB 10 (.len (.t 9)),
opB 11 (.move (icB 0))] (some [1, 2, 10, 11]))
(.block 0
(.loop
(.seq (.ops [opB 12 (.bin .lss 3 (.t 11) (.t 10))] (some [1, 2, 10, 11, 12]))
(.seq (.cond (.t 12)
.skip
(.exit 0))
(.seq (.block 1
(.seq (.ops [mvB 13 11,
mvB 3 13] (some [1, 2, 3, 10, 11]))
(.opsd [(0, 0, opB 14 (.fieldAddr 3 (.t 1))),
(1, 1, opB 15 (.load false 1 (.t 14))),
(2, 0, mvB 16 3),
(3, 0, opB 17 (.fieldAddr 3 (.t 1))),
(4, 8, opB 18 (.load false 1 (.t 17))),
(5, 0, mvB 19 3),
(6, 56, opB 20 (.indexAddr 4 (.t 18) (.t 19))),
(7, 120, opB 21 (.fieldAddr 0 (.t 20))),
(8, 248, opB 22 (.load false 1 (.t 21))),
(9, 504, opB 23 (clB 136 [(.t 22)])),
(10, 1023, opB 24 (.indexAddr 4 (.t 15) (.t 16))),
(11, 2047, opB 25 (.fieldAddr 0 (.t 24))),
(12, 4095, ⟨none, none, .store 1 (.t 25) (.t 23)⟩)] (some [1, 2, 10, 11]))))
(.ops [opB 26 (.bin .add 3 (.t 11) (icB 1)),
mvB 11 26] (some [1, 2, 10, 11]))))))))
(.seq (.ops [opB 27 (.load true 4 (.t 1)),
⟨none, none, .store 4 (.t 2) (.t 27)⟩] (some [2]))
.ret)))), [.cell true 4 2]⟩

theorem is101 : FnIs Tryz.prog 101 x101 := ⟨Tryz.f101, _, Tryz.func101, by kernel_rfl, rfl, by kernel_rfl, by decide, by kernel_rfl⟩

/-- cloisonne/cloisonneref20.n -/
def x102 : XDecl := .code ⟨1, 
(.seq (.ops [opB 2 (.move (.c (.string .empty)))] (some [0]))
(.seq (.ops [mvB 3 0,
opB 4 (clB 160 [(.t 3)]),
mvB 2 4] (some [2]))
.ret)), [.tmp 2]⟩

theorem is102 : FnIs Tryz.prog 102 x102 := ⟨Tryz.f102, _, Tryz.func102, by kernel_rfl, rfl, by kernel_rfl, by decide, by kernel_rfl⟩

/-- cmp.isNaN[int] -/
def x109 : XDecl := .code ⟨1, 
(.seq (.ops [opB 2 (.move (.c (.bool false)))] (some [0]))
(.seq (.ops [mvB 3 0,
mvB 4 0,
opB 5 (.bin .neq 3 (.t 3) (.t 4)),
mvB 2 5] (some [2]))
.ret)), [.tmp 2]⟩

theorem is109 : FnIs Tryz.prog 109 x109 := ⟨Tryz.f109, _, Tryz.func109, by kernel_rfl, rfl, by kernel_rfl, by decide, by kernel_rfl⟩

/-- (*cloisonne/ferry.boat).call -/
def x111 : XDecl := .code ⟨2, 
(.seq (.ops [opB 3 (.box (.t 1)),
opB 4 (.alloc [(.int .i64 0), (.int .u64 0), (.bool false), (.bool false), (.string .empty), (.int .u64 0), (.slice none 0 0), (.int .i64 0), (.int .u64 0), (.int .u64 0), (.int .u64 0), (.int .u64 0)])] (some [0, 3, 4]))
(.seq (.seq (.ops [mvB 7 0,
opB 8 (.nilCheck (.t 7)),
opB 9 (.fieldAddr 2 (.t 8)),
opB 10 (.load false 1 (.t 9)),
opB 11 (.bin .neq 32 (.t 10) (icB 0))] (some [0, 3, 4, 11]))
(.cond (.t 11)
(.seq (.ops [opB 12 (.build [(.int .i64 0), (.int .u64 0), (.bool false), (.bool false), (.string .empty), (.int .u64 0), (.slice none 0 0), (.int .i64 0), (.int .u64 0), (.int .u64 0), (.int .u64 0), (.int .u64 0)] [(0, 1), (1, 1), (2, 1), (3, 3), (6, 1), (7, 5)] []),
⟨none, none, .store 12 (.t 4) (.t 12)⟩] (some [4]))
.ret)
.skip))
(.seq (.ops [mvB 14 0,
opB 15 (.load true 15 (.t 3)),
opB 16 (clB 165 [(.t 14), (.t 15)]),
mvB 13 16,
opB 17 (.extract (.t 13) 0),
opB 18 (.extract (.t 13) 1),
opB 5 (.alloc [(.int .i64 0), (.int .u64 0), (.bool false), (.bool false), (.string .empty), (.int .u64 0), (.slice none 0 0), (.int .i64 0), (.int .u64 0), (.int .u64 0), (.int .u64 0), (.int .u64 0)]),
⟨none, none, .store 12 (.t 5) (.t 17)⟩,
mvB 6 18] (some [0, 4, 5, 6]))
(.seq (.seq (.ops [mvB 19 6,
opB 20 (.bin .eql 32 (.t 19) (icB 0))] (some [0, 4, 5, 6, 20]))
(.cond (.t 20)
(.ops [opB 21 (.fieldAddr 0 (.t 5)),
opB 22 (.load false 1 (.t 21)),
mvB 6 22] (some [0, 4, 5, 6]))
.skip))
(.seq (.ops [mvB 23 0,
mvB 24 6,
opB 25 (.nilCheck (.t 23)),
opB 26 (.fieldAddr 2 (.t 25)),
⟨none, none, .store 1 (.t 26) (.t 24)⟩] (some [4, 5]))
(.seq (.ops [opB 27 (.load true 12 (.t 5)),
⟨none, none, .store 12 (.t 4) (.t 27)⟩] (some [4]))
.ret)))))), [.cell true 12 4]⟩

theorem is111 : FnIs Tryz.prog 111 x111 := ⟨Tryz.f111, _, Tryz.func111, by kernel_rfl, rfl, by kernel_rfl, by decide, by kernel_rfl⟩

/-- (*cloisonne/ferry.boat).page -/
def x112 : XDecl := .code ⟨4, 
(.seq (.ops [opB 8 (.move (.c (.slice none 0 0)))] (some [0, 1, 2, 3]))
(.seq (.seq (.ops [mvB 9 2,
opB 10 (.calcB .len [9] 3 [(.t 9)]),
opB 11 (.bin .gtr 3 (.t 10) (icB 32))] (some [0, 1, 2, 3, 11]))
(.cond (.t 11)
(.seq (.seq (.ops [mvB 12 0,
opB 13 (.nilCheck (.t 12)),
opB 14 (.fieldAddr 2 (.t 13)),
opB 15 (.load false 1 (.t 14)),
opB 16 (.bin .eql 32 (.t 15) (icB 0))] (some [0, 16]))
(.cond (.t 16)
(.ops [mvB 17 0,
opB 18 (.nilCheck (.t 17)),
opB 19 (.fieldAddr 2 (.t 18)),
⟨none, none, .store 1 (.t 19) (icB 5)⟩] (some []))
.skip))
(.seq (.ops [opB 8 (.move (.c (.slice none 0 0)))] (some [8]))
.ret))
.skip))
(.seq (.ops [mvB 20 0,
mvB 21 0,
mvB 22 1,
opB 23 (clB 166 [(.t 21), (.t 22)]),
mvB 24 2,
mvB 25 3,
opB 26 (.build [(.string .empty), (.string .empty), (.int .i64 0)] [(0, 1), (1, 1), (2, 1)] [(0, (.t 24)), (2, (.t 25))]),
opB 27 (.build [(.int .i64 0), (.int .i64 0), (.slice none 0 0), (.int .u64 0), (.bool false), (.int .i64 0), (.string .empty), (.bool false), (.string .empty), (.int .u64 0), (.string .empty), (.string .empty), (.int .i64 0), (.int .i64 0), (.slice none 0 0)] [(0, 1), (1, 1), (2, 1), (3, 1), (4, 1), (5, 1), (6, 1), (7, 3), (10, 3), (13, 1), (14, 1)] [(0, (icB 11)), (2, (.t 23)), (8, (.t 26))]),
opB 28 (clB 111 [(.t 20), (.t 27)]),
opB 29 (.field false 6 1 (.t 28)),
mvB 8 29] (some [8]))
.ret))), [.tmp 8]⟩

theorem is112 : FnIs Tryz.prog 112 x112 := ⟨Tryz.f112, _, Tryz.func112, by kernel_rfl, rfl, by kernel_rfl, by decide, by kernel_rfl⟩

/-- (*cloisonne/ferry.boat).rest -/
def x113 : XDecl := .code ⟨3, 
(.seq (.ops [opB 5 (.box (.t 2)),
opB 6 (.move (.c (.slice none 0 0)))] (some [0, 1, 5]))
(.seq (.seq (.ops [opB 8 (.fieldAddr 0 (.t 5)),
opB 9 (.load false 1 (.t 8)),
mvB 10 1,
opB 11 (.bin .geq 3 (.t 9) (.t 10))] (some [0, 1, 5, 11]))
(.cond (.t 11)
(.seq (.ops [opB 6 (.move (.c (.slice none 0 0)))] (some [6]))
.ret)
.skip))
(.seq (.ops [mvB 12 0,
mvB 13 1,
opB 14 (.fieldAddr 1 (.t 5)),
opB 15 (.load false 1 (.t 14)),
opB 16 (.build [(.int .i64 0), (.int .i64 0), (.slice none 0 0), (.int .u64 0), (.bool false), (.int .i64 0), (.string .empty), (.bool false), (.string .empty), (.int .u64 0), (.string .empty), (.string .empty), (.int .i64 0), (.int .i64 0), (.slice none 0 0)] [(0, 1), (1, 1), (2, 1), (3, 1), (4, 1), (5, 1), (6, 1), (7, 3), (10, 3), (13, 1), (14, 1)] [(0, (icB 8)), (5, (.t 13)), (6, (.t 15))]),
opB 17 (clB 111 [(.t 12), (.t 16)]),
opB 7 (.alloc [(.int .i64 0), (.int .u64 0), (.bool false), (.bool false), (.string .empty), (.int .u64 0), (.slice none 0 0), (.int .i64 0), (.int .u64 0), (.int .u64 0), (.int .u64 0), (.int .u64 0)]),
⟨none, none, .store 12 (.t 7) (.t 17)⟩] (some [5, 7]))
(.seq (.seq (.ops [opB 18 (.fieldAddr 2 (.t 7)),
opB 19 (.load false 1 (.t 18)),
opB 20 (.un .not (.t 19))] (some [5, 7, 20]))
(.cond (.t 20)
(.seq (.ops [opB 6 (.move (.c (.slice none 0 0)))] (some [6]))
.ret)
.skip))
(.seq (.ops [opB 21 (.fieldAddr 1 (.t 5)),
opB 22 (.load false 1 (.t 21)),
opB 23 (.fieldAddr 3 (.t 7)),
opB 24 (.load true 3 (.t 23)),
opB 25 (.build [(.string .empty), (.int .i64 0), (.bool false), (.string .empty), (.int .u64 0)] [(0, 1), (1, 1), (2, 3)] [(0, (.t 22)), (1, (icB 1)), (2, (.t 24))]),
opB 26 (.buildSlice [(.string .empty), (.int .i64 0), (.bool false), (.string .empty), (.int .u64 0)] 5 1 [(0, (.t 25))]),
mvB 6 26] (some [6]))
.ret))))), [.tmp 6]⟩

theorem is113 : FnIs Tryz.prog 113 x113 := ⟨Tryz.f113, _, Tryz.func113, by kernel_rfl, rfl, by kernel_rfl, by decide, by kernel_rfl⟩

/-- (*cloisonne/ferry.boat).abort -/
def x114 : XDecl := .code ⟨1, 
(.seq (.opsd [(0, 0, mvB 4 0),
(1, 1, opB 5 (.nilCheck (.t 4))),
(2, 3, opB 6 (.fieldAddr 0 (.t 5))),
(3, 7, opB 7 (.load false 1 (.t 6))),
(4, 0, mvB 8 0),
(5, 16, opB 9 (.nilCheck (.t 8))),
(6, 48, opB 10 (.fieldAddr 1 (.t 9))),
(7, 112, opB 11 (.load false 1 (.t 10))),
(8, 255, opB 12 (clB 16 [(.t 7), (.t 11)])),
(9, 511, opB 13 (clB 72 [(.t 12)]))] (some [0, 13]))
(.cond (.t 13)
(.seq (.ops [mvB 15 0,
opB 16 (.build [(.int .i64 0), (.int .i64 0), (.slice none 0 0), (.int .u64 0), (.bool false), (.int .i64 0), (.string .empty), (.bool false), (.string .empty), (.int .u64 0), (.string .empty), (.string .empty), (.int .i64 0), (.int .i64 0), (.slice none 0 0)] [(0, 1), (1, 1), (2, 1), (3, 1), (4, 1), (5, 1), (6, 1), (7, 3), (10, 3), (13, 1), (14, 1)] [(0, (icB 15))]),
opB 17 (clB 165 [(.t 15), (.t 16)]),
mvB 14 17,
opB 18 (.extract (.t 14) 0),
opB 19 (.extract (.t 14) 1),
opB 2 (.alloc [(.int .i64 0), (.int .u64 0), (.bool false), (.bool false), (.string .empty), (.int .u64 0), (.slice none 0 0), (.int .i64 0), (.int .u64 0), (.int .u64 0), (.int .u64 0), (.int .u64 0)]),
⟨none, none, .store 12 (.t 2) (.t 18)⟩,
mvB 3 19] (some [0, 3]))
(.seq (.ops [mvB 20 3,
opB 21 (.bin .neq 32 (.t 20) (icB 0)),
mvB 22 21,
⟨some 23, some (22, true), .move (.t 0)⟩,
⟨some 24, some (22, true), .nilCheck (.t 23)⟩,
⟨some 25, some (22, true), .fieldAddr 2 (.t 24)⟩,
⟨some 26, some (22, true), .load false 1 (.t 25)⟩,
⟨some 27, some (22, true), .bin .eql 32 (.t 26) (icB 0)⟩,
opB 28 (.pick (.t 22) (.t 27) (.c (.bool false)))] (some [0, 3, 28]))
(.cond (.t 28)
(.ops [mvB 29 0,
mvB 30 3,
opB 31 (.nilCheck (.t 29)),
opB 32 (.fieldAddr 2 (.t 31)),
⟨none, none, .store 1 (.t 32) (.t 30)⟩] (some []))
.skip)))
.skip)), []⟩

theorem is114 : FnIs Tryz.prog 114 x114 := ⟨Tryz.f114, _, Tryz.func114, by kernel_rfl, rfl, by kernel_rfl, by decide, by kernel_rfl⟩

/-- cloisonne/diff.key -/
def x115 : XDecl := .code ⟨1, 
 (.seq (.ops [⟨(some 2), none, .move (.c (.bool false))⟩] (some [0]))
 (.seq (.ops [⟨(some 3), none, .move (.t 0)⟩,
   ⟨(some 4), none, .bin .neq 9 (.t 3) (.c (.string .empty))⟩,
   ⟨(some 5), none, .move (.t 4)⟩,
   ⟨(some 6), (some (5, true)), .move (.t 0)⟩,
   ⟨(some 7), (some (5, true)), .calcB .len [9] 3 [(.t 6)]⟩,
   ⟨(some 8), (some (5, true)), .bin .leq 3 (.t 7) (.c (.int .i64 32))⟩,
   ⟨(some 9), none, .pick (.t 5) (.t 8) (.c (.bool false))⟩,
   ⟨(some 2), none, .move (.t 9)⟩] (some [2]))
 .ret)), [.tmp 2]⟩

theorem is115 : FnIs Tryz.prog 115 x115 := ⟨Tryz.f115, _, Tryz.func115, by kernel_rfl, rfl, by kernel_rfl, by decide, by kernel_rfl⟩

/-- cloisonne/value.Right -/
def x116 : XDecl := .code ⟨1, 
 (.seq (.ops [⟨(some 1), none, .box (.t 0)⟩,
   ⟨(some 2), none, .move (.c (.bool false))⟩] (some [1]))
 (.seq (.seq (.ops [⟨(some 3), none, .fieldAddr 0 (.t 1)⟩,
   ⟨(some 4), none, .load false 1 (.t 3)⟩] (some [1, 4]))
 (.cond (.t 4)
  (.seq (.opsd [(0, 0, ⟨(some 5), none, .fieldAddr 1 (.t 1)⟩),
    (1, 1, ⟨(some 6), none, .load false 1 (.t 5)⟩),
    (2, 3, ⟨(some 7), none, .bin .eql 9 (.t 6) (.c (.string .empty))⟩),
    (3, 7, ⟨(some 8), none, .move (.t 7)⟩),
    (4, 15, ⟨(some 9), (some (8, true)), .fieldAddr 2 (.t 1)⟩),
    (5, 31, ⟨(some 10), (some (8, true)), .load false 1 (.t 9)⟩),
    (8, 15, ⟨(some 13), (some (8, true)), .fieldAddr 2 (.t 1)⟩),
    (9, 271, ⟨(some 14), (some (8, true)), .load false 1 (.t 13)⟩),
    (6, 63, ⟨(some 11), (some (8, true)), .call (.c (.func (.func 168) #[] #[])) [(.t 10)]⟩),
    (7, 127, ⟨(some 12), (some (8, true)), .call (.c (.func (.func 167) #[] #[])) [(.t 11)]⟩),
    (10, 1023, ⟨(some 15), (some (8, true)), .bin .eql 77 (.t 12) (.t 14)⟩),
    (11, 2047, ⟨(some 16), none, .pick (.t 8) (.t 15) (.c (.bool false))⟩),
    (12, 4095, ⟨(some 2), none, .move (.t 16)⟩)] (some [2]))
  .ret)
  .skip))
 (.seq (.ops [⟨(some 17), none, .fieldAddr 2 (.t 1)⟩,
   ⟨(some 18), none, .load false 1 (.t 17)⟩,
   ⟨(some 19), none, .bin .eql 77 (.t 18) (.c (.int .u64 0))⟩,
   ⟨(some 20), none, .move (.t 19)⟩,
   ⟨(some 21), (some (20, true)), .fieldAddr 1 (.t 1)⟩,
   ⟨(some 22), (some (20, true)), .load false 1 (.t 21)⟩,
   ⟨(some 23), (some (20, true)), .calcB .len [9] 3 [(.t 22)]⟩,
   ⟨(some 24), (some (20, true)), .bin .leq 3 (.t 23) (.c (.int .i64 64))⟩,
   ⟨(some 25), none, .pick (.t 20) (.t 24) (.c (.bool false))⟩,
   ⟨(some 2), none, .move (.t 25)⟩] (some [2]))
 .ret))), [.tmp 2]⟩

theorem is116 : FnIs Tryz.prog 116 x116 := ⟨Tryz.f116, _, Tryz.func116, by kernel_rfl, rfl, by kernel_rfl, by decide, by kernel_rfl⟩

/-- cloisonne/diff.keys -/
def x117 : XDecl := .code ⟨1, 
(.seq (.ops [opB 2 (.move (.c (.slice none 0 0)))] (some [0]))
(.seq (.ops [opB 3 (.move (.c (.slice none 0 0)))] (some [0, 3]))
(.seq (.seq (.ops [mvB 8 0,
opB 9 (.len (.t 8)),
opB 10 (.move (icB 0))] (some [3, 8, 9, 10]))
(.block 0
(.loop
(.seq (.ops [opB 11 (.bin .lss 3 (.t 10) (.t 9))] (some [3, 8, 9, 10, 11]))
(.seq (.cond (.t 11)
.skip
(.exit 0))
(.seq (.block 1
(.seq (.ops [opB 12 (.indexAddr 1 (.t 8) (.t 10)),
opB 13 (.load false 1 (.t 12)),
mvB 5 13] (some [3, 5, 8, 9, 10]))
(.seq (.ops [mvB 14 5,
opB 15 (.len (.t 14)),
opB 16 (.move (icB 0))] (some [3, 8, 9, 10, 14, 15, 16]))
(.block 2
(.loop
(.seq (.ops [opB 17 (.bin .lss 3 (.t 16) (.t 15))] (some [3, 8, 9, 10, 14, 15, 16, 17]))
(.seq (.cond (.t 17)
.skip
(.exit 2))
(.seq (.block 3
(.seq (.ops [opB 18 (.indexAddr 5 (.t 14) (.t 16)),
opB 19 (.load true 5 (.t 18)),
opB 7 (.alloc [(.string .empty), (.int .i64 0), (.bool false), (.string .empty), (.int .u64 0)]),
⟨none, none, .store 5 (.t 7) (.t 19)⟩] (some [3, 7, 8, 9, 10, 14, 15, 16]))
(.ops [mvB 20 3,
opB 21 (.fieldAddr 0 (.t 7)),
opB 22 (.load false 1 (.t 21)),
opB 23 (.buildSlice [(.string .empty)] 1 1 [(0, (.t 22))]),
opB 24 (.append 1 16 [(.string .empty)] (.t 20) (.t 23)),
mvB 3 24] (some [3, 8, 9, 10, 14, 15, 16]))))
(.ops [opB 25 (.bin .add 3 (.t 16) (icB 1)),
mvB 16 25] (some [3, 8, 9, 10, 14, 15, 16]))))))))))
(.ops [opB 26 (.bin .add 3 (.t 10) (icB 1)),
mvB 10 26] (some [3, 8, 9, 10]))))))))
(.seq (.ops [mvB 27 3,
opB 28 (clB 169 [(.t 27)])] (some [3]))
(.seq (.ops [mvB 29 3,
opB 30 (clB 170 [(.t 29)]),
mvB 2 30] (some [2]))
.ret))))), [.tmp 2]⟩

theorem is117 : FnIs Tryz.prog 117 x117 := ⟨Tryz.f117, _, Tryz.func117, by kernel_rfl, rfl, by kernel_rfl, by decide, by kernel_rfl⟩

/-- cloisonne/diff.turn -/
def x118 : XDecl := .code ⟨3, 
(.seq (.ops [opB 6 (.alloc [(.string .empty), (.bool false), (.bool false), (.string .empty), (.int .u64 0)]),
opB 7 (.move (.c (.bool false)))] (some [0, 1, 2, 6]))
(.seq (.ops [mvB 13 0,
mvB 14 2,
opB 15 (clB 171 [(.t 13), (.t 14)]),
mvB 12 15,
opB 16 (.extract (.t 12) 0),
opB 17 (.extract (.t 12) 1),
opB 8 (.alloc [(.string .empty), (.int .i64 0), (.bool false), (.string .empty), (.int .u64 0)]),
⟨none, none, .store 5 (.t 8) (.t 16)⟩,
mvB 9 17] (some [1, 2, 6, 8, 9]))
(.seq (.ops [mvB 19 1,
mvB 20 2,
opB 21 (clB 171 [(.t 19), (.t 20)]),
mvB 18 21,
opB 22 (.extract (.t 18) 0),
opB 23 (.extract (.t 18) 1),
opB 10 (.alloc [(.string .empty), (.int .i64 0), (.bool false), (.string .empty), (.int .u64 0)]),
⟨none, none, .store 5 (.t 10) (.t 22)⟩,
mvB 11 23] (some [2, 6, 8, 9, 10, 11]))
(.seq (.block 0
(.seq (.ops [mvB 25 11,
mvB 26 25,
⟨some 27, some (26, true), .move (.t 9)⟩,
⟨some 28, some (26, true), .un .not (.t 27)⟩,
⟨some 29, some (26, true), .move (.t 28)⟩,
⟨some 30, some (29, false), .fieldAddr 2 (.t 8)⟩,
⟨some 31, some (29, false), .load true 3 (.t 30)⟩,
⟨some 32, some (29, false), .fieldAddr 2 (.t 10)⟩,
⟨some 33, some (29, false), .load true 3 (.t 32)⟩,
⟨some 34, some (29, false), .bin .neq 79 (.t 31) (.t 33)⟩,
⟨some 35, some (26, true), .pick (.t 29) (.c (.bool true)) (.t 34)⟩,
opB 36 (.pick (.t 26) (.t 35) (.c (.bool false))),
mvB 24 36] (some [2, 6, 9, 10, 11, 24]))
(.cond (.t 24)
(.seq (.ops [mvB 37 2,
opB 38 (.fieldAddr 2 (.t 10)),
opB 39 (.load true 3 (.t 38)),
opB 40 (.build [(.string .empty), (.bool false), (.bool false), (.string .empty), (.int .u64 0)] [(0, 1), (1, 1), (2, 3)] [(0, (.t 37)), (2, (.t 39))]),
⟨none, none, .store 5 (.t 6) (.t 40)⟩,
opB 7 (.move (.c (.bool true)))] (some [6, 7]))
.ret)
(.seq (.ops [mvB 42 9,
mvB 43 42,
⟨some 44, some (43, true), .move (.t 11)⟩,
⟨some 45, some (43, true), .un .not (.t 44)⟩,
opB 46 (.pick (.t 43) (.t 45) (.c (.bool false))),
mvB 41 46] (some [2, 6, 41]))
(.cond (.t 41)
(.seq (.ops [mvB 47 2,
opB 48 (.build [(.string .empty), (.bool false), (.bool false), (.string .empty), (.int .u64 0)] [(0, 1), (1, 1), (2, 3)] [(0, (.t 47)), (1, (.c (.bool true)))]),
⟨none, none, .store 5 (.t 6) (.t 48)⟩,
opB 7 (.move (.c (.bool true)))] (some [6, 7]))
.ret)
.skip)))))
(.seq (.ops [opB 49 (.build [(.string .empty), (.bool false), (.bool false), (.string .empty), (.int .u64 0)] [(0, 1), (1, 1), (2, 3)] []),
⟨none, none, .store 5 (.t 6) (.t 49)⟩,
opB 7 (.move (.c (.bool false)))] (some [6, 7]))
.ret))))), [.cell true 5 6, .tmp 7]⟩

theorem is118 : FnIs Tryz.prog 118 x118 := ⟨Tryz.f118, _, Tryz.func118, by kernel_rfl, rfl, by kernel_rfl, by decide, by kernel_rfl⟩

/-- slices.Clone[[]cloisonne/api.Write,cloisonne/api.Write] -/
def x119 : XDecl := .code ⟨1, 
(.seq (.ops [opB 2 (.move (.c (.slice none 0 0)))] (some [0]))
(.seq (.seq (.ops [mvB 3 0,
opB 4 (.isNil .slice false (.t 3))] (some [0, 4]))
(.cond (.t 4)
(.seq (.ops [opB 2 (.move (.c (.slice none 0 0)))] (some [2]))
.ret)
.skip))
(.seq (.ops [opB 5 (.buildSlice [(.string .empty), (.bool false), (.bool false), (.string .empty), (.int .u64 0)] 5 0 []),
mvB 6 0,
opB 7 (.append 5 56 [(.string .empty), (.bool false), (.bool false), (.string .empty), (.int .u64 0)] (.t 5) (.t 6)),
mvB 2 7] (some [2]))
.ret))), [.tmp 2]⟩

theorem is119 : FnIs Tryz.prog 119 x119 := ⟨Tryz.f119, _, Tryz.func119, by kernel_rfl, rfl, by kernel_rfl, by decide, by kernel_rfl⟩

/-- cloisonne/cloisonneref11.Right -/
def x120 : XDecl := .code ⟨1, 
(.seq (.ops [opB 1 (.box (.t 0)),
opB 2 (.move (.c (.bool false)))] (some [1]))
(.seq (.ops [opB 3 (.fieldAddr 0 (.t 1)),
opB 4 (.load false 1 (.t 3)),
opB 5 (clB 172 [(.t 4)]),
mvB 6 5,
⟨some 7, some (6, true), .fieldAddr 1 (.t 1)⟩,
⟨some 8, some (6, true), .load false 1 (.t 7)⟩,
⟨some 9, some (6, true), .bin .geq 3 (.t 8) (icB 1)⟩,
opB 10 (.pick (.t 6) (.t 9) (.c (.bool false))),
mvB 11 10,
⟨some 12, some (11, true), .fieldAddr 1 (.t 1)⟩,
⟨some 13, some (11, true), .load false 1 (.t 12)⟩,
⟨some 14, some (11, true), .bin .leq 3 (.t 13) (icB 16)⟩,
opB 15 (.pick (.t 11) (.t 14) (.c (.bool false))),
mvB 16 15,
⟨some 17, some (16, true), .fieldAddr 2 (.t 1)⟩,
⟨some 18, some (16, true), .load false 1 (.t 17)⟩,
⟨some 19, some (16, true), .bin .geq 3 (.t 18) (icB 0)⟩,
opB 20 (.pick (.t 16) (.t 19) (.c (.bool false))),
mvB 21 20,
⟨some 22, some (21, true), .fieldAddr 2 (.t 1)⟩,
⟨some 23, some (21, true), .load false 1 (.t 22)⟩,
⟨some 24, some (21, true), .bin .leq 3 (.t 23) (icB 1048576)⟩,
opB 25 (.pick (.t 21) (.t 24) (.c (.bool false))),
mvB 26 25,
⟨some 27, some (26, true), .fieldAddr 3 (.t 1)⟩,
⟨some 28, some (26, true), .load false 1 (.t 27)⟩,
⟨some 29, some (26, true), .bin .geq 3 (.t 28) (icB 1)⟩,
opB 30 (.pick (.t 26) (.t 29) (.c (.bool false))),
mvB 31 30,
⟨some 32, some (31, true), .fieldAddr 3 (.t 1)⟩,
⟨some 33, some (31, true), .load false 1 (.t 32)⟩,
⟨some 34, some (31, true), .bin .leq 3 (.t 33) (icB 1073741824)⟩,
opB 35 (.pick (.t 31) (.t 34) (.c (.bool false))),
mvB 2 35] (some [2]))
.ret)), [.tmp 2]⟩

theorem is120 : FnIs Tryz.prog 120 x120 := ⟨Tryz.f120, _, Tryz.func120, by kernel_rfl, rfl, by kernel_rfl, by decide, by kernel_rfl⟩

/-- cloisonne/cloisonneref02.Same -/
def x121 : XDecl := .code ⟨2, 
(.seq (.ops [opB 4 (.move (.c (.bool false)))] (some [0, 1]))
(.seq (.ops [mvB 5 0,
mvB 6 1,
opB 7 (clB 173 [(.t 5), (.t 6)]),
opB 8 (.bin .eql 3 (.t 7) (icB 0)),
mvB 4 8] (some [4]))
.ret)), [.tmp 4]⟩

theorem is121 : FnIs Tryz.prog 121 x121 := ⟨Tryz.f121, _, Tryz.func121, by kernel_rfl, rfl, by kernel_rfl, by decide, by kernel_rfl⟩

/-- slices.Contains[[]cloisonne/ask.field,cloisonne/ask.field] -/
def x122 : XDecl := .code ⟨2, 
(.seq (.ops [opB 4 (.move (.c (.bool false)))] (some [0, 1]))
(.seq (.ops [mvB 5 0,
mvB 6 1,
opB 7 (clB 174 [(.t 5), (.t 6)]),
opB 8 (.bin .geq 3 (.t 7) (icB 0)),
mvB 4 8] (some [4]))
.ret)), [.tmp 4]⟩

theorem is122 : FnIs Tryz.prog 122 x122 := ⟨Tryz.f122, _, Tryz.func122, by kernel_rfl, rfl, by kernel_rfl, by decide, by kernel_rfl⟩

/-- cloisonne/ask.named -/
def x123 : XDecl := .code ⟨2, 
(.seq (.ops [opB 2 (.box (.t 0)),
opB 4 (.move (.c (.bool false)))] (some [1, 2]))
(.seq (.seq (.ops [mvB 5 1] (some [2, 5]))
(.block 0
(.seq (.ops [opB 7 (.bin .eql 160 (.t 5) (icB 0)),
mvB 6 7] (some [2, 5, 6]))
(.cond (.t 6)
(.seq (.ops [opB 8 (.fieldAddr 1 (.t 2)),
opB 9 (.load false 1 (.t 8)),
opB 10 (clB 125 [(.t 9), (icB 0), (icB 7)]),
mvB 4 10] (some [4]))
.ret)
(.seq (.ops [opB 12 (.bin .eql 160 (.t 5) (icB 1)),
mvB 11 12] (some [2, 5, 11]))
(.cond (.t 11)
(.seq (.ops [opB 13 (.fieldAddr 2 (.t 2)),
opB 14 (.load false 1 (.t 13)),
opB 15 (clB 175 [(.t 14)]),
mvB 4 15] (some [4]))
.ret)
(.seq (.ops [opB 17 (.bin .eql 160 (.t 5) (icB 2)),
mvB 16 17] (some [2, 5, 16]))
(.cond (.t 16)
(.seq (.ops [opB 18 (.fieldAddr 3 (.t 2)),
opB 19 (.load false 1 (.t 18)),
opB 20 (.bin .geq 77 (.t 19) (.c (.int .u64 1))),
mvB 4 20] (some [4]))
.ret)
(.seq (.ops [opB 22 (.bin .eql 160 (.t 5) (icB 4)),
mvB 21 22] (some [2, 5, 21]))
(.cond (.t 21)
(.seq (.ops [opB 23 (.fieldAddr 5 (.t 2)),
opB 24 (.load false 1 (.t 23)),
opB 25 (clB 125 [(.t 24), (icB 0), (icB 7)]),
mvB 4 25] (some [4]))
.ret)
(.seq (.ops [opB 27 (.bin .eql 160 (.t 5) (icB 5)),
mvB 26 27] (some [2, 5, 26]))
(.cond (.t 26)
(.seq (.ops [opB 28 (.fieldAddr 6 (.t 2)),
opB 29 (.load false 1 (.t 28)),
opB 30 (.calcB .len [9] 3 [(.t 29)]),
opB 31 (clB 125 [(.t 30), (icB 1), (icB 32)]),
mvB 4 31] (some [4]))
.ret)
(.seq (.ops [opB 33 (.bin .eql 160 (.t 5) (icB 6)),
mvB 32 33] (some [2, 5, 32]))
(.cond (.t 32)
(.seq (.ops [opB 34 (.fieldAddr 7 (.t 2)),
opB 35 (.load true 3 (.t 34)),
opB 36 (clB 116 [(.t 35)]),
mvB 4 36] (some [4]))
.ret)
(.seq (.ops [opB 38 (.bin .eql 160 (.t 5) (icB 7)),
mvB 37 38] (some [2, 5, 37]))
(.cond (.t 37)
(.seq (.ops [opB 39 (.fieldAddr 10 (.t 2)),
opB 40 (.load true 3 (.t 39)),
opB 41 (clB 176 [(.t 40)]),
mvB 42 41,
⟨some 43, some (42, true), .fieldAddr 10 (.t 2)⟩,
⟨some 44, some (42, true), .fieldAddr 0 (.t 43)⟩,
⟨some 45, some (42, true), .load false 1 (.t 44)⟩,
⟨some 46, some (42, true), .calcB .len [9] 3 [(.t 45)]⟩,
⟨some 47, some (42, true), .bin .leq 3 (.t 46) (icB 32)⟩,
opB 48 (.pick (.t 42) (.t 47) (.c (.bool false))),
mvB 49 48,
⟨some 50, some (49, true), .fieldAddr 10 (.t 2)⟩,
⟨some 51, some (49, true), .fieldAddr 1 (.t 50)⟩,
⟨some 52, some (49, true), .load false 1 (.t 51)⟩,
⟨some 53, some (49, true), .calcB .len [9] 3 [(.t 52)]⟩,
⟨some 54, some (49, true), .bin .leq 3 (.t 53) (icB 32)⟩,
opB 55 (.pick (.t 49) (.t 54) (.c (.bool false))),
mvB 4 55] (some [4]))
.ret)
(.seq (.ops [opB 57 (.bin .eql 160 (.t 5) (icB 8)),
mvB 56 57] (some [2, 5, 56]))
(.cond (.t 56)
(.seq (.ops [opB 58 (.fieldAddr 13 (.t 2)),
opB 59 (.load false 1 (.t 58)),
opB 60 (clB 125 [(.t 59), (icB 1), (icB 4)]),
mvB 4 60] (some [4]))
.ret)
(.seq (.ops [opB 62 (.bin .eql 160 (.t 5) (icB 9)),
mvB 61 62] (some [2, 61]))
(.cond (.t 61)
(.seq (.ops [opB 63 (.fieldAddr 14 (.t 2)),
opB 64 (.load false 1 (.t 63)),
opB 65 (clB 177 [(.t 64)]),
mvB 4 65] (some [4]))
.ret)
.skip))))))))))))))))))))
(.seq (.ops [opB 4 (.move (.c (.bool true)))] (some [4]))
.ret))), [.tmp 4]⟩

theorem is123 : FnIs Tryz.prog 123 x123 := ⟨Tryz.f123, _, Tryz.func123, by kernel_rfl, rfl, by kernel_rfl, by decide, by kernel_rfl⟩

/-- cloisonne/ask.zero -/
def x124 : XDecl := .code ⟨2, 
(.seq (.ops [opB 2 (.box (.t 0)),
opB 4 (.move (.c (.bool false)))] (some [1, 2]))
(.seq (.seq (.ops [mvB 5 1] (some [2, 5]))
(.block 0
(.seq (.ops [opB 7 (.bin .eql 160 (.t 5) (icB 0)),
mvB 6 7] (some [2, 5, 6]))
(.cond (.t 6)
(.seq (.ops [opB 8 (.fieldAddr 1 (.t 2)),
opB 9 (.load false 1 (.t 8)),
opB 10 (.bin .eql 3 (.t 9) (icB 0)),
mvB 4 10] (some [4]))
.ret)
(.seq (.ops [opB 12 (.bin .eql 160 (.t 5) (icB 1)),
mvB 11 12] (some [2, 5, 11]))
(.cond (.t 11)
(.seq (.ops [opB 13 (.fieldAddr 2 (.t 2)),
opB 14 (.load false 1 (.t 13)),
opB 15 (.len (.t 14)),
opB 16 (.bin .eql 3 (.t 15) (icB 0)),
mvB 4 16] (some [4]))
.ret)
(.seq (.ops [opB 18 (.bin .eql 160 (.t 5) (icB 2)),
mvB 17 18] (some [2, 5, 17]))
(.cond (.t 17)
(.seq (.ops [opB 19 (.fieldAddr 3 (.t 2)),
opB 20 (.load false 1 (.t 19)),
opB 21 (.bin .eql 77 (.t 20) (.c (.int .u64 0))),
mvB 4 21] (some [4]))
.ret)
(.seq (.ops [opB 23 (.bin .eql 160 (.t 5) (icB 3)),
mvB 22 23] (some [2, 5, 22]))
(.cond (.t 22)
(.seq (.ops [opB 24 (.fieldAddr 4 (.t 2)),
opB 25 (.load false 1 (.t 24)),
opB 26 (.un .not (.t 25)),
mvB 4 26] (some [4]))
.ret)
(.seq (.ops [opB 28 (.bin .eql 160 (.t 5) (icB 4)),
mvB 27 28] (some [2, 5, 27]))
(.cond (.t 27)
(.seq (.ops [opB 29 (.fieldAddr 5 (.t 2)),
opB 30 (.load false 1 (.t 29)),
opB 31 (.bin .eql 3 (.t 30) (icB 0)),
mvB 4 31] (some [4]))
.ret)
(.seq (.ops [opB 33 (.bin .eql 160 (.t 5) (icB 5)),
mvB 32 33] (some [2, 5, 32]))
(.cond (.t 32)
(.seq (.ops [opB 34 (.fieldAddr 6 (.t 2)),
opB 35 (.load false 1 (.t 34)),
opB 36 (.bin .eql 9 (.t 35) (.c (.string .empty))),
mvB 4 36] (some [4]))
.ret)
(.seq (.ops [opB 38 (.bin .eql 160 (.t 5) (icB 6)),
mvB 37 38] (some [2, 5, 37]))
(.cond (.t 37)
(.seq (.ops [opB 39 (.fieldAddr 7 (.t 2)),
opB 40 (.load true 3 (.t 39)),
opB 41 (.build [(.bool false), (.string .empty), (.int .u64 0)] [(0, 1), (1, 1), (2, 1)] []),
opB 42 (.bin .eql 79 (.t 40) (.t 41)),
mvB 4 42] (some [4]))
.ret)
(.seq (.ops [opB 44 (.bin .eql 160 (.t 5) (icB 7)),
mvB 43 44] (some [2, 5, 43]))
(.cond (.t 43)
(.seq (.ops [opB 45 (.fieldAddr 10 (.t 2)),
opB 46 (.load true 3 (.t 45)),
opB 47 (.build [(.string .empty), (.string .empty), (.int .i64 0)] [(0, 1), (1, 1), (2, 1)] []),
opB 48 (.bin .eql 81 (.t 46) (.t 47)),
mvB 4 48] (some [4]))
.ret)
(.seq (.ops [opB 50 (.bin .eql 160 (.t 5) (icB 8)),
mvB 49 50] (some [2, 49]))
(.cond (.t 49)
(.seq (.ops [opB 51 (.fieldAddr 13 (.t 2)),
opB 52 (.load false 1 (.t 51)),
opB 53 (.bin .eql 3 (.t 52) (icB 0)),
mvB 4 53] (some [4]))
.ret)
.skip))))))))))))))))))))
(.seq (.ops [opB 54 (.fieldAddr 14 (.t 2)),
opB 55 (.load false 1 (.t 54)),
opB 56 (.len (.t 55)),
opB 57 (.bin .eql 3 (.t 56) (icB 0)),
mvB 4 57] (some [4]))
.ret))), [.tmp 4]⟩

theorem is124 : FnIs Tryz.prog 124 x124 := ⟨Tryz.f124, _, Tryz.func124, by kernel_rfl, rfl, by kernel_rfl, by decide, by kernel_rfl⟩

/-- cloisonne/ask.within -/
def x125 : XDecl := .code ⟨3, 
(.seq (.ops [opB 6 (.move (.c (.bool false)))] (some [0, 1, 2]))
(.seq (.ops [mvB 7 0,
mvB 8 1,
opB 9 (.bin .geq 3 (.t 7) (.t 8)),
mvB 10 9,
⟨some 11, some (10, true), .move (.t 0)⟩,
⟨some 12, some (10, true), .move (.t 2)⟩,
⟨some 13, some (10, true), .bin .leq 3 (.t 11) (.t 12)⟩,
opB 14 (.pick (.t 10) (.t 13) (.c (.bool false))),
mvB 6 14] (some [6]))
.ret)), [.tmp 6]⟩

theorem is125 : FnIs Tryz.prog 125 x125 := ⟨Tryz.f125, _, Tryz.func125, by kernel_rfl, rfl, by kernel_rfl, by decide, by kernel_rfl⟩

/-- cloisonne/wire.Print -/
def x126 : XDecl := .code ⟨2, 
(.seq (.ops [opB 4 (.move (.c (.string .empty))),
opB 5 (.alloc [(.int .i64 0)])] (some [0, 1, 5]))
(.seq (.ops [⟨none, none, .dfr [(.t 5)]⟩] (some [0, 1, 5]))
(.seq (.ops [mvB 13 0,
opB 14 (clB 179 [(.t 13)]),
mvB 12 14,
opB 15 (.extract (.t 12) 0),
opB 16 (.extract (.t 12) 1),
opB 17 (.extract (.t 12) 2),
mvB 6 15,
mvB 7 16,
mvB 8 17] (some [1, 5, 6, 7, 8]))
(.seq (.ops [mvB 18 8,
mvB 19 18,
⟨some 20, some (19, true), .move (.t 6)⟩,
⟨some 21, some (19, true), .len (.t 20)⟩,
⟨some 22, some (19, true), .move (.t 1)⟩,
⟨some 23, some (19, true), .len (.t 22)⟩,
⟨some 24, some (19, true), .bin .eql 3 (.t 21) (.t 23)⟩,
opB 25 (.pick (.t 19) (.t 24) (.c (.bool false))),
opB 26 (clB 180 [(.t 25), (icB 1)])] (some [1, 5, 6, 7]))
(.seq (.ops [opB 27 (.build [(.slice none 0 0)] [(0, 1)] []),
opB 28 (.box (.t 27)),
mvB 9 28] (some [1, 5, 6, 7, 9]))
(.seq (.seq (.ops [mvB 29 1,
opB 30 (.len (.t 29)),
opB 31 (.move (icB 0))] (some [5, 6, 7, 9, 29, 30, 31]))
(.block 0
(.loop
(.seq (.ops [opB 32 (.bin .lss 3 (.t 31) (.t 30))] (some [5, 6, 7, 9, 29, 30, 31, 32]))
(.seq (.cond (.t 32)
.skip
(.exit 0))
(.seq (.block 1
(.seq (.ops [mvB 33 31,
opB 34 (.indexAddr 4 (.t 29) (.t 31)),
opB 35 (.load true 4 (.t 34)),
opB 11 (.alloc [(.int .u64 0), (.string .empty), (.slice none 0 0), (.slice none 0 0)]),
mvB 10 33,
⟨none, none, .store 4 (.t 11) (.t 35)⟩] (some [5, 6, 7, 9, 10, 11, 29, 30, 31]))
(.seq (.ops [mvB 36 7,
mvB 37 10,
opB 38 (.indexAddr 1 (.t 36) (.t 37)),
opB 39 (.load false 1 (.t 38))] (some [5, 6, 7, 9, 10, 11, 29, 30, 31, 39]))
(.cond (.t 39)
(.opsd [(0, 0, mvB 40 9),
(1, 0, mvB 41 6),
(2, 0, mvB 42 10),
(3, 6, opB 43 (.indexAddr 1 (.t 41) (.t 42))),
(4, 14, opB 44 (.load false 1 (.t 43))),
(5, 0, opB 45 (.load true 4 (.t 11))),
(6, 63, opB 46 (clB 181 [(.t 40), (.t 44), (.t 45)]))] (some [5, 6, 7, 9, 29, 30, 31]))
(.opsd [(0, 0, mvB 47 9),
(1, 0, mvB 48 6),
(2, 0, mvB 49 10),
(3, 6, opB 50 (.indexAddr 1 (.t 48) (.t 49))),
(4, 14, opB 51 (.load false 1 (.t 50))),
(5, 0, opB 52 (.load true 4 (.t 11))),
(6, 63, opB 53 (clB 182 [(.t 47), (.t 51), (.t 52)]))] (some [5, 6, 7, 9, 29, 30, 31]))))))
(.ops [opB 54 (.bin .add 3 (.t 31) (icB 1)),
mvB 31 54] (some [5, 6, 7, 9, 29, 30, 31]))))))))
(.seq (.ops [mvB 55 9,
opB 56 (.nilCheck (.t 55)),
opB 57 (.fieldAddr 0 (.t 56)),
opB 58 (.load false 1 (.t 57)),
opB 59 (.bstr (.t 58)),
mvB 4 59,
⟨none, none, .store 1 (.t 5) (icB 0)⟩] (some [4, 5]))
.ret))))))), [.tmp 4, .cell false 1 5]⟩

theorem is126 : FnIs Tryz.prog 126 x126 := ⟨Tryz.f126, _, Tryz.func126, by kernel_rfl, rfl, by kernel_rfl, by decide, by kernel_rfl⟩

/-- cloisonne/ask.truth -/
def x127 : XDecl := .code ⟨1, 
(.seq (.ops [opB 2 (.alloc [(.int .u64 0), (.string .empty), (.slice none 0 0), (.slice none 0 0)])] (some [0, 2]))
(.seq (.seq (.ops [mvB 3 0] (some [2, 3]))
(.cond (.t 3)
(.seq (.ops [opB 4 (.build [(.int .u64 0), (.string .empty), (.slice none 0 0), (.slice none 0 0)] [(0, 1), (1, 1), (2, 1), (3, 1)] [(0, (.c (.int .u64 1)))]),
⟨none, none, .store 4 (.t 2) (.t 4)⟩] (some [2]))
.ret)
.skip))
(.seq (.ops [opB 5 (.build [(.int .u64 0), (.string .empty), (.slice none 0 0), (.slice none 0 0)] [(0, 1), (1, 1), (2, 1), (3, 1)] []),
⟨none, none, .store 4 (.t 2) (.t 5)⟩] (some [2]))
.ret))), [.cell true 4 2]⟩

theorem is127 : FnIs Tryz.prog 127 x127 := ⟨Tryz.f127, _, Tryz.func127, by kernel_rfl, rfl, by kernel_rfl, by decide, by kernel_rfl⟩

/-- cloisonne/ask.text -/
def x128 : XDecl := .code ⟨1, 
(.seq (.ops [opB 2 (.alloc [(.int .u64 0), (.string .empty), (.slice none 0 0), (.slice none 0 0)])] (some [0, 2]))
(.seq (.ops [mvB 3 0,
opB 4 (.build [(.int .u64 0), (.string .empty), (.slice none 0 0), (.slice none 0 0)] [(0, 1), (1, 1), (2, 1), (3, 1)] [(1, (.t 3))]),
⟨none, none, .store 4 (.t 2) (.t 4)⟩] (some [2]))
.ret)), [.cell true 4 2]⟩

theorem is128 : FnIs Tryz.prog 128 x128 := ⟨Tryz.f128, _, Tryz.func128, by kernel_rfl, rfl, by kernel_rfl, by decide, by kernel_rfl⟩

/-- cloisonne/ask.worth -/
def x129 : XDecl := .code ⟨1, 
(.seq (.ops [opB 1 (.box (.t 0)),
opB 2 (.alloc [(.int .u64 0), (.string .empty), (.slice none 0 0), (.slice none 0 0)])] (some [1, 2]))
(.seq (.ops [opB 6 (.load true 3 (.t 1)),
opB 7 (clB 183 [(.t 6)]),
mvB 5 7,
opB 8 (.extract (.t 5) 0),
opB 9 (.extract (.t 5) 1),
mvB 3 8,
mvB 4 9] (some [2, 3, 4]))
(.seq (.ops [mvB 10 4,
opB 11 (.bin .eql 32 (.t 10) (icB 0)),
opB 12 (clB 75 [(.t 11)])] (some [2, 3]))
(.seq (.ops [mvB 13 3,
opB 14 (clB 128 [(.t 13)]),
⟨none, none, .store 4 (.t 2) (.t 14)⟩] (some [2]))
.ret)))), [.cell true 4 2]⟩

theorem is129 : FnIs Tryz.prog 129 x129 := ⟨Tryz.f129, _, Tryz.func129, by kernel_rfl, rfl, by kernel_rfl, by decide, by kernel_rfl⟩

/-- cloisonne/ask.small -/
def x130 : XDecl := .code ⟨1, 
(.seq (.ops [opB 1 (.box (.t 0)),
opB 2 (.move (icB 0))] (some [1]))
(.seq (.ops [opB 3 (.fieldAddr 0 (.t 1)),
opB 4 (.load false 1 (.t 3)),
opB 5 (.bin .leq 77 (.t 4) (.c (.int .u64 2147483647))),
opB 6 (clB 75 [(.t 5)])] (some [1]))
(.seq (.ops [opB 7 (.fieldAddr 0 (.t 1)),
opB 8 (.load false 1 (.t 7)),
opB 9 (.conv 77 3 (.t 8)),
mvB 2 9] (some [2]))
.ret))), [.tmp 2]⟩

theorem is130 : FnIs Tryz.prog 130 x130 := ⟨Tryz.f130, _, Tryz.func130, by kernel_rfl, rfl, by kernel_rfl, by decide, by kernel_rfl⟩

/-- (*cloisonne/ask.reader).part -/
def x131 : XDecl := .code ⟨2, 
(.seq (.ops [opB 4 (.move (.c (.slice none 0 0)))] (some [0, 1]))
(.seq (.ops [mvB 9 1,
mvB 10 0,
opB 11 (.nilCheck (.t 10)),
opB 12 (.fieldAddr 0 (.t 11)),
opB 13 (.load false 1 (.t 12)),
opB 14 (clB 184 [(.t 9), (.t 13)]),
mvB 8 14,
opB 15 (.extract (.t 8) 0),
opB 16 (.extract (.t 8) 1),
opB 17 (.extract (.t 8) 2),
mvB 5 15,
mvB 6 16,
mvB 7 17] (some [0, 5, 6, 7]))
(.seq (.ops [mvB 18 7,
opB 19 (.bin .eql 32 (.t 18) (icB 0)),
opB 20 (clB 75 [(.t 19)])] (some [0, 5, 6]))
(.seq (.ops [mvB 21 0,
mvB 22 0,
opB 23 (.nilCheck (.t 22)),
opB 24 (.fieldAddr 0 (.t 23)),
opB 25 (.load false 1 (.t 24)),
mvB 26 6,
opB 27 (.substr 9 (.t 25) (some (.t 26)) none),
opB 28 (.nilCheck (.t 21)),
opB 29 (.fieldAddr 0 (.t 28)),
⟨none, none, .store 1 (.t 29) (.t 27)⟩] (some [5]))
(.seq (.ops [mvB 30 5,
mvB 4 30] (some [4]))
.ret))))), [.tmp 4]⟩

theorem is131 : FnIs Tryz.prog 131 x131 := ⟨Tryz.f131, _, Tryz.func131, by kernel_rfl, rfl, by kernel_rfl, by decide, by kernel_rfl⟩

/-- cloisonne/ask.Fits -/
def x132 : XDecl := .code ⟨1, 
(.seq (.ops [opB 1 (.box (.t 0)),
opB 2 (.move (.c (.bool false)))] (some [1]))
(.seq (.ops [opB 3 (.move (.c (.func (.func 185) #[] #[])))] (some [1, 3]))
(.seq (.block 0
(.seq (.ops [opB 5 (.fieldAddr 0 (.t 1)),
opB 6 (.load false 1 (.t 5)),
opB 7 (.bin .lss 32 (.t 6) (icB 0)),
mvB 8 7,
⟨some 9, some (8, false), .fieldAddr 0 (.t 1)⟩,
⟨some 10, some (8, false), .load false 1 (.t 9)⟩,
⟨some 11, some (8, false), .bin .gtr 32 (.t 10) (icB 20)⟩,
opB 12 (.pick (.t 8) (.c (.bool true)) (.t 11)),
mvB 4 12] (some [1, 3, 4]))
(.cond (.t 4)
(.seq (.ops [opB 2 (.move (.c (.bool false)))] (some [2]))
.ret)
(.seq (.ops [opB 14 (.fieldAddr 0 (.t 1)),
opB 15 (.load false 1 (.t 14)),
opB 16 (.bin .neq 32 (.t 15) (icB 0)),
mvB 13 16] (some [1, 3, 13]))
(.cond (.t 13)
(.seq (.ops [opB 17 (.load true 12 (.t 1)),
opB 18 (.fieldAddr 0 (.t 1)),
opB 19 (.load false 1 (.t 18)),
opB 20 (.build [(.int .i64 0), (.int .u64 0), (.bool false), (.bool false), (.string .empty), (.int .u64 0), (.slice none 0 0), (.int .i64 0), (.int .u64 0), (.int .u64 0), (.int .u64 0), (.int .u64 0)] [(0, 1), (1, 1), (2, 1), (3, 3), (6, 1), (7, 5)] [(0, (.t 19))]),
opB 21 (clB 187 [(.t 17), (.t 20)]),
mvB 2 21] (some [2]))
.ret)
.skip)))))
(.seq (.ops [opB 22 (.fieldAddr 3 (.t 1)),
opB 23 (.load true 3 (.t 22)),
opB 24 (clB 116 [(.t 23)]),
mvB 25 24,
⟨some 26, some (25, true), .fieldAddr 2 (.t 1)⟩,
⟨some 27, some (25, true), .load false 1 (.t 26)⟩,
⟨some 28, some (25, true), .move (.t 27)⟩,
⟨some 29, some (28, false), .fieldAddr 3 (.t 1)⟩,
⟨some 30, some (28, false), .load true 3 (.t 29)⟩,
⟨some 31, some (28, false), .build [(.bool false), (.string .empty), (.int .u64 0)] [(0, 1), (1, 1), (2, 1)] []⟩,
⟨some 32, some (28, false), .bin .eql 79 (.t 30) (.t 31)⟩,
⟨some 33, some (25, true), .pick (.t 28) (.c (.bool true)) (.t 32)⟩,
opB 34 (.pick (.t 25) (.t 33) (.c (.bool false))),
mvB 35 34,
⟨some 36, some (35, true), .fieldAddr 6 (.t 1)⟩,
⟨some 37, some (35, true), .load false 1 (.t 36)⟩,
⟨some 38, some (35, true), .len (.t 37)⟩,
⟨some 39, some (35, true), .bin .leq 3 (.t 38) (icB 64)⟩,
opB 40 (.pick (.t 35) (.t 39) (.c (.bool false))),
mvB 41 40,
⟨some 42, some (41, true), .fieldAddr 6 (.t 1)⟩,
⟨some 43, some (41, true), .load false 1 (.t 42)⟩,
⟨some 44, some (41, true), .move (.t 3)⟩,
⟨some 45, some (41, true), clB 188 [(.t 43), (.t 44)]⟩,
⟨some 46, some (41, true), .un .not (.t 45)⟩,
opB 47 (.pick (.t 41) (.t 46) (.c (.bool false))),
mvB 48 47,
⟨some 49, some (48, true), .fieldAddr 7 (.t 1)⟩,
⟨some 50, some (48, true), .fieldAddr 0 (.t 49)⟩,
⟨some 51, some (48, true), .load false 1 (.t 50)⟩,
⟨some 52, some (48, true), clB 125 [(.t 51), (icB 0), (icB 2147483647)]⟩,
opB 53 (.pick (.t 48) (.t 52) (.c (.bool false))),
mvB 2 53] (some [2]))
.ret)))), [.tmp 2]⟩

theorem is132 : FnIs Tryz.prog 132 x132 := ⟨Tryz.f132, _, Tryz.func132, by kernel_rfl, rfl, by kernel_rfl, by decide, by kernel_rfl⟩

/-- cloisonne/ask.is -/
def x133 : XDecl := .code ⟨1, 
(.seq (.ops [opB 1 (.box (.t 0)),
opB 2 (.move (.c (.bool false)))] (some [1]))
(.seq (.ops [opB 3 (.fieldAddr 0 (.t 1)),
opB 4 (.load false 1 (.t 3)),
opB 5 (.bin .leq 77 (.t 4) (.c (.int .u64 1))),
opB 6 (clB 75 [(.t 5)])] (some [1]))
(.seq (.ops [opB 7 (.fieldAddr 0 (.t 1)),
opB 8 (.load false 1 (.t 7)),
opB 9 (.bin .eql 77 (.t 8) (.c (.int .u64 1))),
mvB 2 9] (some [2]))
.ret))), [.tmp 2]⟩

theorem is133 : FnIs Tryz.prog 133 x133 := ⟨Tryz.f133, _, Tryz.func133, by kernel_rfl, rfl, by kernel_rfl, by decide, by kernel_rfl⟩

/-- (*cloisonne/ask.reader).value -/
def x134 : XDecl := .code ⟨1, 
(.seq (.ops [opB 2 (.alloc [(.bool false), (.string .empty), (.int .u64 0)])] (some [0, 2]))
(.seq (.ops [mvB 6 0,
opB 7 (clB 131 [(.t 6), (.c (.string ⟨#[116]⟩))]),
opB 8 (.indexAddr 4 (.t 7) (icB 0)),
opB 9 (.fieldAddr 1 (.t 8)),
opB 10 (.load false 1 (.t 9)),
opB 11 (clB 189 [(.t 10)]),
mvB 5 11,
opB 12 (.extract (.t 5) 0),
opB 13 (.extract (.t 5) 1),
opB 3 (.alloc [(.bool false), (.string .empty), (.int .u64 0)]),
⟨none, none, .store 3 (.t 3) (.t 12)⟩,
mvB 4 13] (some [2, 3, 4]))
(.seq (.ops [mvB 14 4,
opB 15 (.bin .eql 32 (.t 14) (icB 0)),
opB 16 (clB 75 [(.t 15)])] (some [2, 3]))
(.seq (.ops [opB 17 (.load true 3 (.t 3)),
⟨none, none, .store 3 (.t 2) (.t 17)⟩] (some [2]))
.ret)))), [.cell true 3 2]⟩

theorem is134 : FnIs Tryz.prog 134 x134 := ⟨Tryz.f134, _, Tryz.func134, by kernel_rfl, rfl, by kernel_rfl, by decide, by kernel_rfl⟩

/-- cloisonne/ask.unpack -/
def x135 : XDecl := .code ⟨1, 
(.seq (.ops [opB 2 (.alloc [(.int .i64 0), (.int .i64 0), (.slice none 0 0), (.int .u64 0), (.bool false), (.int .i64 0), (.string .empty), (.bool false), (.string .empty), (.int .u64 0), (.string .empty), (.string .empty), (.int .i64 0), (.int .i64 0), (.slice none 0 0)]),
opB 3 (.alloc [(.int .i64 0)])] (some [0, 2, 3]))
(.seq (.ops [⟨none, none, .dfr [(.t 3), (icB 4)]⟩] (some [0, 2, 3]))
(.seq (.ops [mvB 7 0,
opB 8 (.build [(.string .empty)] [(0, 1)] [(0, (.t 7))]),
opB 9 (.box (.t 8)),
mvB 4 9] (some [2, 3, 4]))
(.seq (.ops [mvB 10 4,
opB 11 (clB 131 [(.t 10), (.c (.string ⟨#[98]⟩))]),
opB 12 (.indexAddr 4 (.t 11) (icB 0)),
opB 13 (.load true 4 (.t 12)),
opB 14 (clB 130 [(.t 13)]),
opB 15 (.fieldAddr 0 (.t 2)),
⟨none, none, .store 1 (.t 15) (.t 14)⟩] (some [2, 3, 4]))
(.seq (.seq (.ops [opB 16 (.fieldAddr 0 (.t 2)),
opB 17 (.load false 1 (.t 16)),
opB 18 (clB 79 [(.t 17)]),
opB 19 (.len (.t 18)),
opB 20 (.move (icB 0))] (some [2, 3, 4, 18, 19, 20]))
(.block 0
(.loop
(.seq (.ops [opB 21 (.bin .lss 3 (.t 20) (.t 19))] (some [2, 3, 4, 18, 19, 20, 21]))
(.seq (.cond (.t 21)
.skip
(.exit 0))
(.seq (.block 1
(.seq (.ops [opB 22 (.indexAddr 1 (.t 18) (.t 20)),
opB 23 (.load false 1 (.t 22)),
mvB 6 23] (some [2, 3, 4, 6, 18, 19, 20]))
(.ops [mvB 24 4,
mvB 25 6,
opB 26 (clB 190 [(.t 24), (.t 2), (.t 25)])] (some [2, 3, 4, 18, 19, 20]))))
(.ops [opB 27 (.bin .add 3 (.t 20) (icB 1)),
mvB 20 27] (some [2, 3, 4, 18, 19, 20]))))))))
(.seq (.ops [mvB 28 4,
opB 29 (.nilCheck (.t 28)),
opB 30 (.fieldAddr 0 (.t 29)),
opB 31 (.load false 1 (.t 30)),
opB 32 (.bin .eql 9 (.t 31) (.c (.string .empty))),
mvB 33 32,
⟨some 34, some (33, true), .load true 15 (.t 2)⟩,
⟨some 35, some (33, true), clB 76 [(.t 34)]⟩,
opB 36 (.pick (.t 33) (.t 35) (.c (.bool false))),
opB 37 (clB 75 [(.t 36)])] (some [2, 3]))
(.seq (.ops [opB 38 (.load true 15 (.t 2)),
⟨none, none, .store 15 (.t 2) (.t 38)⟩,
⟨none, none, .store 1 (.t 3) (icB 0)⟩] (some [2, 3]))
.ret))))))), [.cell true 15 2, .cell false 1 3]⟩

theorem is135 : FnIs Tryz.prog 135 x135 := ⟨Tryz.f135, _, Tryz.func135, by kernel_rfl, rfl, by kernel_rfl, by decide, by kernel_rfl⟩

/-- slices.Clone[[]uint64,uint64] -/
def x136 : XDecl := .code ⟨1, 
(.seq (.ops [opB 2 (.move (.c (.slice none 0 0)))] (some [0]))
(.seq (.seq (.ops [mvB 3 0,
opB 4 (.isNil .slice false (.t 3))] (some [0, 4]))
(.cond (.t 4)
(.seq (.ops [opB 2 (.move (.c (.slice none 0 0)))] (some [2]))
.ret)
.skip))
(.seq (.ops [opB 5 (.buildSlice [(.int .u64 0)] 1 0 []),
mvB 6 0,
opB 7 (.append 1 8 [(.int .u64 0)] (.t 5) (.t 6)),
mvB 2 7] (some [2]))
.ret))), [.tmp 2]⟩

theorem is136 : FnIs Tryz.prog 136 x136 := ⟨Tryz.f136, _, Tryz.func136, by kernel_rfl, rfl, by kernel_rfl, by decide, by kernel_rfl⟩

/-- slices.Clone[[]cloisonne/api.Code,cloisonne/api.Code] -/
def x137 : XDecl := .code ⟨1, 
(.seq (.ops [opB 2 (.move (.c (.slice none 0 0)))] (some [0]))
(.seq (.seq (.ops [mvB 3 0,
opB 4 (.isNil .slice false (.t 3))] (some [0, 4]))
(.cond (.t 4)
(.seq (.ops [opB 2 (.move (.c (.slice none 0 0)))] (some [2]))
.ret)
.skip))
(.seq (.ops [opB 5 (.buildSlice [(.int .i64 0), (.int .u64 0)] 2 0 []),
mvB 6 0,
opB 7 (.append 2 16 [(.int .i64 0), (.int .u64 0)] (.t 5) (.t 6)),
mvB 2 7] (some [2]))
.ret))), [.tmp 2]⟩

theorem is137 : FnIs Tryz.prog 137 x137 := ⟨Tryz.f137, _, Tryz.func137, by kernel_rfl, rfl, by kernel_rfl, by decide, by kernel_rfl⟩

/-- (*cloisonne/sess.Session).step -/
def x138 : XDecl := .code ⟨1, 
(.seq (.ops [opB 2 (.move (icB 0)),
opB 3 (.alloc [(.int .i64 0), (.int .u64 0), (.bool false), (.bool false), (.string .empty), (.int .u64 0), (.slice none 0 0), (.int .i64 0), (.int .u64 0), (.int .u64 0), (.int .u64 0), (.int .u64 0)]),
opB 4 (.move (icB 0))] (some [0, 3]))
(.seq (.ops [mvB 10 0,
opB 11 (.nilCheck (.t 10)),
opB 12 (.fieldAddr 7 (.t 11)),
opB 13 (.load false 1 (.t 12)),
opB 14 (.nilCheck (.t 13)),
opB 15 (.fieldAddr 0 (.t 14)),
opB 16 (.load true 15 (.t 15)),
opB 5 (.alloc [(.int .i64 0), (.int .i64 0), (.slice none 0 0), (.int .u64 0), (.bool false), (.int .i64 0), (.string .empty), (.bool false), (.string .empty), (.int .u64 0), (.string .empty), (.string .empty), (.int .i64 0), (.int .i64 0), (.slice none 0 0)]),
⟨none, none, .store 15 (.t 5) (.t 16)⟩] (some [0, 3, 5]))
(.seq (.seq (.ops [mvB 17 0,
opB 18 (.nilCheck (.t 17)),
opB 19 (.fieldAddr 3 (.t 18)),
opB 20 (.load false 1 (.t 19)),
opB 21 (.un .not (.t 20)),
mvB 22 21,
⟨some 23, some (22, true), .fieldAddr 0 (.t 5)⟩,
⟨some 24, some (22, true), .load false 1 (.t 23)⟩,
⟨some 25, some (22, true), .bin .neq 3 (.t 24) (icB 1)⟩,
opB 26 (.pick (.t 22) (.t 25) (.c (.bool false)))] (some [0, 3, 5, 26]))
(.cond (.t 26)
(.seq (.ops [opB 27 (clB 191 [(icB 7)]),
opB 2 (.move (icB 2)),
⟨none, none, .store 12 (.t 3) (.t 27)⟩,
opB 4 (.move (icB 0))] (some [2, 3, 4]))
.ret)
.skip))
(.seq (.seq (.ops [mvB 29 0,
opB 30 (.load true 15 (.t 5)),
opB 31 (clB 192 [(.t 29), (.t 30)]),
mvB 28 31,
opB 32 (.extract (.t 28) 0),
opB 33 (.extract (.t 28) 1),
opB 6 (.alloc [(.int .i64 0), (.int .u64 0), (.bool false), (.bool false), (.string .empty), (.int .u64 0), (.slice none 0 0), (.int .i64 0), (.int .u64 0), (.int .u64 0), (.int .u64 0), (.int .u64 0)]),
⟨none, none, .store 12 (.t 6) (.t 32)⟩,
mvB 7 33] (some [0, 3, 5, 6, 7]))
(.seq (.ops [mvB 34 7] (some [0, 3, 5, 6, 34]))
(.cond (.t 34)
(.seq (.opsd [(0, 0, opB 35 (.load true 12 (.t 6))),
(1, 0, opB 2 (.move (icB 2))),
(2, 3, ⟨none, none, .store 12 (.t 3) (.t 35)⟩),
(3, 7, opB 4 (.move (icB 0)))] (some [2, 3, 4]))
.ret)
.skip)))
(.seq (.seq (.ops [opB 36 (.fieldAddr 0 (.t 5)),
opB 37 (.load false 1 (.t 36)),
opB 38 (.bin .eql 3 (.t 37) (icB 5)),
mvB 39 38,
⟨some 40, some (39, false), .fieldAddr 0 (.t 5)⟩,
⟨some 41, some (39, false), .load false 1 (.t 40)⟩,
⟨some 42, some (39, false), .bin .eql 3 (.t 41) (icB 6)⟩,
opB 43 (.pick (.t 39) (.c (.bool true)) (.t 42))] (some [0, 3, 5, 43]))
(.cond (.t 43)
(.seq (.ops [mvB 44 0,
opB 45 (clB 193 [(.t 44)]),
opB 46 (.extract (.t 45) 0),
opB 47 (.extract (.t 45) 1),
opB 48 (.extract (.t 45) 2),
mvB 2 46,
⟨none, none, .store 12 (.t 3) (.t 47)⟩,
mvB 4 48] (some [2, 3, 4]))
.ret)
.skip))
(.seq (.seq (.ops [mvB 49 0,
opB 50 (.nilCheck (.t 49)),
opB 51 (.fieldAddr 6 (.t 50)),
opB 52 (.load false 1 (.t 51)),
opB 53 (.isNil .ptr false (.t 52))] (some [0, 3, 5, 53]))
(.cond (.t 53)
(.seq (.ops [opB 54 (clB 191 [(icB 9)]),
opB 2 (.move (icB 2)),
⟨none, none, .store 12 (.t 3) (.t 54)⟩,
opB 4 (.move (icB 0))] (some [2, 3, 4]))
.ret)
.skip))
(.seq (.seq (.ops [opB 55 (.fieldAddr 0 (.t 5)),
opB 56 (.load false 1 (.t 55))] (some [0, 3, 5, 56]))
(.block 0
(.seq (.seq (.ops [opB 58 (.bin .eql 3 (.t 56) (icB 11)),
mvB 57 58] (some [0, 3, 5, 56, 57]))
(.cond (.t 57)
.skip
(.ops [opB 59 (.bin .eql 3 (.t 56) (icB 17)),
mvB 57 59] (some [0, 3, 5, 56, 57]))))
(.cond (.t 57)
(.seq (.ops [mvB 61 0,
opB 62 (clB 194 [(.t 61)]),
mvB 60 62,
opB 63 (.extract (.t 60) 0),
opB 64 (.extract (.t 60) 1),
opB 9 (.alloc [(.int .i64 0), (.int .u64 0), (.bool false), (.bool false), (.string .empty), (.int .u64 0), (.slice none 0 0), (.int .i64 0), (.int .u64 0), (.int .u64 0), (.int .u64 0), (.int .u64 0)]),
mvB 8 63,
⟨none, none, .store 12 (.t 9) (.t 64)⟩] (some [3, 8, 9]))
(.seq (.opsd [(0, 0, mvB 65 8),
(1, 0, opB 66 (.load true 12 (.t 9))),
(2, 1, mvB 2 65),
(3, 7, ⟨none, none, .store 12 (.t 3) (.t 66)⟩),
(4, 15, opB 4 (.move (icB 0)))] (some [2, 3, 4]))
.ret))
(.seq (.ops [opB 68 (.bin .eql 3 (.t 56) (icB 14)),
mvB 67 68] (some [0, 3, 5, 67]))
(.cond (.t 67)
(.seq (.ops [mvB 69 0,
opB 70 (clB 193 [(.t 69)]),
opB 71 (.extract (.t 70) 0),
opB 72 (.extract (.t 70) 1),
opB 73 (.extract (.t 70) 2),
mvB 2 71,
⟨none, none, .store 12 (.t 3) (.t 72)⟩,
mvB 4 73] (some [2, 3, 4]))
.ret)
.skip))))))
(.seq (.ops [mvB 74 0,
opB 75 (.load true 15 (.t 5)),
opB 76 (clB 195 [(.t 74), (.t 75)]),
opB 2 (.move (icB 2)),
⟨none, none, .store 12 (.t 3) (.t 76)⟩,
opB 4 (.move (icB 0))] (some [2, 3, 4]))
.ret)))))))), [.tmp 2, .cell true 12 3, .tmp 4]⟩

theorem is138 : FnIs Tryz.prog 138 x138 := ⟨Tryz.f138, _, Tryz.func138, by kernel_rfl, rfl, by kernel_rfl, by decide, by kernel_rfl⟩

/-- (*cloisonne/tree.Tree).Get -/
def x141 : XDecl := .code ⟨2, 
(.seq (.ops [opB 4 (.move (icB 0)),
opB 5 (.move (.c (.bool false)))] (some [0, 1]))
(.seq (.ops [mvB 10 0,
mvB 11 1,
opB 12 (clB 198 [(.t 10), (.t 11)]),
mvB 9 12,
opB 13 (.extract (.t 9) 0),
opB 14 (.extract (.t 9) 1),
opB 15 (.extract (.t 9) 2),
mvB 6 13,
mvB 7 14,
mvB 8 15] (some [6, 7, 8]))
(.seq (.seq (.ops [mvB 16 8,
opB 17 (.un .not (.t 16))] (some [6, 7, 17]))
(.cond (.t 17)
(.seq (.ops [opB 4 (.move (icB 0)),
opB 5 (.move (.c (.bool false)))] (some [4, 5]))
.ret)
.skip))
(.seq (.ops [mvB 18 6,
opB 19 (.nilCheck (.t 18)),
opB 20 (.fieldAddr 1 (.t 19)),
opB 21 (.load false 1 (.t 20)),
mvB 22 7,
opB 23 (.indexAddr 1 (.t 21) (.t 22)),
opB 24 (.load false 1 (.t 23)),
mvB 4 24,
opB 5 (.move (.c (.bool true)))] (some [4, 5]))
.ret)))), [.tmp 4, .tmp 5]⟩

theorem is141 : FnIs Tryz.prog 141 x141 := ⟨Tryz.f141, _, Tryz.func141, by kernel_rfl, rfl, by kernel_rfl, by decide, by kernel_rfl⟩

/-- cloisonne/chain.Right -/
def x142 : XDecl := .code ⟨1, 
(.seq (.ops [opB 2 (.move (.c (.bool false)))] (some [0]))
(.seq (.seq (.ops [mvB 5 0,
opB 6 (.len (.t 5)),
opB 7 (.move (icB 0))] (some [0, 5, 6, 7]))
(.block 0
(.loop
(.seq (.ops [opB 8 (.bin .lss 3 (.t 7) (.t 6))] (some [0, 5, 6, 7, 8]))
(.seq (.cond (.t 8)
.skip
(.exit 0))
(.seq (.block 1
(.seq (.ops [mvB 9 7,
opB 10 (.indexAddr 5 (.t 5) (.t 7)),
opB 11 (.load true 5 (.t 10)),
opB 4 (.alloc [(.int .i64 0), (.bool false), (.bool false), (.string .empty), (.int .u64 0)]),
mvB 3 9,
⟨none, none, .store 5 (.t 4) (.t 11)⟩] (some [0, 3, 4, 5, 6, 7]))
(.seq (.opsd [(0, 0, opB 12 (.load true 5 (.t 4))),
(1, 1, opB 13 (clB 199 [(.t 12)])),
(2, 3, opB 14 (.un .not (.t 13))),
(3, 7, mvB 15 14),
(4, 15, ⟨some 16, some (15, false), .move (.t 3)⟩),
(5, 31, ⟨some 17, some (15, false), .bin .gtr 3 (.t 16) (icB 0)⟩),
(6, 63, ⟨some 18, some (15, false), .move (.t 17)⟩),
(7, 127, ⟨some 19, some (18, true), .move (.t 0)⟩),
(8, 127, ⟨some 20, some (18, true), .move (.t 3)⟩),
(9, 383, ⟨some 21, some (18, true), .bin .sub 3 (.t 20) (icB 1)⟩),
(10, 1023, ⟨some 22, some (18, true), .indexAddr 5 (.t 19) (.t 21)⟩),
(11, 2047, ⟨some 23, some (18, true), .fieldAddr 0 (.t 22)⟩),
(12, 4095, ⟨some 24, some (18, true), .load false 1 (.t 23)⟩),
(13, 127, ⟨some 25, some (18, true), .fieldAddr 0 (.t 4)⟩),
(14, 8319, ⟨some 26, some (18, true), .load false 1 (.t 25)⟩),
(15, 32767, ⟨some 27, some (18, true), .bin .geq 3 (.t 24) (.t 26)⟩),
(16, 65535, ⟨some 28, some (15, false), .pick (.t 18) (.t 27) (.c (.bool false))⟩),
(17, 131071, opB 29 (.pick (.t 15) (.c (.bool true)) (.t 28)))] (some [0, 5, 6, 7, 29]))
(.cond (.t 29)
(.seq (.ops [opB 2 (.move (.c (.bool false)))] (some [2]))
.ret)
.skip))))
(.ops [opB 30 (.bin .add 3 (.t 7) (icB 1)),
mvB 7 30] (some [0, 5, 6, 7]))))))))
(.seq (.ops [opB 2 (.move (.c (.bool true)))] (some [2]))
.ret))), [.tmp 2]⟩

theorem is142 : FnIs Tryz.prog 142 x142 := ⟨Tryz.f142, _, Tryz.func142, by kernel_rfl, rfl, by kernel_rfl, by decide, by kernel_rfl⟩

/-- cloisonne/chain.behind -/
def x143 : XDecl := .code ⟨2, 
(.seq (.ops [opB 4 (.move (icB 0))] (some [0, 1]))
(.seq (.ops [mvB 8 0,
mvB 9 1,
opB 10 (clB 200 [(.t 8), (.t 9), (.c (.func (.func 201) #[] #[]))]),
mvB 7 10,
opB 11 (.extract (.t 7) 0),
opB 12 (.extract (.t 7) 1),
mvB 5 11,
mvB 6 12] (some [5, 6]))
(.seq (.seq (.ops [mvB 13 6] (some [5, 13]))
(.cond (.t 13)
(.ops [mvB 14 5,
opB 15 (.bin .add 3 (.t 14) (icB 1)),
mvB 5 15] (some [5]))
.skip))
(.seq (.ops [mvB 16 5,
mvB 4 16] (some [4]))
.ret)))), [.tmp 4]⟩

theorem is143 : FnIs Tryz.prog 143 x143 := ⟨Tryz.f143, _, Tryz.func143, by kernel_rfl, rfl, by kernel_rfl, by decide, by kernel_rfl⟩

/-- (*cloisonne/ring.Ring).Floor -/
def x144 : XDecl := .code ⟨1, 
(.seq (.ops [opB 2 (.move (icB 0))] (some [0]))
(.seq (.seq (.ops [mvB 3 0,
opB 4 (.isNil .ptr false (.t 3))] (some [0, 4]))
(.cond (.t 4)
(.seq (.ops [opB 2 (.move (icB 0))] (some [2]))
.ret)
.skip))
(.seq (.opsr [mvB 5 0,
opB 6 (.nilCheck (.t 5)),
opB 7 (.fieldAddr 2 (.t 6)),
opB 8 (.load false 1 (.t 7)),
mvB 9 0,
opB 10 (.nilCheck (.t 9)),
opB 11 (.fieldAddr 0 (.t 10)),
opB 12 (.load false 1 (.t 11)),
opB 13 (.bin .sub 3 (.t 8) (.t 12)),
opB 14 (.bin .add 3 (.t 13) (icB 1)),
mvB 15 0,
opB 16 (.nilCheck (.t 15)),
opB 17 (.fieldAddr 1 (.t 16)),
opB 18 (.load false 1 (.t 17)),
opB 19 (.calcB .max [3, 3] 3 [(.t 14), (.t 18)]),
mvB 2 19] (some [2]))
.ret))), [.tmp 2]⟩

theorem is144 : FnIs Tryz.prog 144 x144 := ⟨Tryz.f144, _, Tryz.func144, by kernel_rfl, rfl, by kernel_rfl, by decide, by kernel_rfl⟩

/-- cloisonne/room.lives -/
def x145 : XDecl := .code ⟨2, 
(.seq (.ops [opB 4 (.move (icB 0))] (some [0, 1]))
(.seq (.ops [mvB 6 1,
opB 7 (clB 202 [(.t 6)]),
mvB 5 7] (some [0, 5]))
(.seq (.seq (.ops [mvB 8 5,
opB 9 (.bin .eql 3 (.t 8) (icB 0))] (some [0, 5, 9]))
(.cond (.t 9)
(.seq (.ops [opB 4 (.move (icB 0))] (some [4]))
.ret)
.skip))
(.seq (.ops [mvB 10 0,
opB 11 (.calcB .len [9] 3 [(.t 10)]),
mvB 12 5,
opB 13 (.bin .add 3 (.t 11) (.t 12)),
mvB 4 13] (some [4]))
.ret)))), [.tmp 4]⟩

theorem is145 : FnIs Tryz.prog 145 x145 := ⟨Tryz.f145, _, Tryz.func145, by kernel_rfl, rfl, by kernel_rfl, by decide, by kernel_rfl⟩

/-- (*cloisonne/tree.Tree).Put -/
def x147 : XDecl := .code ⟨3, 
(.seq (.ops [opB 6 (.move (icB 0)),
opB 7 (.move (.c (.bool false))),
opB 8 (.move (icB 0))] (some [0, 1, 2]))
(.seq (.seq (.ops [mvB 16 0,
opB 17 (.isNil .ptr false (.t 16))] (some [0, 1, 2, 17]))
(.cond (.t 17)
(.seq (.ops [opB 6 (.move (icB 0)),
opB 7 (.move (.c (.bool false))),
opB 8 (.move (icB 2))] (some [6, 7, 8]))
.ret)
.skip))
(.seq (.seq (.ops [mvB 19 0,
mvB 20 1,
opB 21 (clB 198 [(.t 19), (.t 20)]),
mvB 18 21,
opB 22 (.extract (.t 18) 0),
opB 23 (.extract (.t 18) 1),
opB 24 (.extract (.t 18) 2),
mvB 9 22,
mvB 10 23,
mvB 11 24] (some [0, 1, 2, 9, 10, 11]))
(.seq (.ops [mvB 25 11] (some [0, 1, 2, 9, 10, 25]))
(.cond (.t 25)
(.seq (.ops [mvB 26 9,
opB 27 (.nilCheck (.t 26)),
opB 28 (.fieldAddr 1 (.t 27)),
opB 29 (.load false 1 (.t 28)),
mvB 30 10,
opB 31 (.indexAddr 1 (.t 29) (.t 30)),
opB 32 (.load false 1 (.t 31)),
mvB 12 32] (some [2, 9, 10, 12]))
(.seq (.ops [mvB 33 9,
opB 34 (.nilCheck (.t 33)),
opB 35 (.fieldAddr 1 (.t 34)),
opB 36 (.load false 1 (.t 35)),
mvB 37 10,
mvB 38 2,
opB 39 (.indexAddr 1 (.t 36) (.t 37)),
⟨none, none, .store 1 (.t 39) (.t 38)⟩] (some [12]))
(.seq (.ops [mvB 40 12,
mvB 6 40,
opB 7 (.move (.c (.bool true))),
opB 8 (.move (icB 0))] (some [6, 7, 8]))
.ret)))
.skip)))
(.seq (.seq (.ops [mvB 41 0,
opB 42 (.nilCheck (.t 41)),
opB 43 (.fieldAddr 3 (.t 42)),
opB 44 (.load false 1 (.t 43)),
opB 45 (.bin .geq 3 (.t 44) (icB 100000))] (some [0, 1, 2, 45]))
(.cond (.t 45)
(.seq (.ops [opB 6 (.move (icB 0)),
opB 7 (.move (.c (.bool false))),
opB 8 (.move (icB 5))] (some [6, 7, 8]))
.ret)
.skip))
(.seq (.ops [mvB 46 0,
opB 47 (.nilCheck (.t 46)),
opB 48 (.fieldAddr 3 (.t 47)),
opB 49 (.load false 1 (.t 48)),
opB 50 (.bin .add 3 (.t 49) (icB 1)),
opB 51 (.nilCheck (.t 46)),
opB 52 (.fieldAddr 3 (.t 51)),
⟨none, none, .store 1 (.t 52) (.t 50)⟩] (some [0, 1, 2]))
(.seq (.seq (.ops [mvB 53 0,
opB 54 (.nilCheck (.t 53)),
opB 55 (.fieldAddr 2 (.t 54)),
opB 56 (.load false 1 (.t 55)),
opB 57 (.bin .lss 3 (.t 56) (icB 0))] (some [0, 1, 2, 57]))
(.cond (.t 57)
(.seq (.ops [mvB 58 0,
mvB 59 0,
mvB 60 1,
opB 61 (.buildSlice [(.string .empty)] 1 1 [(0, (.t 60))]),
mvB 62 2,
opB 63 (.buildSlice [(.int .i64 0)] 1 1 [(0, (.t 62))]),
opB 64 (.build [(.slice none 0 0), (.slice none 0 0), (.slice none 0 0)] [(0, 1), (1, 1), (2, 1)] [(0, (.t 61)), (1, (.t 63))]),
opB 65 (clB 206 [(.t 59), (.t 64)]),
opB 66 (.nilCheck (.t 58)),
opB 67 (.fieldAddr 2 (.t 66)),
⟨none, none, .store 1 (.t 67) (.t 65)⟩] (some []))
(.seq (.ops [opB 6 (.move (icB 0)),
opB 7 (.move (.c (.bool false))),
opB 8 (.move (icB 0))] (some [6, 7, 8]))
.ret))
.skip))
(.seq (.ops [mvB 68 0,
mvB 69 0,
opB 70 (.nilCheck (.t 69)),
opB 71 (.fieldAddr 2 (.t 70)),
opB 72 (.load false 1 (.t 71)),
mvB 73 1,
mvB 74 2,
opB 75 (clB 207 [(.t 68), (.t 72), (.t 73), (.t 74)])] (some [0]))
(.seq (.seq (.opsd [(0, 0, mvB 76 0),
(1, 1, opB 77 (.nilCheck (.t 76))),
(2, 3, opB 78 (.fieldAddr 0 (.t 77))),
(3, 7, opB 79 (.load false 1 (.t 78))),
(4, 0, mvB 80 0),
(5, 16, opB 81 (.nilCheck (.t 80))),
(6, 48, opB 82 (.fieldAddr 2 (.t 81))),
(7, 112, opB 83 (.load false 1 (.t 82))),
(8, 255, opB 84 (.indexAddr 3 (.t 79) (.t 83))),
(9, 511, opB 85 (clB 208 [(.t 84)])),
(10, 1023, opB 86 (.bin .gtr 3 (.t 85) (icB 4)))] (some [0, 86]))
(.cond (.t 86)
(.seq (.ops [mvB 87 0,
opB 88 (.nilCheck (.t 87)),
opB 89 (.fieldAddr 2 (.t 88)),
opB 90 (.load false 1 (.t 89)),
mvB 13 90] (some [0, 13]))
(.seq (.ops [mvB 92 0,
mvB 93 13,
opB 94 (clB 209 [(.t 92), (.t 93)]),
mvB 91 94,
opB 95 (.extract (.t 91) 0),
opB 96 (.extract (.t 91) 1),
mvB 14 95,
mvB 15 96] (some [0, 13, 14, 15]))
(.ops [mvB 97 0,
mvB 98 0,
mvB 99 15,
opB 100 (.buildSlice [(.string .empty)] 1 1 [(0, (.t 99))]),
mvB 101 13,
mvB 102 14,
opB 103 (.buildSlice [(.int .i64 0)] 1 2 [(0, (.t 101)), (1, (.t 102))]),
opB 104 (.build [(.slice none 0 0), (.slice none 0 0), (.slice none 0 0)] [(0, 1), (1, 1), (2, 1)] [(0, (.t 100)), (2, (.t 103))]),
opB 105 (clB 206 [(.t 98), (.t 104)]),
opB 106 (.nilCheck (.t 97)),
opB 107 (.fieldAddr 2 (.t 106)),
⟨none, none, .store 1 (.t 107) (.t 105)⟩] (some []))))
.skip))
(.seq (.ops [opB 6 (.move (icB 0)),
opB 7 (.move (.c (.bool false))),
opB 8 (.move (icB 0))] (some [6, 7, 8]))
.ret))))))))), [.tmp 6, .tmp 7, .tmp 8]⟩

theorem is147 : FnIs Tryz.prog 147 x147 := ⟨Tryz.f147, _, Tryz.func147, by kernel_rfl, rfl, by kernel_rfl, by decide, by kernel_rfl⟩

/-- slices.Clone[[]cloisonne/api.Version,cloisonne/api.Version] -/
def x148 : XDecl := .code ⟨1, 
(.seq (.ops [opB 2 (.move (.c (.slice none 0 0)))] (some [0]))
(.seq (.seq (.ops [mvB 3 0,
opB 4 (.isNil .slice false (.t 3))] (some [0, 4]))
(.cond (.t 4)
(.seq (.ops [opB 2 (.move (.c (.slice none 0 0)))] (some [2]))
.ret)
.skip))
(.seq (.ops [opB 5 (.buildSlice [(.int .i64 0), (.bool false), (.bool false), (.string .empty), (.int .u64 0)] 5 0 []),
mvB 6 0,
opB 7 (.append 5 48 [(.int .i64 0), (.bool false), (.bool false), (.string .empty), (.int .u64 0)] (.t 5) (.t 6)),
mvB 2 7] (some [2]))
.ret))), [.tmp 2]⟩

theorem is148 : FnIs Tryz.prog 148 x148 := ⟨Tryz.f148, _, Tryz.func148, by kernel_rfl, rfl, by kernel_rfl, by decide, by kernel_rfl⟩

/-- (*cloisonne/vault.Vault).Log -/
def x149 : XDecl := .code ⟨2, 
(.seq (.ops [opB 4 (.move (.c (.pointer none)))] (some [0, 1]))
(.seq (.seq (.ops [mvB 5 0,
mvB 6 1,
opB 7 (clB 210 [(.t 5), (.t 6)]),
opB 8 (.un .not (.t 7))] (some [0, 1, 8]))
(.cond (.t 8)
(.seq (.ops [opB 4 (.move (.c (.pointer none)))] (some [4]))
.ret)
.skip))
(.seq (.ops [mvB 9 0,
opB 10 (.nilCheck (.t 9)),
opB 11 (.fieldAddr 7 (.t 10)),
opB 12 (.load false 1 (.t 11)),
mvB 13 1,
opB 14 (.bin .add 3 (.t 13) (icB 1)),
opB 15 (.indexAddr 1 (.t 12) (.t 14)),
opB 16 (.load false 1 (.t 15)),
mvB 4 16] (some [4]))
.ret))), [.tmp 4]⟩

theorem is149 : FnIs Tryz.prog 149 x149 := ⟨Tryz.f149, _, Tryz.func149, by kernel_rfl, rfl, by kernel_rfl, by decide, by kernel_rfl⟩

/-- (*cloisonne/job.Job).latch -/
def x150 : XDecl := .code ⟨1, 
(.seq (.ops [opB 2 (.move (icB 0)),
opB 3 (.move (icB 0))] (some [0]))
(.seq (.seq (.opsd [(0, 0, mvB 4 0),
(1, 1, opB 5 (.nilCheck (.t 4))),
(2, 3, opB 6 (.fieldAddr 0 (.t 5))),
(3, 7, opB 7 (.load false 1 (.t 6))),
(4, 0, mvB 8 0),
(5, 16, opB 9 (.nilCheck (.t 8))),
(6, 48, opB 10 (.fieldAddr 2 (.t 9))),
(7, 112, opB 11 (.load false 1 (.t 10))),
(8, 0, mvB 12 0),
(9, 256, opB 13 (.nilCheck (.t 12))),
(10, 768, opB 14 (.fieldAddr 1 (.t 13))),
(11, 1792, opB 15 (.load false 1 (.t 14))),
(12, 4095, opB 16 (clB 211 [(.t 7), (.t 11), (.t 15)])),
(13, 8191, opB 17 (.un .not (.t 16)))] (some [0, 17]))
(.cond (.t 17)
(.seq (.ops [opB 2 (.move (icB 3)),
opB 3 (.move (icB 0))] (some [2, 3]))
.ret)
.skip))
(.seq (.ops [mvB 18 0,
opB 19 (.nilCheck (.t 18)),
opB 20 (.fieldAddr 4 (.t 19)),
⟨none, none, .store 1 (.t 20) (icB 1)⟩] (some []))
(.seq (.ops [opB 2 (.move (icB 1)),
opB 3 (.move (icB 0))] (some [2, 3]))
.ret)))), [.tmp 2, .tmp 3]⟩

theorem is150 : FnIs Tryz.prog 150 x150 := ⟨Tryz.f150, _, Tryz.func150, by kernel_rfl, rfl, by kernel_rfl, by decide, by kernel_rfl⟩

/-- (*cloisonne/job.Job).check -/
def x151 : XDecl := .code ⟨1, 
(.seq (.ops [opB 2 (.move (icB 0)),
opB 3 (.move (icB 0))] (some [0]))
(.seq (.opsd [(0, 0, mvB 7 0),
(1, 1, opB 8 (.nilCheck (.t 7))),
(2, 3, opB 9 (.fieldAddr 3 (.t 8))),
(3, 7, opB 10 (.load false 1 (.t 9))),
(4, 0, mvB 11 0),
(5, 16, opB 12 (.nilCheck (.t 11))),
(6, 48, opB 13 (.fieldAddr 0 (.t 12))),
(7, 112, opB 14 (.load false 1 (.t 13))),
(8, 15, opB 15 (.nilCheck (.t 10))),
(9, 271, mvB 16 10),
(10, 1023, opB 17 (.invoke [(260, 554), (537, 558), (538, 566)] (.t 16) [(.t 14)])),
(11, 2047, mvB 6 17),
(12, 4095, opB 18 (.extract (.t 6) 0)),
(13, 4095, opB 19 (.extract (.t 6) 1)),
(14, 8191, mvB 4 18),
(15, 32767, mvB 5 19)] (some [0, 4, 5]))
(.seq (.seq (.ops [mvB 20 5,
opB 21 (.bin .neq 32 (.t 20) (icB 0))] (some [0, 4, 5, 21]))
(.cond (.t 21)
(.seq (.ops [mvB 22 0,
mvB 23 5,
opB 24 (clB 212 [(.t 22), (.c (.int .u64 0)), (.t 23)]),
opB 25 (.extract (.t 24) 0),
opB 26 (.extract (.t 24) 1),
mvB 2 25,
mvB 3 26] (some [2, 3]))
.ret)
.skip))
(.seq (.ops [mvB 27 0,
mvB 28 0,
mvB 29 4,
opB 30 (.nilCheck (.t 27)),
opB 31 (.fieldAddr 5 (.t 30)),
⟨none, none, .store 1 (.t 31) (.t 29)⟩,
opB 32 (.nilCheck (.t 28)),
opB 33 (.fieldAddr 4 (.t 32)),
⟨none, none, .store 1 (.t 33) (icB 2)⟩] (some []))
(.seq (.ops [opB 2 (.move (icB 1)),
opB 3 (.move (icB 0))] (some [2, 3]))
.ret))))), [.tmp 2, .tmp 3]⟩

theorem is151 : FnIs Tryz.prog 151 x151 := ⟨Tryz.f151, _, Tryz.func151, by kernel_rfl, rfl, by kernel_rfl, by decide, by kernel_rfl⟩

/-- (*cloisonne/job.Job).write -/
def x152 : XDecl := .code ⟨1, 
(.seq (.ops [opB 2 (.move (icB 0)),
opB 3 (.move (icB 0))] (some [0]))
(.seq (.ops [mvB 7 0,
opB 8 (.nilCheck (.t 7)),
opB 9 (.fieldAddr 5 (.t 8)),
opB 10 (.load false 1 (.t 9)),
opB 11 (clB 213 [(.t 10)]),
mvB 6 11,
opB 12 (.extract (.t 6) 0),
opB 13 (.extract (.t 6) 1),
mvB 4 12,
mvB 5 13] (some [0, 4, 5]))
(.seq (.seq (.ops [mvB 14 5,
opB 15 (.bin .neq 32 (.t 14) (icB 0)),
mvB 16 15,
⟨some 17, some (16, false), .move (.t 4)⟩,
⟨some 18, some (16, false), .bin .neq 3 (.t 17) (icB 2)⟩,
opB 19 (.pick (.t 16) (.c (.bool true)) (.t 18))] (some [0, 4, 5, 19]))
(.cond (.t 19)
(.seq (.ops [mvB 20 4,
mvB 21 5,
mvB 2 20,
mvB 3 21] (some [2, 3]))
.ret)
.skip))
(.seq (.opsd [(0, 0, mvB 22 0),
(1, 0, mvB 23 0),
(2, 2, opB 24 (.nilCheck (.t 23))),
(3, 6, opB 25 (.fieldAddr 3 (.t 24))),
(4, 14, opB 26 (.load false 1 (.t 25))),
(5, 0, mvB 27 0),
(6, 32, opB 28 (.nilCheck (.t 27))),
(7, 96, opB 29 (.fieldAddr 0 (.t 28))),
(8, 224, opB 30 (.load false 1 (.t 29))),
(9, 30, opB 31 (.nilCheck (.t 26))),
(10, 542, mvB 32 26),
(11, 2046, opB 33 (.invoke [(260, 555), (537, 559), (538, 567)] (.t 32) [(.t 30)])),
(12, 4094, opB 34 (.extract (.t 33) 0)),
(13, 4094, opB 35 (.extract (.t 33) 1)),
(14, 16383, opB 36 (clB 212 [(.t 22), (.t 34), (.t 35)])),
(15, 32767, opB 37 (.extract (.t 36) 0)),
(16, 32767, opB 38 (.extract (.t 36) 1)),
(17, 131071, mvB 2 37),
(18, 262143, mvB 3 38)] (some [2, 3]))
.ret)))), [.tmp 2, .tmp 3]⟩

theorem is152 : FnIs Tryz.prog 152 x152 := ⟨Tryz.f152, _, Tryz.func152, by kernel_rfl, rfl, by kernel_rfl, by decide, by kernel_rfl⟩

/-- (*cloisonne/extent.World).may -/
def x153 : XDecl := .code ⟨3, 
(.seq (.ops [opB 6 (.move (icB 0))] (some [0, 1, 2]))
(.seq (.block 0
(.seq (.ops [mvB 8 0,
opB 9 (.isNil .ptr false (.t 8)),
mvB 7 9] (some [0, 1, 2, 7]))
(.cond (.t 7)
(.seq (.ops [opB 6 (.move (icB 2))] (some [6]))
.ret)
(.seq (.ops [mvB 11 0,
mvB 12 1,
opB 13 (clB 214 [(.t 11), (.t 12)]),
opB 14 (.un .not (.t 13)),
mvB 15 14,
⟨some 16, some (15, false), .move (.t 2)⟩,
⟨some 17, some (15, false), .bin .lss 3 (.t 16) (icB 0)⟩,
opB 18 (.pick (.t 15) (.c (.bool true)) (.t 17)),
mvB 19 18,
⟨some 20, some (19, false), .move (.t 2)⟩,
⟨some 21, some (19, false), .move (.t 0)⟩,
⟨some 22, some (19, false), .nilCheck (.t 21)⟩,
⟨some 23, some (19, false), .fieldAddr 1 (.t 22)⟩,
⟨some 24, some (19, false), .load false 1 (.t 23)⟩,
⟨some 25, some (19, false), .bin .geq 3 (.t 20) (.t 24)⟩,
opB 26 (.pick (.t 19) (.c (.bool true)) (.t 25)),
mvB 10 26] (some [10]))
(.cond (.t 10)
(.seq (.ops [opB 6 (.move (icB 1))] (some [6]))
.ret)
.skip)))))
(.seq (.ops [opB 6 (.move (icB 0))] (some [6]))
.ret))), [.tmp 6]⟩

theorem is153 : FnIs Tryz.prog 153 x153 := ⟨Tryz.f153, _, Tryz.func153, by kernel_rfl, rfl, by kernel_rfl, by decide, by kernel_rfl⟩

/-- cloisonne/vault.Right -/
def x154 : XDecl := .code ⟨1, 
(.seq (.ops [opB 1 (.box (.t 0)),
opB 2 (.move (.c (.bool false)))] (some [1]))
(.seq (.seq (.ops [opB 6 (.fieldAddr 0 (.t 1)),
opB 7 (.load false 1 (.t 6)),
opB 8 (clB 86 [(.t 7), (icB 1), (icB 8)]),
opB 9 (.un .not (.t 8)),
mvB 10 9,
⟨some 11, some (10, false), .fieldAddr 1 (.t 1)⟩,
⟨some 12, some (10, false), .load false 1 (.t 11)⟩,
⟨some 13, some (10, false), clB 86 [(.t 12), (icB 1), (icB 16)]⟩,
⟨some 14, some (10, false), .un .not (.t 13)⟩,
opB 15 (.pick (.t 10) (.c (.bool true)) (.t 14)),
mvB 16 15,
⟨some 17, some (16, false), .fieldAddr 2 (.t 1)⟩,
⟨some 18, some (16, false), .load false 1 (.t 17)⟩,
⟨some 19, some (16, false), clB 86 [(.t 18), (icB 1), (icB 128)]⟩,
⟨some 20, some (16, false), .un .not (.t 19)⟩,
opB 21 (.pick (.t 16) (.c (.bool true)) (.t 20)),
mvB 22 21,
⟨some 23, some (22, false), .fieldAddr 3 (.t 1)⟩,
⟨some 24, some (22, false), .load false 1 (.t 23)⟩,
⟨some 25, some (22, false), .len (.t 24)⟩,
⟨some 26, some (22, false), .bin .gtr 3 (.t 25) (icB 8)⟩,
opB 27 (.pick (.t 22) (.c (.bool true)) (.t 26))] (some [1, 27]))
(.cond (.t 27)
(.seq (.ops [opB 2 (.move (.c (.bool false)))] (some [2]))
.ret)
.skip))
(.seq (.seq (.ops [opB 28 (.fieldAddr 3 (.t 1)),
opB 29 (.load false 1 (.t 28)),
opB 30 (.len (.t 29)),
opB 31 (.move (icB 0))] (some [1, 29, 30, 31]))
(.block 0
(.loop
(.seq (.ops [opB 32 (.bin .lss 3 (.t 31) (.t 30))] (some [1, 29, 30, 31, 32]))
(.seq (.cond (.t 32)
.skip
(.exit 0))
(.seq (.block 1
(.seq (.ops [mvB 33 31,
opB 34 (.indexAddr 4 (.t 29) (.t 31)),
opB 35 (.load true 4 (.t 34)),
opB 4 (.alloc [(.slice none 0 0), (.int .i64 0), (.int .i64 0), (.int .i64 0)]),
mvB 3 33,
⟨none, none, .store 4 (.t 4) (.t 35)⟩] (some [1, 3, 4, 29, 30, 31]))
(.seq (.ops [opB 36 (.makeFunc (.func 215) [] [(.t 4)]),
mvB 5 36] (some [1, 3, 4, 5, 29, 30, 31]))
(.seq (.ops [opB 37 (.load true 4 (.t 4)),
opB 38 (clB 217 [(.t 37)]),
opB 39 (.un .not (.t 38)),
mvB 40 39,
⟨some 41, some (40, false), .fieldAddr 3 (.t 1)⟩,
⟨some 42, some (40, false), .load false 1 (.t 41)⟩,
⟨some 43, some (40, false), .move (.t 3)⟩,
⟨some 44, some (40, false), .slice 4 (.t 42) none (some (.t 43)) none⟩,
⟨some 45, some (40, false), .move (.t 5)⟩,
⟨some 46, some (40, false), clB 218 [(.t 44), (.t 45)]⟩,
opB 47 (.pick (.t 40) (.c (.bool true)) (.t 46))] (some [1, 29, 30, 31, 47]))
(.cond (.t 47)
(.seq (.ops [opB 2 (.move (.c (.bool false)))] (some [2]))
.ret)
.skip)))))
(.ops [opB 48 (.bin .add 3 (.t 31) (icB 1)),
mvB 31 48] (some [1, 29, 30, 31]))))))))
(.seq (.ops [opB 2 (.move (.c (.bool true)))] (some [2]))
.ret)))), [.tmp 2]⟩

theorem is154 : FnIs Tryz.prog 154 x154 := ⟨Tryz.f154, _, Tryz.func154, by kernel_rfl, rfl, by kernel_rfl, by decide, by kernel_rfl⟩

/-- (*cloisonne/extent.World).Extents -/
def x155 : XDecl := .code ⟨1, 
(.seq (.ops [opB 2 (.move (icB 0))] (some [0]))
(.seq (.seq (.ops [mvB 3 0,
opB 4 (.isNil .ptr false (.t 3))] (some [0, 4]))
(.cond (.t 4)
(.seq (.ops [opB 2 (.move (icB 0))] (some [2]))
.ret)
.skip))
(.seq (.ops [mvB 5 0,
opB 6 (.nilCheck (.t 5)),
opB 7 (.fieldAddr 2 (.t 6)),
opB 8 (.load false 1 (.t 7)),
opB 9 (.len (.t 8)),
mvB 2 9] (some [2]))
.ret))), [.tmp 2]⟩

theorem is155 : FnIs Tryz.prog 155 x155 := ⟨Tryz.f155, _, Tryz.func155, by kernel_rfl, rfl, by kernel_rfl, by decide, by kernel_rfl⟩

/-- (*cloisonne/extent.World).Sectors -/
def x156 : XDecl := .code ⟨1, 
(.seq (.ops [opB 2 (.move (icB 0))] (some [0]))
(.seq (.seq (.ops [mvB 3 0,
opB 4 (.isNil .ptr false (.t 3))] (some [0, 4]))
(.cond (.t 4)
(.seq (.ops [opB 2 (.move (icB 0))] (some [2]))
.ret)
.skip))
(.seq (.ops [mvB 5 0,
opB 6 (.nilCheck (.t 5)),
opB 7 (.fieldAddr 1 (.t 6)),
opB 8 (.load false 1 (.t 7)),
mvB 2 8] (some [2]))
.ret))), [.tmp 2]⟩

theorem is156 : FnIs Tryz.prog 156 x156 := ⟨Tryz.f156, _, Tryz.func156, by kernel_rfl, rfl, by kernel_rfl, by decide, by kernel_rfl⟩

/-- (*cloisonne/vault.Vault).openTable -/
def x157 : XDecl := .code ⟨1, 
(.seq (.ops [opB 2 (.move (icB 0))] (some [0]))
(.seq (.ops [mvB 12 0,
opB 13 (.nilCheck (.t 12)),
opB 14 (.fieldAddr 4 (.t 13)),
opB 15 (.load false 1 (.t 14)),
opB 16 (clB 219 [(.t 15), (icB 0)]),
mvB 11 16,
opB 17 (.extract (.t 11) 0),
opB 18 (.extract (.t 11) 1),
opB 19 (.extract (.t 11) 2),
mvB 3 17,
mvB 4 18,
mvB 5 19] (some [0, 3, 4, 5]))
(.seq (.seq (.ops [mvB 20 5,
opB 21 (.bin .neq 32 (.t 20) (icB 0))] (some [0, 3, 4, 5, 21]))
(.cond (.t 21)
(.seq (.ops [mvB 22 5,
mvB 2 22] (some [2]))
.ret)
.skip))
(.seq (.ops [mvB 23 0,
mvB 24 0,
opB 25 (.nilCheck (.t 24)),
opB 26 (.fieldAddr 7 (.t 25)),
opB 27 (.load false 1 (.t 26)),
mvB 28 3,
opB 29 (.buildSlice [(.pointer none)] 1 1 [(0, (.t 28))]),
opB 30 (.append 1 8 [(.pointer none)] (.t 27) (.t 29)),
opB 31 (.nilCheck (.t 23)),
opB 32 (.fieldAddr 7 (.t 31)),
⟨none, none, .store 1 (.t 32) (.t 30)⟩] (some [0, 3, 4]))
(.seq (.seq (.ops [mvB 33 3,
opB 34 (clB 220 [(.t 33)]),
opB 35 (.bin .eql 3 (.t 34) (icB 0))] (some [0, 3, 4, 35]))
(.cond (.t 35)
(.seq (.ops [mvB 37 0,
opB 38 (.nilCheck (.t 37)),
opB 39 (.fieldAddr 0 (.t 38)),
opB 40 (.fieldAddr 0 (.t 39)),
opB 41 (.load false 1 (.t 40)),
opB 42 (clB 221 [(.t 41)]),
mvB 36 42,
opB 43 (.extract (.t 36) 0),
opB 44 (.extract (.t 36) 1),
mvB 6 43,
mvB 7 44] (some [0, 3, 6, 7]))
(.seq (.seq (.ops [mvB 45 7,
opB 46 (.bin .neq 32 (.t 45) (icB 0))] (some [0, 3, 6, 7, 46]))
(.cond (.t 46)
(.seq (.ops [mvB 47 7,
mvB 2 47] (some [2]))
.ret)
.skip))
(.seq (.ops [mvB 49 6,
opB 50 (clB 222 [(.t 49)]),
mvB 48 50,
opB 51 (.extract (.t 48) 0),
opB 52 (.extract (.t 48) 1),
mvB 8 51,
mvB 7 52] (some [0, 3, 6, 7, 8]))
(.seq (.seq (.ops [mvB 53 7,
opB 54 (.bin .neq 32 (.t 53) (icB 0))] (some [0, 3, 6, 7, 8, 54]))
(.cond (.t 54)
(.seq (.ops [mvB 55 7,
mvB 2 55] (some [2]))
.ret)
.skip))
(.seq (.ops [mvB 56 0,
mvB 57 6,
opB 58 (.nilCheck (.t 56)),
opB 59 (.fieldAddr 5 (.t 58)),
⟨none, none, .store 1 (.t 59) (.t 57)⟩] (some [3, 8]))
(.seq (.ops [mvB 60 3,
mvB 61 8,
opB 62 (clB 223 [(.t 60), (.t 61)]),
mvB 2 62] (some [2]))
.ret))))))
.skip))
(.seq (.ops [mvB 64 0,
opB 65 (.nilCheck (.t 64)),
opB 66 (.fieldAddr 0 (.t 65)),
opB 67 (.fieldAddr 0 (.t 66)),
opB 68 (.load false 1 (.t 67)),
mvB 69 4,
opB 70 (clB 224 [(.t 68), (.t 69)]),
mvB 63 70,
opB 71 (.extract (.t 63) 0),
opB 72 (.extract (.t 63) 1),
mvB 9 71,
mvB 10 72] (some [0, 9, 10]))
(.seq (.seq (.ops [mvB 73 10,
opB 74 (.un .not (.t 73))] (some [0, 9, 74]))
(.cond (.t 74)
(.seq (.ops [opB 2 (.move (icB 19))] (some [2]))
.ret)
.skip))
(.seq (.ops [mvB 75 0,
mvB 76 9,
opB 77 (.nilCheck (.t 75)),
opB 78 (.fieldAddr 5 (.t 77)),
⟨none, none, .store 1 (.t 78) (.t 76)⟩] (some []))
(.seq (.ops [opB 2 (.move (icB 0))] (some [2]))
.ret))))))))), [.tmp 2]⟩

theorem is157 : FnIs Tryz.prog 157 x157 := ⟨Tryz.f157, _, Tryz.func157, by kernel_rfl, rfl, by kernel_rfl, by decide, by kernel_rfl⟩

/-- (*cloisonne/vault.Vault).openRoom -/
def x158 : XDecl := .code ⟨2, 
(.seq (.ops [opB 3 (.box (.t 1)),
opB 4 (.move (icB 0))] (some [0, 3]))
(.seq (.opsd [(0, 0, mvB 14 0),
(1, 1, opB 15 (.nilCheck (.t 14))),
(2, 3, opB 16 (.fieldAddr 4 (.t 15))),
(3, 7, opB 17 (.load false 1 (.t 16))),
(4, 0, mvB 18 0),
(5, 16, opB 19 (.nilCheck (.t 18))),
(6, 48, opB 20 (.fieldAddr 7 (.t 19))),
(7, 112, opB 21 (.load false 1 (.t 20))),
(8, 240, opB 22 (.len (.t 21))),
(9, 496, opB 23 (.bin .mul 3 (icB 2) (.t 22))),
(10, 1023, opB 24 (clB 219 [(.t 17), (.t 23)])),
(11, 2047, mvB 13 24),
(12, 4095, opB 25 (.extract (.t 13) 0)),
(13, 4095, opB 26 (.extract (.t 13) 1)),
(14, 4095, opB 27 (.extract (.t 13) 2)),
(15, 8191, mvB 5 25),
(16, 49151, mvB 6 26),
(17, 131071, mvB 7 27)] (some [0, 3, 5, 6, 7]))
(.seq (.seq (.ops [mvB 28 7,
opB 29 (.bin .neq 32 (.t 28) (icB 0))] (some [0, 3, 5, 6, 7, 29]))
(.cond (.t 29)
(.seq (.ops [mvB 30 7,
mvB 4 30] (some [4]))
.ret)
.skip))
(.seq (.ops [mvB 31 0,
mvB 32 0,
opB 33 (.nilCheck (.t 32)),
opB 34 (.fieldAddr 7 (.t 33)),
opB 35 (.load false 1 (.t 34)),
mvB 36 5,
opB 37 (.buildSlice [(.pointer none)] 1 1 [(0, (.t 36))]),
opB 38 (.append 1 8 [(.pointer none)] (.t 35) (.t 37)),
opB 39 (.nilCheck (.t 31)),
opB 40 (.fieldAddr 7 (.t 39)),
⟨none, none, .store 1 (.t 40) (.t 38)⟩] (some [0, 3, 5, 6]))
(.seq (.seq (.ops [mvB 41 5,
opB 42 (clB 220 [(.t 41)]),
opB 43 (.bin .eql 3 (.t 42) (icB 0))] (some [0, 3, 5, 6, 43]))
(.cond (.t 43)
(.seq (.ops [opB 45 (.load true 4 (.t 3)),
opB 46 (clB 225 [(.t 45)]),
mvB 44 46,
opB 47 (.extract (.t 44) 0),
opB 48 (.extract (.t 44) 1),
mvB 8 47,
mvB 9 48] (some [0, 5, 8, 9]))
(.seq (.seq (.ops [mvB 49 9,
opB 50 (.bin .neq 32 (.t 49) (icB 0))] (some [0, 5, 8, 9, 50]))
(.cond (.t 50)
(.seq (.ops [mvB 51 9,
mvB 4 51] (some [4]))
.ret)
.skip))
(.seq (.ops [opB 53 (clB 226 [(icB 0), (.c (.slice none 0 0))]),
mvB 52 53,
opB 54 (.extract (.t 52) 0),
opB 55 (.extract (.t 52) 1),
mvB 10 54,
mvB 9 55] (some [0, 5, 8, 9, 10]))
(.seq (.seq (.ops [mvB 56 9,
opB 57 (.bin .neq 32 (.t 56) (icB 0))] (some [0, 5, 8, 9, 10, 57]))
(.cond (.t 57)
(.seq (.ops [mvB 58 9,
mvB 4 58] (some [4]))
.ret)
.skip))
(.seq (.ops [mvB 59 0,
mvB 60 0,
opB 61 (.nilCheck (.t 60)),
opB 62 (.fieldAddr 6 (.t 61)),
opB 63 (.load false 1 (.t 62)),
mvB 64 8,
opB 65 (.buildSlice [(.pointer none)] 1 1 [(0, (.t 64))]),
opB 66 (.append 1 8 [(.pointer none)] (.t 63) (.t 65)),
opB 67 (.nilCheck (.t 59)),
opB 68 (.fieldAddr 6 (.t 67)),
⟨none, none, .store 1 (.t 68) (.t 66)⟩] (some [5, 10]))
(.seq (.ops [mvB 69 5,
mvB 70 10,
opB 71 (clB 223 [(.t 69), (.t 70)]),
mvB 4 71] (some [4]))
.ret))))))
.skip))
(.seq (.ops [opB 73 (.load true 4 (.t 3)),
mvB 74 6,
opB 75 (clB 227 [(.t 73), (.t 74)]),
mvB 72 75,
opB 76 (.extract (.t 72) 0),
opB 77 (.extract (.t 72) 1),
mvB 11 76,
mvB 12 77] (some [0, 11, 12]))
(.seq (.seq (.ops [mvB 78 12,
opB 79 (.un .not (.t 78))] (some [0, 11, 79]))
(.cond (.t 79)
(.seq (.ops [opB 4 (.move (icB 19))] (some [4]))
.ret)
.skip))
(.seq (.ops [mvB 80 0,
mvB 81 0,
opB 82 (.nilCheck (.t 81)),
opB 83 (.fieldAddr 6 (.t 82)),
opB 84 (.load false 1 (.t 83)),
mvB 85 11,
opB 86 (.buildSlice [(.pointer none)] 1 1 [(0, (.t 85))]),
opB 87 (.append 1 8 [(.pointer none)] (.t 84) (.t 86)),
opB 88 (.nilCheck (.t 80)),
opB 89 (.fieldAddr 6 (.t 88)),
⟨none, none, .store 1 (.t 89) (.t 87)⟩] (some []))
(.seq (.ops [opB 4 (.move (icB 0))] (some [4]))
.ret))))))))), [.tmp 4]⟩

theorem is158 : FnIs Tryz.prog 158 x158 := ⟨Tryz.f158, _, Tryz.func158, by kernel_rfl, rfl, by kernel_rfl, by decide, by kernel_rfl⟩

/-- slices.Clone[[]cloisonne/api.Room,cloisonne/api.Room] -/
def x159 : XDecl := .code ⟨1, 
(.seq (.ops [opB 2 (.move (.c (.slice none 0 0)))] (some [0]))
(.seq (.seq (.ops [mvB 3 0,
opB 4 (.isNil .slice false (.t 3))] (some [0, 4]))
(.cond (.t 4)
(.seq (.ops [opB 2 (.move (.c (.slice none 0 0)))] (some [2]))
.ret)
.skip))
(.seq (.ops [opB 5 (.buildSlice [(.slice none 0 0), (.int .i64 0), (.int .i64 0), (.int .i64 0)] 4 0 []),
mvB 6 0,
opB 7 (.append 4 48 [(.slice none 0 0), (.int .i64 0), (.int .i64 0), (.int .i64 0)] (.t 5) (.t 6)),
mvB 2 7] (some [2]))
.ret))), [.tmp 2]⟩

theorem is159 : FnIs Tryz.prog 159 x159 := ⟨Tryz.f159, _, Tryz.func159, by kernel_rfl, rfl, by kernel_rfl, by decide, by kernel_rfl⟩

/-- cloisonne/cloisonneref03.Number -/
def x160 : XDecl := .code ⟨1, 
(.seq (.ops [opB 2 (.move (.c (.string .empty)))] (some [0]))
(.seq (.ops [opB 4 (.buildSlice [(.int .u8 0)] 1 0 []),
mvB 3 4] (some [0, 3]))
(.seq (.block 0
(.loop
(.seq (.seq (.ops [mvB 5 0,
opB 6 (.bin .gtr 77 (.t 5) (.c (.int .u64 127)))] (some [0, 3, 6]))
(.cond (.t 6)
.skip
(.exit 0)))
(.block 1
(.seq (.ops [mvB 7 3,
mvB 8 0,
opB 9 (.bin .rem 77 (.t 8) (.c (.int .u64 128))),
opB 10 (.bin .add 77 (.c (.int .u64 128)) (.t 9)),
opB 11 (.conv 77 5 (.t 10)),
opB 12 (.buildSlice [(.int .u8 0)] 1 1 [(0, (.t 11))]),
opB 13 (.append 1 1 [(.int .u8 0)] (.t 7) (.t 12)),
mvB 3 13] (some [0, 3]))
(.ops [mvB 14 0,
opB 15 (.bin .quo 77 (.t 14) (.c (.int .u64 128))),
mvB 0 15] (some [0, 3])))))))
(.seq (.ops [mvB 16 3,
mvB 17 0,
opB 18 (.conv 77 5 (.t 17)),
opB 19 (.buildSlice [(.int .u8 0)] 1 1 [(0, (.t 18))]),
opB 20 (.append 1 1 [(.int .u8 0)] (.t 16) (.t 19)),
opB 21 (.bstr (.t 20)),
mvB 2 21] (some [2]))
.ret)))), [.tmp 2]⟩

theorem is160 : FnIs Tryz.prog 160 x160 := ⟨Tryz.f160, _, Tryz.func160, by kernel_rfl, rfl, by kernel_rfl, by decide, by kernel_rfl⟩

-- 162 math.Float64frombits: no body
def x162 : XDecl := .ext 162

theorem is162 : FnIs Tryz.prog 162 x162 := rfl

/-- (*cloisonne/ferry.boat).one -/
def x165 : XDecl := .code ⟨2, 
(.seq (.ops [opB 3 (.box (.t 1)),
opB 4 (.alloc [(.int .i64 0), (.int .u64 0), (.bool false), (.bool false), (.string .empty), (.int .u64 0), (.slice none 0 0), (.int .i64 0), (.int .u64 0), (.int .u64 0), (.int .u64 0), (.int .u64 0)]),
opB 5 (.move (icB 0))] (some [0, 3, 4]))
(.seq (.ops [opB 10 (.load true 15 (.t 3)),
opB 11 (clB 37 [(.t 10)]),
mvB 9 11,
opB 12 (.extract (.t 9) 0),
opB 13 (.extract (.t 9) 1),
mvB 6 12,
mvB 7 13] (some [0, 4, 6, 7]))
(.seq (.seq (.ops [mvB 14 7,
opB 15 (.bin .neq 32 (.t 14) (icB 0))] (some [0, 4, 6, 7, 15]))
(.cond (.t 15)
(.seq (.ops [opB 16 (.build [(.int .i64 0), (.int .u64 0), (.bool false), (.bool false), (.string .empty), (.int .u64 0), (.slice none 0 0), (.int .i64 0), (.int .u64 0), (.int .u64 0), (.int .u64 0), (.int .u64 0)] [(0, 1), (1, 1), (2, 1), (3, 3), (6, 1), (7, 5)] []),
mvB 17 7,
⟨none, none, .store 12 (.t 4) (.t 16)⟩,
mvB 5 17] (some [4, 5]))
.ret)
.skip))
(.seq (.opsd [(0, 0, mvB 19 0),
(1, 1, opB 20 (.nilCheck (.t 19))),
(2, 3, opB 21 (.fieldAddr 0 (.t 20))),
(3, 7, opB 22 (.load false 1 (.t 21))),
(4, 0, mvB 23 0),
(5, 16, opB 24 (.nilCheck (.t 23))),
(6, 48, opB 25 (.fieldAddr 1 (.t 24))),
(7, 112, opB 26 (.load false 1 (.t 25))),
(8, 0, mvB 27 6),
(9, 511, opB 28 (clB 24 [(.t 22), (.t 26), (.t 27)])),
(10, 1023, mvB 18 28),
(11, 2047, opB 29 (.extract (.t 18) 0)),
(12, 2047, opB 30 (.extract (.t 18) 1)),
(13, 4095, mvB 8 29),
(14, 16383, mvB 7 30)] (some [4, 7, 8]))
(.seq (.seq (.ops [mvB 31 7,
opB 32 (.bin .neq 32 (.t 31) (icB 0))] (some [4, 7, 8, 32]))
(.cond (.t 32)
(.seq (.ops [opB 33 (.build [(.int .i64 0), (.int .u64 0), (.bool false), (.bool false), (.string .empty), (.int .u64 0), (.slice none 0 0), (.int .i64 0), (.int .u64 0), (.int .u64 0), (.int .u64 0), (.int .u64 0)] [(0, 1), (1, 1), (2, 1), (3, 3), (6, 1), (7, 5)] []),
mvB 34 7,
⟨none, none, .store 12 (.t 4) (.t 33)⟩,
mvB 5 34] (some [4, 5]))
.ret)
.skip))
(.seq (.ops [mvB 35 8,
opB 36 (clB 38 [(.t 35)]),
opB 37 (.extract (.t 36) 0),
opB 38 (.extract (.t 36) 1),
⟨none, none, .store 12 (.t 4) (.t 37)⟩,
mvB 5 38] (some [4, 5]))
.ret)))))), [.cell true 12 4, .tmp 5]⟩

theorem is165 : FnIs Tryz.prog 165 x165 := ⟨Tryz.f165, _, Tryz.func165, by kernel_rfl, rfl, by kernel_rfl, by decide, by kernel_rfl⟩

def tabB : FuncId → Option XDecl
  | 88 => some x88
  | 90 => some x90
  | 91 => some x91
  | 94 => some x94
  | 95 => some x95
  | 97 => some x97
  | 99 => some x99
  | 100 => some x100
  | 101 => some x101
  | 102 => some x102
  | 109 => some x109
  | 111 => some x111
  | 112 => some x112
  | 113 => some x113
  | 114 => some x114
  | 115 => some x115
  | 116 => some x116
  | 117 => some x117
  | 118 => some x118
  | 119 => some x119
  | 120 => some x120
  | 121 => some x121
  | 122 => some x122
  | 123 => some x123
  | 124 => some x124
  | 125 => some x125
  | 126 => some x126
  | 127 => some x127
  | 128 => some x128
  | 129 => some x129
  | 130 => some x130
  | 131 => some x131
  | 132 => some x132
  | 133 => some x133
  | 134 => some x134
  | 135 => some x135
  | 136 => some x136
  | 137 => some x137
  | 138 => some x138
  | 141 => some x141
  | 142 => some x142
  | 143 => some x143
  | 144 => some x144
  | 145 => some x145
  | 147 => some x147
  | 148 => some x148
  | 149 => some x149
  | 150 => some x150
  | 151 => some x151
  | 152 => some x152
  | 153 => some x153
  | 154 => some x154
  | 155 => some x155
  | 156 => some x156
  | 157 => some x157
  | 158 => some x158
  | 159 => some x159
  | 160 => some x160
  | 162 => some x162
  | 165 => some x165
  | _ => none
theorem tabB_is : ∀ f d, tabB f = some d → FnIs Tryz.prog f d := by
  intro f d h
  unfold tabB at h
  split at h
  · cases h; exact is88
  · cases h; exact is90
  · cases h; exact is91
  · cases h; exact is94
  · cases h; exact is95
  · cases h; exact is97
  · cases h; exact is99
  · cases h; exact is100
  · cases h; exact is101
  · cases h; exact is102
  · cases h; exact is109
  · cases h; exact is111
  · cases h; exact is112
  · cases h; exact is113
  · cases h; exact is114
  · cases h; exact is115
  · cases h; exact is116
  · cases h; exact is117
  · cases h; exact is118
  · cases h; exact is119
  · cases h; exact is120
  · cases h; exact is121
  · cases h; exact is122
  · cases h; exact is123
  · cases h; exact is124
  · cases h; exact is125
  · cases h; exact is126
  · cases h; exact is127
  · cases h; exact is128
  · cases h; exact is129
  · cases h; exact is130
  · cases h; exact is131
  · cases h; exact is132
  · cases h; exact is133
  · cases h; exact is134
  · cases h; exact is135
  · cases h; exact is136
  · cases h; exact is137
  · cases h; exact is138
  · cases h; exact is141
  · cases h; exact is142
  · cases h; exact is143
  · cases h; exact is144
  · cases h; exact is145
  · cases h; exact is147
  · cases h; exact is148
  · cases h; exact is149
  · cases h; exact is150
  · cases h; exact is151
  · cases h; exact is152
  · cases h; exact is153
  · cases h; exact is154
  · cases h; exact is155
  · cases h; exact is156
  · cases h; exact is157
  · cases h; exact is158
  · cases h; exact is159
  · cases h; exact is160
  · cases h; exact is162
  · cases h; exact is165
  · cases h

end Go.Proofs.YtglefgcnafoafaaGreatDoor.X
