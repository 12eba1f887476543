/-
  Own work, printed by a program of ours (mkprog.py): the functions of this seat as code of the abstract run, and that each is the model's.
-/
import Derived.Test.YtglefgcnafoafaaGreatDoorXLaw
import Derived.Test.YtglefgcnafoafaaGreatDoorChecked
set_option maxRecDepth 100000
namespace Go.Proofs.YtglefgcnafoafaaGreatDoor.X
open Go

abbrev mvD (d s : Nat) : XOp := ⟨some d, none, .move (.t s)⟩
abbrev opD (d : Nat) (i : XI) : XOp := ⟨some d, none, i⟩
abbrev clD (f : Nat) (l : List Arg) : XI := .call (.c (.func (.func f) #[] #[])) l
abbrev icD (n : Int) : Arg := .c (.int .i64 n)

/-- (*cloisonne/wire.printer).number -/
def x241 : XDecl := .code ⟨2, 
(.seq (.block 0
(.loop
(.seq (.seq (.ops [mvD 4 1,
opD 5 (.bin .geq 77 (.t 4) (.c (.int .u64 128)))] (some [0, 1, 5]))
(.cond (.t 5)
.skip
(.exit 0)))
(.block 1
(.seq (.ops [mvD 6 0,
mvD 7 0,
opD 8 (.nilCheck (.t 7)),
opD 9 (.fieldAddr 0 (.t 8)),
opD 10 (.load false 1 (.t 9)),
mvD 11 1,
opD 12 (.bin .rem 77 (.t 11) (.c (.int .u64 128))),
opD 13 (.conv 77 5 (.t 12)),
opD 14 (.bin .or 5 (.t 13) (.c (.int .u8 128))),
opD 15 (.buildSlice [(.int .u8 0)] 1 1 [(0, (.t 14))]),
opD 16 (.append 1 1 [(.int .u8 0)] (.t 10) (.t 15)),
opD 17 (.nilCheck (.t 6)),
opD 18 (.fieldAddr 0 (.t 17)),
⟨none, none, .store 1 (.t 18) (.t 16)⟩] (some [0, 1]))
(.ops [mvD 19 1,
opD 20 (.bin .quo 77 (.t 19) (.c (.int .u64 128))),
mvD 1 20] (some [0, 1])))))))
(.ops [mvD 21 0,
mvD 22 0,
opD 23 (.nilCheck (.t 22)),
opD 24 (.fieldAddr 0 (.t 23)),
opD 25 (.load false 1 (.t 24)),
mvD 26 1,
opD 27 (.conv 77 5 (.t 26)),
opD 28 (.buildSlice [(.int .u8 0)] 1 1 [(0, (.t 27))]),
opD 29 (.append 1 1 [(.int .u8 0)] (.t 25) (.t 28)),
opD 30 (.nilCheck (.t 21)),
opD 31 (.fieldAddr 0 (.t 30)),
⟨none, none, .store 1 (.t 31) (.t 29)⟩] (some []))), []⟩

theorem is241 : FnIs Tryz.prog 241 x241 := ⟨Tryz.f241, _, Tryz.func241, by kernel_rfl, rfl, by kernel_rfl, by decide, by kernel_rfl⟩

/-- cloisonne/label.Pack -/
def x243 : XDecl := .code ⟨1, 
(.seq (.ops [opD 2 (.move (.c (.string .empty))),
opD 3 (.move (icD 0))] (some [0]))
(.seq (.seq (.ops [mvD 8 0,
opD 9 (clD 175 [(.t 8)]),
opD 10 (.un .not (.t 9))] (some [0, 10]))
(.cond (.t 10)
(.seq (.ops [opD 2 (.move (.c (.string .empty))),
opD 3 (.move (icD 1))] (some [2, 3]))
.ret)
.skip))
(.seq (.ops [mvD 11 0,
opD 12 (.len (.t 11)),
opD 13 (.conv 3 5 (.t 12)),
opD 14 (.buildSlice [(.int .u8 0)] 1 1 [(0, (.t 13))]),
mvD 4 14] (some [0, 4]))
(.seq (.seq (.ops [mvD 15 0,
opD 16 (.len (.t 15)),
opD 17 (.move (icD 0))] (some [4, 15, 16, 17]))
(.block 0
(.loop
(.seq (.ops [opD 18 (.bin .lss 3 (.t 17) (.t 16))] (some [4, 15, 16, 17, 18]))
(.seq (.cond (.t 18)
.skip
(.exit 0))
(.seq (.block 1
(.seq (.ops [opD 19 (.indexAddr 1 (.t 15) (.t 17)),
opD 20 (.load false 1 (.t 19)),
mvD 6 20] (some [4, 6, 15, 16, 17]))
(.seq (.ops [opD 21 (.move (icD 0))] (some [4, 6, 15, 16, 17, 21]))
(.block 2
(.loop
(.seq (.ops [opD 22 (.bin .lss 3 (.t 21) (icD 8))] (some [4, 6, 15, 16, 17, 21, 22]))
(.seq (.cond (.t 22)
.skip
(.exit 2))
(.seq (.block 3
(.seq (.ops [mvD 23 21,
mvD 7 23] (some [4, 6, 7, 15, 16, 17, 21]))
(.ops [mvD 24 4,
mvD 25 6,
mvD 26 7,
opD 27 (.bin .sub 3 (icD 7) (.t 26)),
opD 28 (.bin .mul 3 (icD 8) (.t 27)),
opD 29 (.bin .shr 77 (.t 25) (.t 28)),
opD 30 (.conv 77 5 (.t 29)),
opD 31 (.buildSlice [(.int .u8 0)] 1 1 [(0, (.t 30))]),
opD 32 (.append 1 1 [(.int .u8 0)] (.t 24) (.t 31)),
mvD 4 32] (some [4, 6, 15, 16, 17, 21]))))
(.ops [opD 33 (.bin .add 3 (.t 21) (icD 1)),
mvD 21 33] (some [4, 6, 15, 16, 17, 21]))))))))))
(.ops [opD 34 (.bin .add 3 (.t 17) (icD 1)),
mvD 17 34] (some [4, 15, 16, 17]))))))))
(.seq (.ops [mvD 35 4,
opD 36 (.bstr (.t 35)),
mvD 2 36,
opD 3 (.move (icD 0))] (some [2, 3]))
.ret))))), [.tmp 2, .tmp 3]⟩

theorem is243 : FnIs Tryz.prog 243 x243 := ⟨Tryz.f243, _, Tryz.func243, by kernel_rfl, rfl, by kernel_rfl, by decide, by kernel_rfl⟩

/-- cloisonne/wire.Begin$1 -/
def x244 : XDecl := .code ⟨3, 
(.seq (.ops [opD 3 (.load false 1 (.t 0)),
opD 4 (.bin .neq 32 (.t 3) (icD 0))] (some [1, 2, 4]))
(.cond (.t 4)
(.ops [⟨none, none, .store 1 (.t 1) (.c (.slice none 0 0))⟩,
⟨none, none, .store 1 (.t 2) (icD 0)⟩] (some []))
.skip)), []⟩

theorem is244 : FnIs Tryz.prog 244 x244 := ⟨Tryz.f244, _, Tryz.func244, by kernel_rfl, rfl, by kernel_rfl, by decide, by kernel_rfl⟩

/-- (*cloisonne/wire.parser).one -/
def x246 : XDecl := .code ⟨2, 
(.seq (.ops [opD 4 (.alloc [(.int .u64 0), (.string .empty), (.slice none 0 0), (.slice none 0 0)])] (some [0, 1, 4]))
(.seq (.seq (.ops [mvD 10 1] (some [0, 4, 10]))
(.block 0
(.seq (.ops [opD 12 (.bin .eql 5 (.t 10) (.c (.int .u8 98))),
mvD 11 12] (some [0, 4, 10, 11]))
(.cond (.t 11)
(.seq (.ops [mvD 13 0,
opD 14 (clD 327 [(.t 13), (icD 1)]),
opD 15 (.index 9 (.t 14) (icD 0)),
opD 16 (.conv 5 77 (.t 15)),
opD 17 (.build [(.int .u64 0), (.string .empty), (.slice none 0 0), (.slice none 0 0)] [(0, 1), (1, 1), (2, 1), (3, 1)] [(0, (.t 16))]),
⟨none, none, .store 4 (.t 4) (.t 17)⟩] (some [4]))
.ret)
(.seq (.ops [opD 19 (.bin .eql 5 (.t 10) (.c (.int .u8 110))),
mvD 18 19] (some [0, 4, 10, 18]))
(.cond (.t 18)
(.seq (.ops [mvD 20 0,
opD 21 (clD 328 [(.t 20)]),
opD 22 (.build [(.int .u64 0), (.string .empty), (.slice none 0 0), (.slice none 0 0)] [(0, 1), (1, 1), (2, 1), (3, 1)] [(0, (.t 21))]),
⟨none, none, .store 4 (.t 4) (.t 22)⟩] (some [4]))
.ret)
(.seq (.ops [opD 24 (.bin .eql 5 (.t 10) (.c (.int .u8 116))),
mvD 23 24] (some [0, 4, 10, 23]))
(.cond (.t 23)
(.seq (.ops [mvD 25 0,
mvD 26 0,
opD 27 (clD 326 [(.t 26), (icD 200)]),
opD 28 (clD 327 [(.t 25), (.t 27)]),
opD 29 (.build [(.int .u64 0), (.string .empty), (.slice none 0 0), (.slice none 0 0)] [(0, 1), (1, 1), (2, 1), (3, 1)] [(1, (.t 28))]),
⟨none, none, .store 4 (.t 4) (.t 29)⟩] (some [4]))
.ret)
(.seq (.ops [opD 31 (.bin .eql 5 (.t 10) (.c (.int .u8 102))),
mvD 30 31] (some [0, 4, 30]))
(.cond (.t 30)
(.seq (.ops [mvD 33 0,
opD 34 (clD 327 [(.t 33), (icD 8)]),
opD 35 (clD 250 [(.t 34)]),
mvD 32 35,
opD 36 (.extract (.t 32) 0),
opD 37 (.extract (.t 32) 1),
mvD 5 36,
mvD 6 37] (some [4, 5, 6]))
(.seq (.ops [mvD 38 6,
opD 39 (.bin .eql 32 (.t 38) (icD 0)),
mvD 40 6,
opD 41 (clD 180 [(.t 39), (.t 40)])] (some [4, 5]))
(.seq (.ops [mvD 42 5,
opD 43 (clD 167 [(.t 42)]),
opD 44 (.build [(.int .u64 0), (.string .empty), (.slice none 0 0), (.slice none 0 0)] [(0, 1), (1, 1), (2, 1), (3, 1)] [(0, (.t 43))]),
⟨none, none, .store 4 (.t 4) (.t 44)⟩] (some [4]))
.ret)))
.skip))))))))))
(.seq (.ops [mvD 46 0,
opD 47 (.nilCheck (.t 46)),
opD 48 (.fieldAddr 0 (.t 47)),
opD 49 (.load false 1 (.t 48)),
opD 50 (clD 329 [(.t 49)]),
mvD 45 50,
opD 51 (.extract (.t 45) 0),
opD 52 (.extract (.t 45) 1),
opD 53 (.extract (.t 45) 2),
mvD 7 51,
mvD 8 52,
mvD 9 53] (some [0, 4, 7, 8, 9]))
(.seq (.ops [mvD 54 9,
opD 55 (.bin .eql 32 (.t 54) (icD 0)),
mvD 56 9,
opD 57 (clD 180 [(.t 55), (.t 56)])] (some [0, 4, 7, 8]))
(.seq (.ops [mvD 58 0,
mvD 59 8,
opD 60 (clD 327 [(.t 58), (.t 59)])] (some [4, 7]))
(.seq (.ops [mvD 61 7,
opD 62 (.build [(.int .u64 0), (.string .empty), (.slice none 0 0), (.slice none 0 0)] [(0, 1), (1, 1), (2, 1), (3, 1)] [(2, (.t 61))]),
⟨none, none, .store 4 (.t 4) (.t 62)⟩] (some [4]))
.ret)))))), [.cell true 4 4]⟩

theorem is246 : FnIs Tryz.prog 246 x246 := ⟨Tryz.f246, _, Tryz.func246, by kernel_rfl, rfl, by kernel_rfl, by decide, by kernel_rfl⟩

/-- slices.IndexFunc[[]cloisonne/api.Row,cloisonne/api.Row] -/
def x248 : XDecl := .code ⟨2, 
(.seq (.ops [opD 4 (.move (icD 0))] (some [0, 1]))
(.seq (.seq (.ops [mvD 6 0,
opD 7 (.len (.t 6)),
opD 8 (.move (icD 0))] (some [0, 1, 7, 8]))
(.block 0
(.loop
(.seq (.ops [opD 9 (.bin .lss 3 (.t 8) (.t 7))] (some [0, 1, 7, 8, 9]))
(.seq (.cond (.t 9)
.skip
(.exit 0))
(.seq (.block 1
(.seq (.ops [mvD 10 8,
mvD 5 10] (some [0, 1, 5, 7, 8]))
(.seq (.ops [mvD 11 1,
mvD 12 0,
mvD 13 5,
opD 14 (.indexAddr 5 (.t 12) (.t 13)),
opD 15 (.load true 5 (.t 14)),
opD 16 (.call (.t 11) [(.t 15)])] (some [0, 1, 5, 7, 8, 16]))
(.cond (.t 16)
(.seq (.ops [mvD 17 5,
mvD 4 17] (some [4]))
.ret)
.skip))))
(.ops [opD 18 (.bin .add 3 (.t 8) (icD 1)),
mvD 8 18] (some [0, 1, 7, 8]))))))))
(.seq (.ops [opD 4 (.move (icD (-1)))] (some [4]))
.ret))), [.tmp 4]⟩

theorem is248 : FnIs Tryz.prog 248 x248 := ⟨Tryz.f248, _, Tryz.func248, by kernel_rfl, rfl, by kernel_rfl, by decide, by kernel_rfl⟩

/-- strings.CutPrefix -/
def x249 : XDecl := .code ⟨2, 
(.seq (.ops [opD 4 (.move (.c (.string .empty))),
opD 5 (.move (.c (.bool false)))] (some [0, 1]))
(.seq (.ops [mvD 6 0,
mvD 7 1,
opD 8 (clD 330 [(.t 6), (.t 7)]),
opD 9 (.extract (.t 8) 0),
opD 10 (.extract (.t 8) 1),
mvD 4 9,
mvD 5 10] (some [4, 5]))
.ret)), [.tmp 4, .tmp 5]⟩

theorem is249 : FnIs Tryz.prog 249 x249 := ⟨Tryz.f249, _, Tryz.func249, by kernel_rfl, rfl, by kernel_rfl, by decide, by kernel_rfl⟩

/-- (*cloisonne/sess.Session).login -/
def x252 : XDecl := .code ⟨2, 
(.seq (.ops [opD 3 (.box (.t 1)),
opD 4 (.alloc [(.int .i64 0), (.int .u64 0), (.bool false), (.bool false), (.string .empty), (.int .u64 0), (.slice none 0 0), (.int .i64 0), (.int .u64 0), (.int .u64 0), (.int .u64 0), (.int .u64 0)])] (some [0, 3, 4]))
(.seq (.block 0
(.seq (.ops [mvD 6 0,
opD 7 (.nilCheck (.t 6)),
opD 8 (.fieldAddr 2 (.t 7)),
opD 9 (.load false 1 (.t 8)),
mvD 5 9] (some [0, 3, 4, 5]))
(.cond (.t 5)
(.seq (.ops [opD 10 (clD 191 [(icD 8)]),
⟨none, none, .store 12 (.t 4) (.t 10)⟩] (some [4]))
.ret)
(.seq (.opsd [(0, 0, opD 12 (.fieldAddr 1 (.t 3))),
(1, 1, opD 13 (.load false 1 (.t 12))),
(2, 0, mvD 14 0),
(3, 4, opD 15 (.nilCheck (.t 14))),
(4, 12, opD 16 (.fieldAddr 0 (.t 15))),
(5, 28, opD 17 (.load false 1 (.t 16))),
(6, 60, opD 18 (clD 332 [(.t 17)])),
(7, 124, opD 19 (clD 296 [(.t 18)])),
(8, 255, opD 20 (.bin .geq 3 (.t 13) (.t 19))),
(9, 511, mvD 11 20)] (some [0, 3, 4, 11]))
(.cond (.t 11)
(.seq (.ops [opD 21 (clD 191 [(icD 1)]),
⟨none, none, .store 12 (.t 4) (.t 21)⟩] (some [4]))
.ret)
.skip)))))
(.seq (.opsd [(0, 0, mvD 22 0),
(1, 0, mvD 23 0),
(2, 0, mvD 24 0),
(3, 0, mvD 25 0),
(4, 0, opD 26 (.fieldAddr 1 (.t 3))),
(5, 16, opD 27 (.load false 1 (.t 26))),
(6, 1, opD 28 (.nilCheck (.t 22))),
(7, 65, opD 29 (.fieldAddr 3 (.t 28))),
(8, 193, ⟨none, none, .store 1 (.t 29) (.c (.bool true))⟩),
(9, 451, opD 30 (.nilCheck (.t 23))),
(10, 963, opD 31 (.fieldAddr 2 (.t 30))),
(11, 1987, ⟨none, none, .store 1 (.t 31) (.c (.bool true))⟩),
(12, 4087, opD 32 (.nilCheck (.t 24))),
(13, 8183, opD 33 (.fieldAddr 4 (.t 32))),
(14, 16375, ⟨none, none, .store 1 (.t 33) (.t 27)⟩),
(15, 32767, opD 34 (.nilCheck (.t 25))),
(16, 65535, opD 35 (.fieldAddr 5 (.t 34))),
(17, 131071, ⟨none, none, .store 1 (.t 35) (.c (.slice none 0 0))⟩)] (some [4]))
(.seq (.ops [opD 36 (clD 191 [(icD 0)]),
⟨none, none, .store 12 (.t 4) (.t 36)⟩] (some [4]))
.ret)))), [.cell true 12 4]⟩

theorem is252 : FnIs Tryz.prog 252 x252 := ⟨Tryz.f252, _, Tryz.func252, by kernel_rfl, rfl, by kernel_rfl, by decide, by kernel_rfl⟩

/-- (*cloisonne/sess.Session).see -/
def x253 : XDecl := .code ⟨2, 
(.seq (.ops [opD 4 (.move (icD 0))] (some [0, 1]))
(.seq (.block 0
(.seq (.ops [mvD 8 0,
mvD 9 1,
opD 10 (clD 333 [(.t 8), (.t 9)]),
opD 11 (.un .not (.t 10)),
mvD 7 11] (some [0, 1, 7]))
(.cond (.t 7)
(.seq (.ops [opD 4 (.move (icD 10))] (some [4]))
.ret)
(.seq (.ops [mvD 13 0,
opD 14 (clD 334 [(.t 13)]),
mvD 15 14,
⟨some 16, some (15, true), .move (.t 1)⟩,
⟨some 17, some (15, true), .move (.t 0)⟩,
⟨some 18, some (15, true), .nilCheck (.t 17)⟩,
⟨some 19, some (15, true), .fieldAddr 5 (.t 18)⟩,
⟨some 20, some (15, true), .load false 1 (.t 19)⟩,
⟨some 21, some (15, true), clD 335 [(.t 16), (.t 20)]⟩,
⟨some 22, some (15, true), .un .not (.t 21)⟩,
opD 23 (.pick (.t 15) (.t 22) (.c (.bool false))),
mvD 12 23] (some [0, 1, 12]))
(.cond (.t 12)
(.seq (.ops [opD 4 (.move (icD 12))] (some [4]))
.ret)
.skip)))))
(.seq (.ops [mvD 25 0,
opD 26 (.nilCheck (.t 25)),
opD 27 (.fieldAddr 5 (.t 26)),
opD 28 (.load false 1 (.t 27)),
mvD 29 1,
opD 30 (clD 336 [(.t 28), (.t 29)]),
mvD 24 30,
opD 31 (.extract (.t 24) 0),
opD 32 (.extract (.t 24) 1),
mvD 5 31,
mvD 6 32] (some [0, 5, 6]))
(.seq (.seq (.ops [mvD 33 6,
opD 34 (.bin .eql 32 (.t 33) (icD 0))] (some [0, 5, 6, 34]))
(.cond (.t 34)
(.ops [mvD 35 0,
mvD 36 5,
opD 37 (.nilCheck (.t 35)),
opD 38 (.fieldAddr 5 (.t 37)),
⟨none, none, .store 1 (.t 38) (.t 36)⟩] (some [6]))
.skip))
(.seq (.ops [mvD 39 6,
mvD 4 39] (some [4]))
.ret))))), [.tmp 4]⟩

theorem is253 : FnIs Tryz.prog 253 x253 := ⟨Tryz.f253, _, Tryz.func253, by kernel_rfl, rfl, by kernel_rfl, by decide, by kernel_rfl⟩

/-- (*cloisonne/vault.Vault).Stamp -/
def x255 : XDecl := .code ⟨1, 
(.seq (.ops [opD 2 (.move (.c (.int .u64 0)))] (some [0]))
(.seq (.seq (.ops [mvD 3 0,
opD 4 (.isNil .ptr false (.t 3))] (some [0, 4]))
(.cond (.t 4)
(.seq (.ops [opD 2 (.move (.c (.int .u64 0)))] (some [2]))
.ret)
.skip))
(.seq (.ops [mvD 5 0,
opD 6 (.nilCheck (.t 5)),
opD 7 (.fieldAddr 9 (.t 6)),
opD 8 (.load false 1 (.t 7)),
mvD 2 8] (some [2]))
.ret))), [.tmp 2]⟩

theorem is255 : FnIs Tryz.prog 255 x255 := ⟨Tryz.f255, _, Tryz.func255, by kernel_rfl, rfl, by kernel_rfl, by decide, by kernel_rfl⟩

/-- cloisonne/wset.New -/
def x256 : XDecl := .code ⟨0, 
(.seq (.ops [opD 0 (.move (.c (.pointer none)))] (some []))
(.seq (.ops [opD 1 (.build [(.slice none 0 0), (.slice none 0 0), (.slice none 0 0)] [(0, 1), (1, 1), (2, 1)] []),
opD 2 (.box (.t 1)),
mvD 0 2] (some [0]))
.ret)), [.tmp 0]⟩

theorem is256 : FnIs Tryz.prog 256 x256 := ⟨Tryz.f256, _, Tryz.func256, by kernel_rfl, rfl, by kernel_rfl, by decide, by kernel_rfl⟩

/-- (*cloisonne/sess.Session).start -/
def x257 : XDecl := .code ⟨2, 
(.seq (.ops [opD 3 (.box (.t 1)),
opD 4 (.move (.c (.pointer none))),
opD 5 (.alloc [(.int .i64 0), (.int .u64 0), (.bool false), (.bool false), (.string .empty), (.int .u64 0), (.slice none 0 0), (.int .i64 0), (.int .u64 0), (.int .u64 0), (.int .u64 0), (.int .u64 0)])] (some [0, 3, 5]))
(.seq (.ops [opD 6 (.move (.c (.pointer none)))] (some [0, 3, 5, 6]))
(.seq (.ops [opD 7 (.move (icD 0))] (some [0, 3, 5, 6]))
(.seq (.block 0
(.seq (.ops [opD 32 (.fieldAddr 0 (.t 3)),
opD 33 (.load false 1 (.t 32)),
opD 34 (.bin .eql 3 (.t 33) (icD 14)),
mvD 35 34,
⟨some 36, some (35, true), .move (.t 0)⟩,
⟨some 37, some (35, true), .nilCheck (.t 36)⟩,
⟨some 38, some (35, true), .fieldAddr 6 (.t 37)⟩,
⟨some 39, some (35, true), .load false 1 (.t 38)⟩,
⟨some 40, some (35, true), .nilCheck (.t 39)⟩,
⟨some 41, some (35, true), .fieldAddr 1 (.t 40)⟩,
⟨some 42, some (35, true), .load false 1 (.t 41)⟩,
⟨some 43, some (35, true), clD 340 [(.t 42)]⟩,
⟨some 44, some (35, true), .bin .eql 3 (.t 43) (icD 0)⟩,
opD 45 (.pick (.t 35) (.t 44) (.c (.bool false))),
mvD 31 45] (some [0, 3, 5, 6, 31]))
(.cond (.t 31)
(.seq (.ops [opD 46 (clD 191 [(icD 0)]),
opD 4 (.move (.c (.pointer none))),
⟨none, none, .store 12 (.t 5) (.t 46)⟩] (some [4, 5]))
.ret)
(.seq (.ops [opD 48 (.fieldAddr 0 (.t 3)),
opD 49 (.load false 1 (.t 48)),
opD 50 (.bin .eql 3 (.t 49) (icD 14)),
mvD 47 50] (some [0, 3, 5, 6, 47]))
(.cond (.t 47)
(.opsd [(0, 0, mvD 52 0),
(1, 1, opD 53 (.nilCheck (.t 52))),
(2, 3, opD 54 (.fieldAddr 0 (.t 53))),
(3, 7, opD 55 (.load false 1 (.t 54))),
(4, 0, mvD 56 0),
(5, 16, opD 57 (.nilCheck (.t 56))),
(6, 48, opD 58 (.fieldAddr 1 (.t 57))),
(7, 112, opD 59 (.load false 1 (.t 58))),
(8, 0, mvD 60 0),
(9, 256, opD 61 (.nilCheck (.t 60))),
(10, 768, opD 62 (.fieldAddr 6 (.t 61))),
(11, 1792, opD 63 (.load false 1 (.t 62))),
(12, 3840, opD 64 (.nilCheck (.t 63))),
(13, 7936, opD 65 (.fieldAddr 2 (.t 64))),
(14, 16128, opD 66 (.load false 1 (.t 65))),
(15, 0, mvD 67 0),
(16, 32768, opD 68 (.nilCheck (.t 67))),
(17, 98304, opD 69 (.fieldAddr 6 (.t 68))),
(18, 229376, opD 70 (.load false 1 (.t 69))),
(19, 491520, opD 71 (.nilCheck (.t 70))),
(20, 1015808, opD 72 (.fieldAddr 1 (.t 71))),
(21, 2064384, opD 73 (.load false 1 (.t 72))),
(23, 0, mvD 75 0),
(24, 8388608, opD 76 (.nilCheck (.t 75))),
(25, 25165824, opD 77 (.fieldAddr 6 (.t 76))),
(26, 58720256, opD 78 (.load false 1 (.t 77))),
(27, 125829120, opD 79 (.nilCheck (.t 78))),
(28, 260046848, opD 80 (.fieldAddr 0 (.t 79))),
(29, 528482304, opD 81 (.load false 1 (.t 80))),
(22, 4161536, opD 74 (clD 342 [(.t 73)])),
(30, 1073741823, opD 82 (clD 341 [(.t 55), (.t 59), (.t 66), (.t 74), (.t 81)])),
(31, 2147483647, mvD 51 82),
(32, 4294967295, opD 83 (.extract (.t 51) 0)),
(33, 4294967295, opD 84 (.extract (.t 51) 1)),
(34, 8589934591, mvD 6 83),
(35, 34359738367, mvD 7 84)] (some [5, 6, 7]))
(.seq (.ops [mvD 86 0,
opD 87 (.nilCheck (.t 86)),
opD 88 (.fieldAddr 6 (.t 87)),
opD 89 (.load false 1 (.t 88)),
opD 90 (.isNil .ptr true (.t 89)),
mvD 85 90] (some [0, 3, 5, 6, 85]))
(.cond (.t 85)
(.ops [opD 7 (.move (icD 9))] (some [5, 6, 7]))
(.seq (.ops [mvD 92 0,
opD 93 (.nilCheck (.t 92)),
opD 94 (.fieldAddr 5 (.t 93)),
opD 95 (.load false 1 (.t 94)),
opD 96 (.len (.t 95)),
opD 97 (.bin .gtr 3 (.t 96) (icD 0)),
mvD 91 97] (some [0, 3, 5, 6, 91]))
(.cond (.t 91)
(.ops [opD 7 (.move (icD 11))] (some [5, 6, 7]))
(.seq (.ops [opD 99 (.fieldAddr 0 (.t 3)),
opD 100 (.load false 1 (.t 99)),
opD 101 (.bin .eql 3 (.t 100) (icD 5)),
mvD 98 101] (some [0, 3, 5, 98]))
(.cond (.t 98)
(.opsd [(0, 0, mvD 103 0),
(1, 1, opD 104 (.nilCheck (.t 103))),
(2, 3, opD 105 (.fieldAddr 0 (.t 104))),
(3, 7, opD 106 (.load false 1 (.t 105))),
(4, 0, mvD 107 0),
(5, 16, opD 108 (.nilCheck (.t 107))),
(6, 48, opD 109 (.fieldAddr 1 (.t 108))),
(7, 112, opD 110 (.load false 1 (.t 109))),
(8, 0, mvD 111 0),
(9, 256, opD 112 (.nilCheck (.t 111))),
(10, 768, opD 113 (.fieldAddr 4 (.t 112))),
(11, 1792, opD 114 (.load false 1 (.t 113))),
(12, 3840, opD 115 (.build [(.int .i64 0), (.int .i64 0), (.int .i64 0), (.int .u64 0), (.bool false)] [(0, 1), (1, 1), (2, 1), (3, 1), (4, 1)] [(0, (icD 1)), (1, (.t 114))])),
(13, 8191, opD 116 (clD 343 [(.t 106), (.t 110), (.t 115)])),
(14, 16383, mvD 102 116),
(15, 32767, opD 117 (.extract (.t 102) 0)),
(16, 32767, opD 118 (.extract (.t 102) 1)),
(17, 65535, mvD 6 117),
(18, 262143, mvD 7 118)] (some [5, 6, 7]))
(.opsd [(0, 0, mvD 9 0),
(1, 1, opD 10 (.nilCheck (.t 9))),
(2, 3, opD 11 (.fieldAddr 0 (.t 10))),
(3, 7, opD 12 (.load false 1 (.t 11))),
(4, 0, mvD 13 0),
(5, 16, opD 14 (.nilCheck (.t 13))),
(6, 48, opD 15 (.fieldAddr 1 (.t 14))),
(7, 112, opD 16 (.load false 1 (.t 15))),
(8, 0, mvD 17 0),
(9, 256, opD 18 (.nilCheck (.t 17))),
(10, 768, opD 19 (.fieldAddr 4 (.t 18))),
(11, 1792, opD 20 (.load false 1 (.t 19))),
(12, 0, opD 21 (.fieldAddr 1 (.t 3))),
(13, 4096, opD 22 (.load false 1 (.t 21))),
(14, 0, opD 23 (.fieldAddr 3 (.t 3))),
(15, 16384, opD 24 (.load false 1 (.t 23))),
(16, 0, opD 25 (.fieldAddr 4 (.t 3))),
(17, 65536, opD 26 (.load false 1 (.t 25))),
(18, 261888, opD 27 (.build [(.int .i64 0), (.int .i64 0), (.int .i64 0), (.int .u64 0), (.bool false)] [(0, 1), (1, 1), (2, 1), (3, 1), (4, 1)] [(0, (icD 2)), (1, (.t 20)), (2, (.t 22)), (3, (.t 24)), (4, (.t 26))])),
(19, 524287, opD 28 (clD 343 [(.t 12), (.t 16), (.t 27)])),
(20, 1048575, mvD 8 28),
(21, 2097151, opD 29 (.extract (.t 8) 0)),
(22, 2097151, opD 30 (.extract (.t 8) 1)),
(23, 4194303, mvD 6 29),
(24, 16777215, mvD 7 30)] (some [5, 6, 7])))))))))))))
(.seq (.ops [mvD 119 6,
mvD 120 7,
opD 121 (clD 191 [(.t 120)]),
mvD 4 119,
⟨none, none, .store 12 (.t 5) (.t 121)⟩] (some [4, 5]))
.ret))))), [.tmp 4, .cell true 12 5]⟩

theorem is257 : FnIs Tryz.prog 257 x257 := ⟨Tryz.f257, _, Tryz.func257, by kernel_rfl, rfl, by kernel_rfl, by decide, by kernel_rfl⟩

/-- (*cloisonne/sess.Session).begin -/
def x258 : XDecl := .code ⟨2, 
(.seq (.ops [opD 3 (.box (.t 1)),
opD 4 (.move (icD 0))] (some [0, 3]))
(.seq (.seq (.ops [mvD 8 0,
opD 9 (.fieldAddr 2 (.t 3)),
opD 10 (.load false 1 (.t 9)),
opD 11 (clD 253 [(.t 8), (.t 10)]),
mvD 5 11] (some [0, 3, 5]))
(.seq (.ops [mvD 12 5,
opD 13 (.bin .neq 32 (.t 12) (icD 0))] (some [0, 3, 5, 13]))
(.cond (.t 13)
(.seq (.ops [mvD 14 5,
mvD 4 14] (some [4]))
.ret)
.skip)))
(.seq (.opsd [(0, 0, mvD 15 0),
(1, 1, opD 16 (.nilCheck (.t 15))),
(2, 3, opD 17 (.fieldAddr 7 (.t 16))),
(3, 7, opD 18 (.load false 1 (.t 17))),
(4, 0, mvD 19 0),
(5, 16, opD 20 (.nilCheck (.t 19))),
(6, 48, opD 21 (.fieldAddr 0 (.t 20))),
(7, 112, opD 22 (.load false 1 (.t 21))),
(8, 0, opD 23 (.fieldAddr 2 (.t 3))),
(9, 256, opD 24 (.load false 1 (.t 23))),
(10, 1008, opD 25 (clD 344 [(.t 22), (.t 24)])),
(11, 2047, opD 26 (.nilCheck (.t 18))),
(12, 4095, opD 27 (.fieldAddr 19 (.t 26))),
(13, 8191, ⟨none, none, .store 1 (.t 27) (.t 25)⟩)] (some [0, 3]))
(.seq (.ops [mvD 29 0,
opD 30 (clD 259 [(.t 29)]),
mvD 28 30,
opD 31 (.extract (.t 28) 0),
opD 32 (.extract (.t 28) 1),
mvD 6 31,
mvD 7 32] (some [0, 3, 6, 7]))
(.seq (.seq (.ops [mvD 33 7,
opD 34 (.bin .neq 32 (.t 33) (icD 0))] (some [0, 3, 6, 7, 34]))
(.cond (.t 34)
(.seq (.ops [mvD 35 7,
mvD 4 35] (some [4]))
.ret)
.skip))
(.seq (.opsd [(0, 0, mvD 37 0),
(1, 1, opD 38 (.nilCheck (.t 37))),
(2, 3, opD 39 (.fieldAddr 7 (.t 38))),
(3, 7, opD 40 (.load false 1 (.t 39))),
(4, 0, mvD 41 6),
(5, 0, opD 42 (.fieldAddr 10 (.t 3))),
(6, 32, opD 43 (.load true 3 (.t 42))),
(7, 0, mvD 44 0),
(8, 128, opD 45 (.nilCheck (.t 44))),
(9, 384, opD 46 (.fieldAddr 6 (.t 45))),
(10, 896, opD 47 (.load false 1 (.t 46))),
(11, 1920, opD 48 (.nilCheck (.t 47))),
(12, 3968, opD 49 (.fieldAddr 1 (.t 48))),
(13, 8064, opD 50 (.load false 1 (.t 49))),
(14, 0, mvD 51 0),
(15, 16384, opD 52 (.nilCheck (.t 51))),
(16, 49152, opD 53 (.fieldAddr 6 (.t 52))),
(17, 114688, opD 54 (.load false 1 (.t 53))),
(18, 245760, opD 55 (.nilCheck (.t 54))),
(19, 507904, opD 56 (.fieldAddr 2 (.t 55))),
(20, 1032192, opD 57 (.load false 1 (.t 56))),
(21, 2097136, opD 58 (clD 345 [(.t 41), (.t 43), (.t 50), (.t 57)])),
(22, 4194288, mvD 36 58),
(23, 8388592, opD 59 (.extract (.t 36) 0)),
(24, 8388592, opD 60 (.extract (.t 36) 1)),
(25, 16777215, opD 61 (.nilCheck (.t 40))),
(26, 50331647, opD 62 (.fieldAddr 18 (.t 61))),
(27, 117440511, ⟨none, none, .store 1 (.t 62) (.t 59)⟩),
(28, 268435455, mvD 7 60)] (some [7]))
(.seq (.ops [mvD 63 7,
mvD 4 63] (some [4]))
.ret))))))), [.tmp 4]⟩

theorem is258 : FnIs Tryz.prog 258 x258 := ⟨Tryz.f258, _, Tryz.func258, by kernel_rfl, rfl, by kernel_rfl, by decide, by kernel_rfl⟩

/-- (*cloisonne/sess.Session).sources -/
def x259 : XDecl := .code ⟨1, 
(.seq (.ops [opD 2 (.move (.c (.slice none 0 0))),
opD 3 (.move (icD 0))] (some [0]))
(.seq (.ops [opD 4 (.move (.c (.slice none 0 0)))] (some [0, 4]))
(.seq (.seq (.ops [mvD 9 0,
opD 10 (.nilCheck (.t 9)),
opD 11 (.fieldAddr 7 (.t 10)),
opD 12 (.load false 1 (.t 11)),
opD 13 (.nilCheck (.t 12)),
opD 14 (.fieldAddr 19 (.t 13)),
opD 15 (.load false 1 (.t 14)),
opD 16 (.len (.t 15)),
opD 17 (.move (icD 0))] (some [0, 4, 15, 16, 17]))
(.block 0
(.loop
(.seq (.ops [opD 18 (.bin .lss 3 (.t 17) (.t 16))] (some [0, 4, 15, 16, 17, 18]))
(.seq (.cond (.t 18)
.skip
(.exit 0))
(.seq (.block 1
(.seq (.ops [opD 19 (.indexAddr 1 (.t 15) (.t 17)),
opD 20 (.load false 1 (.t 19)),
mvD 6 20] (some [0, 4, 6, 15, 16, 17]))
(.seq (.opsd [(0, 0, mvD 22 0),
(1, 1, opD 23 (.nilCheck (.t 22))),
(2, 3, opD 24 (.fieldAddr 0 (.t 23))),
(3, 7, opD 25 (.load false 1 (.t 24))),
(4, 0, mvD 26 6),
(6, 0, mvD 28 0),
(7, 64, opD 29 (.nilCheck (.t 28))),
(8, 192, opD 30 (.fieldAddr 6 (.t 29))),
(9, 448, opD 31 (.load false 1 (.t 30))),
(10, 960, opD 32 (.nilCheck (.t 31))),
(11, 1984, opD 33 (.fieldAddr 0 (.t 32))),
(12, 4032, opD 34 (.load false 1 (.t 33))),
(5, 31, opD 27 (clD 44 [(.t 25), (.t 26)])),
(13, 8191, opD 35 (clD 346 [(.t 27), (.t 34)])),
(14, 16383, mvD 21 35),
(15, 32767, opD 36 (.extract (.t 21) 0)),
(16, 32767, opD 37 (.extract (.t 21) 1)),
(17, 65535, mvD 7 36),
(18, 262143, mvD 8 37)] (some [0, 4, 6, 7, 8, 15, 16, 17]))
(.seq (.seq (.ops [mvD 38 8,
opD 39 (.bin .neq 32 (.t 38) (icD 0))] (some [0, 4, 6, 7, 8, 15, 16, 17, 39]))
(.cond (.t 39)
(.seq (.ops [mvD 40 8,
opD 2 (.move (.c (.slice none 0 0))),
mvD 3 40] (some [2, 3]))
.ret)
.skip))
(.ops [mvD 41 4,
mvD 42 0,
opD 43 (.nilCheck (.t 42)),
opD 44 (.fieldAddr 0 (.t 43)),
opD 45 (.load false 1 (.t 44)),
mvD 46 6,
opD 47 (clD 44 [(.t 45), (.t 46)]),
mvD 48 7,
mvD 49 6,
opD 50 (.build [(.pointer none), (.int .i64 0), (.int .i64 0)] [(0, 1), (1, 1), (2, 1)] [(0, (.t 47)), (1, (.t 48)), (2, (.t 49))]),
opD 51 (.buildSlice [(.pointer none), (.int .i64 0), (.int .i64 0)] 3 1 [(0, (.t 50))]),
opD 52 (.append 3 24 [(.pointer none), (.int .i64 0), (.int .i64 0)] (.t 41) (.t 51)),
mvD 4 52] (some [0, 4, 15, 16, 17]))))))
(.ops [opD 53 (.bin .add 3 (.t 17) (icD 1)),
mvD 17 53] (some [0, 4, 15, 16, 17]))))))))
(.seq (.ops [mvD 54 4,
mvD 2 54,
opD 3 (.move (icD 0))] (some [2, 3]))
.ret)))), [.tmp 2, .tmp 3]⟩

theorem is259 : FnIs Tryz.prog 259 x259 := ⟨Tryz.f259, _, Tryz.func259, by kernel_rfl, rfl, by kernel_rfl, by decide, by kernel_rfl⟩

/-- (*cloisonne/merge.Cursor).Step -/
def x260 : XDecl := .code ⟨2, 
(.seq (.ops [opD 4 (.move (.c (.slice none 0 0))),
opD 5 (.move (.c (.bool false))),
opD 6 (.move (icD 0))] (some [0, 1]))
(.seq (.block 0
(.seq (.ops [mvD 11 0,
opD 12 (.isNil .ptr false (.t 11)),
mvD 10 12] (some [0, 1, 10]))
(.cond (.t 10)
(.seq (.ops [opD 4 (.move (.c (.slice none 0 0))),
opD 5 (.move (.c (.bool false))),
opD 6 (.move (icD 2))] (some [4, 5, 6]))
.ret)
(.seq (.ops [mvD 14 1,
opD 15 (.bin .lss 3 (.t 14) (icD 1)),
mvD 13 15] (some [0, 1, 13]))
(.cond (.t 13)
(.seq (.ops [opD 4 (.move (.c (.slice none 0 0))),
opD 5 (.move (.c (.bool false))),
opD 6 (.move (icD 1))] (some [4, 5, 6]))
.ret)
.skip)))))
(.seq (.ops [opD 7 (.move (.c (.slice none 0 0)))] (some [0, 1, 7]))
(.seq (.block 1
(.loop
(.seq (.seq (.ops [mvD 16 0,
opD 17 (.nilCheck (.t 16)),
opD 18 (.fieldAddr 12 (.t 17)),
opD 19 (.load false 1 (.t 18)),
opD 20 (.un .not (.t 19)),
mvD 21 20,
⟨some 22, some (21, true), .move (.t 7)⟩,
⟨some 23, some (21, true), .len (.t 22)⟩,
⟨some 24, some (21, true), .move (.t 1)⟩,
⟨some 25, some (21, true), .bin .lss 3 (.t 23) (.t 24)⟩,
opD 26 (.pick (.t 21) (.t 25) (.c (.bool false)))] (some [0, 1, 7, 26]))
(.cond (.t 26)
.skip
(.exit 1)))
(.block 2
(.seq (.ops [mvD 28 0,
opD 29 (clD 347 [(.t 28)]),
mvD 27 29,
opD 30 (.extract (.t 27) 0),
opD 31 (.extract (.t 27) 1),
opD 8 (.alloc [(.int .i64 0), (.string .empty), (.bool false), (.string .empty), (.int .u64 0)]),
⟨none, none, .store 5 (.t 8) (.t 30)⟩,
mvD 9 31] (some [0, 1, 7, 8, 9]))
(.seq (.seq (.ops [mvD 32 9] (some [0, 1, 7, 8, 9, 32]))
(.cond (.t 32)
(.seq (.ops [mvD 33 7,
opD 34 (.load true 5 (.t 8)),
opD 35 (.buildSlice [(.int .i64 0), (.string .empty), (.bool false), (.string .empty), (.int .u64 0)] 5 1 [(0, (.t 34))]),
opD 36 (.append 5 56 [(.int .i64 0), (.string .empty), (.bool false), (.string .empty), (.int .u64 0)] (.t 33) (.t 35)),
mvD 7 36] (some [0, 1, 7, 8, 9]))
(.seq (.ops [mvD 37 0,
opD 38 (.load true 5 (.t 8)),
opD 39 (.nilCheck (.t 37)),
opD 40 (.fieldAddr 6 (.t 39)),
⟨none, none, .store 5 (.t 40) (.t 38)⟩] (some [0, 1, 7, 9]))
(.ops [mvD 41 0,
opD 42 (.nilCheck (.t 41)),
opD 43 (.fieldAddr 11 (.t 42)),
opD 44 (.load false 1 (.t 43)),
opD 45 (.bin .add 3 (.t 44) (icD 1)),
opD 46 (.nilCheck (.t 41)),
opD 47 (.fieldAddr 11 (.t 46)),
⟨none, none, .store 1 (.t 47) (.t 45)⟩] (some [0, 1, 7, 9]))))
.skip))
(.opsd [(0, 0, mvD 48 0),
(1, 0, mvD 49 9),
(2, 2, opD 50 (.un .not (.t 49))),
(3, 6, mvD 51 50),
(4, 14, ⟨some 52, some (51, false), .move (.t 0)⟩),
(5, 30, ⟨some 53, some (51, false), .nilCheck (.t 52)⟩),
(6, 62, ⟨some 54, some (51, false), .fieldAddr 11 (.t 53)⟩),
(7, 126, ⟨some 55, some (51, false), .load false 1 (.t 54)⟩),
(8, 14, ⟨some 56, some (51, false), .move (.t 0)⟩),
(9, 270, ⟨some 57, some (51, false), .nilCheck (.t 56)⟩),
(10, 782, ⟨some 58, some (51, false), .fieldAddr 1 (.t 57)⟩),
(11, 1806, ⟨some 59, some (51, false), .fieldAddr 2 (.t 58)⟩),
(12, 3854, ⟨some 60, some (51, false), .load false 1 (.t 59)⟩),
(13, 8190, ⟨some 61, some (51, false), .bin .eql 3 (.t 55) (.t 60)⟩),
(14, 16382, opD 62 (.pick (.t 51) (.c (.bool true)) (.t 61))),
(15, 32767, opD 63 (.nilCheck (.t 48))),
(16, 65535, opD 64 (.fieldAddr 12 (.t 63))),
(17, 131071, ⟨none, none, .store 1 (.t 64) (.t 62)⟩)] (some [0, 1, 7]))))))))
(.seq (.opsr [mvD 65 7,
mvD 66 0,
opD 67 (.nilCheck (.t 66)),
opD 68 (.fieldAddr 12 (.t 67)),
opD 69 (.load false 1 (.t 68)),
mvD 4 65,
mvD 5 69,
opD 6 (.move (icD 0))] (some [4, 5, 6]))
.ret))))), [.tmp 4, .tmp 5, .tmp 6]⟩

theorem is260 : FnIs Tryz.prog 260 x260 := ⟨Tryz.f260, _, Tryz.func260, by kernel_rfl, rfl, by kernel_rfl, by decide, by kernel_rfl⟩

/-- (*cloisonne/sess.pending).told -/
def x261 : XDecl := .code ⟨1, 
(.seq (.ops [opD 2 (.alloc [(.int .i64 0), (.int .u64 0), (.bool false), (.bool false), (.string .empty), (.int .u64 0), (.slice none 0 0), (.int .i64 0), (.int .u64 0), (.int .u64 0), (.int .u64 0), (.int .u64 0)])] (some [0, 2]))
(.seq (.seq (.ops [mvD 5 0,
opD 6 (.nilCheck (.t 5)),
opD 7 (.fieldAddr 0 (.t 6)),
opD 8 (.fieldAddr 0 (.t 7)),
opD 9 (.load false 1 (.t 8)),
opD 10 (.bin .eql 3 (.t 9) (icD 11))] (some [0, 2, 10]))
(.cond (.t 10)
(.seq (.ops [mvD 11 0,
opD 12 (.nilCheck (.t 11)),
opD 13 (.fieldAddr 20 (.t 12)),
opD 14 (.load false 1 (.t 13)),
opD 15 (.build [(.int .i64 0), (.int .u64 0), (.bool false), (.bool false), (.string .empty), (.int .u64 0), (.slice none 0 0), (.int .i64 0), (.int .u64 0), (.int .u64 0), (.int .u64 0), (.int .u64 0)] [(0, 1), (1, 1), (2, 1), (3, 3), (6, 1), (7, 5)] [(4, (.t 14))]),
⟨none, none, .store 12 (.t 2) (.t 15)⟩] (some [2]))
.ret)
.skip))
(.seq (.ops [mvD 17 0,
opD 18 (.nilCheck (.t 17)),
opD 19 (.fieldAddr 20 (.t 18)),
opD 20 (.load false 1 (.t 19)),
opD 21 (clD 348 [(.t 20)]),
mvD 16 21,
opD 22 (.extract (.t 16) 0),
opD 23 (.extract (.t 16) 1),
opD 3 (.alloc [(.int .i64 0), (.int .u64 0), (.int .u64 0), (.int .u64 0), (.int .u64 0)]),
⟨none, none, .store 5 (.t 3) (.t 22)⟩,
mvD 4 23] (some [2, 3, 4]))
(.seq (.ops [mvD 24 4,
opD 25 (.conv 3 77 (.t 24)),
opD 26 (.load true 5 (.t 3)),
opD 27 (.build [(.int .i64 0), (.int .u64 0), (.bool false), (.bool false), (.string .empty), (.int .u64 0), (.slice none 0 0), (.int .i64 0), (.int .u64 0), (.int .u64 0), (.int .u64 0), (.int .u64 0)] [(0, 1), (1, 1), (2, 1), (3, 3), (6, 1), (7, 5)] [(1, (.t 25)), (5, (.t 26))]),
⟨none, none, .store 12 (.t 2) (.t 27)⟩] (some [2]))
.ret)))), [.cell true 12 2]⟩

theorem is261 : FnIs Tryz.prog 261 x261 := ⟨Tryz.f261, _, Tryz.func261, by kernel_rfl, rfl, by kernel_rfl, by decide, by kernel_rfl⟩

/-- (*cloisonne/sess.Session).write -/
def x263 : XDecl := .code ⟨2, 
(.seq (.ops [opD 3 (.box (.t 1)),
opD 4 (.alloc [(.int .i64 0), (.int .u64 0), (.bool false), (.bool false), (.string .empty), (.int .u64 0), (.slice none 0 0), (.int .i64 0), (.int .u64 0), (.int .u64 0), (.int .u64 0), (.int .u64 0)])] (some [0, 3, 4]))
(.seq (.seq (.ops [mvD 6 0,
opD 7 (.fieldAddr 5 (.t 3)),
opD 8 (.load false 1 (.t 7)),
opD 9 (clD 351 [(.t 6), (.t 8)]),
mvD 5 9] (some [0, 3, 4, 5]))
(.seq (.ops [mvD 10 5,
opD 11 (.bin .neq 32 (.t 10) (icD 0))] (some [0, 3, 4, 5, 11]))
(.cond (.t 11)
(.seq (.ops [mvD 12 5,
opD 13 (clD 191 [(.t 12)]),
⟨none, none, .store 12 (.t 4) (.t 13)⟩] (some [4]))
.ret)
.skip)))
(.seq (.seq (.ops [opD 14 (.fieldAddr 0 (.t 3)),
opD 15 (.load false 1 (.t 14)),
opD 16 (.bin .eql 3 (.t 15) (icD 10))] (some [0, 3, 4, 16]))
(.cond (.t 16)
(.seq (.opsd [(0, 0, mvD 17 0),
(1, 1, opD 18 (.nilCheck (.t 17))),
(2, 3, opD 19 (.fieldAddr 6 (.t 18))),
(3, 7, opD 20 (.load false 1 (.t 19))),
(4, 15, opD 21 (.nilCheck (.t 20))),
(5, 31, opD 22 (.fieldAddr 1 (.t 21))),
(6, 63, opD 23 (.load false 1 (.t 22))),
(7, 0, opD 24 (.fieldAddr 6 (.t 3))),
(8, 128, opD 25 (.load false 1 (.t 24))),
(9, 511, opD 26 (clD 352 [(.t 23), (.t 25)])),
(10, 1023, opD 27 (clD 191 [(.t 26)])),
(11, 2047, ⟨none, none, .store 12 (.t 4) (.t 27)⟩)] (some [4]))
.ret)
.skip))
(.seq (.opsd [(0, 0, mvD 28 0),
(1, 1, opD 29 (.nilCheck (.t 28))),
(2, 3, opD 30 (.fieldAddr 6 (.t 29))),
(3, 7, opD 31 (.load false 1 (.t 30))),
(4, 15, opD 32 (.nilCheck (.t 31))),
(5, 31, opD 33 (.fieldAddr 1 (.t 32))),
(6, 63, opD 34 (.load false 1 (.t 33))),
(7, 0, opD 35 (.fieldAddr 6 (.t 3))),
(8, 128, opD 36 (.load false 1 (.t 35))),
(9, 0, opD 37 (.fieldAddr 7 (.t 3))),
(10, 512, opD 38 (.load true 3 (.t 37))),
(11, 2047, opD 39 (clD 353 [(.t 34), (.t 36), (.t 38)])),
(12, 4095, opD 40 (clD 191 [(.t 39)])),
(13, 8191, ⟨none, none, .store 12 (.t 4) (.t 40)⟩)] (some [4]))
.ret)))), [.cell true 12 4]⟩

theorem is263 : FnIs Tryz.prog 263 x263 := ⟨Tryz.f263, _, Tryz.func263, by kernel_rfl, rfl, by kernel_rfl, by decide, by kernel_rfl⟩

/-- (*cloisonne/tree.Tree).some -/
def x266 : XDecl := .code ⟨1, 
(.seq (.ops [opD 2 (.move (.c (.bool false)))] (some [0]))
(.seq (.ops [mvD 3 0,
opD 4 (.isNil .ptr true (.t 3)),
mvD 5 4,
⟨some 6, some (5, true), .move (.t 0)⟩,
⟨some 7, some (5, true), .nilCheck (.t 6)⟩,
⟨some 8, some (5, true), .fieldAddr 2 (.t 7)⟩,
⟨some 9, some (5, true), .load false 1 (.t 8)⟩,
⟨some 10, some (5, true), .bin .geq 3 (.t 9) (icD 0)⟩,
opD 11 (.pick (.t 5) (.t 10) (.c (.bool false))),
mvD 2 11] (some [2]))
.ret)), [.tmp 2]⟩

theorem is266 : FnIs Tryz.prog 266 x266 := ⟨Tryz.f266, _, Tryz.func266, by kernel_rfl, rfl, by kernel_rfl, by decide, by kernel_rfl⟩

/-- (*cloisonne/tree.Tree).first -/
def x267 : XDecl := .code ⟨4, 
(.seq (.ops [opD 8 (.move (.c (.string .empty))),
opD 9 (.move (icD 0)),
opD 10 (.move (.c (.bool false)))] (some [0, 1, 2, 3]))
(.seq (.ops [mvD 18 0,
opD 19 (.nilCheck (.t 18)),
opD 20 (.fieldAddr 0 (.t 19)),
opD 21 (.load false 1 (.t 20)),
mvD 22 1,
opD 23 (.indexAddr 3 (.t 21) (.t 22)),
mvD 11 23] (some [0, 2, 3, 11]))
(.seq (.seq (.ops [mvD 24 11,
opD 25 (clD 205 [(.t 24)])] (some [0, 2, 3, 11, 25]))
(.cond (.t 25)
(.seq (.ops [mvD 27 11,
opD 28 (.nilCheck (.t 27)),
opD 29 (.fieldAddr 0 (.t 28)),
opD 30 (.load false 1 (.t 29)),
mvD 31 2,
opD 32 (clD 269 [(.t 30), (.t 31)]),
mvD 26 32,
opD 33 (.extract (.t 26) 0),
opD 34 (.extract (.t 26) 1),
mvD 12 33,
mvD 13 34] (some [3, 11, 12, 13]))
(.seq (.seq (.ops [mvD 35 13,
mvD 36 35,
⟨some 37, some (36, true), .move (.t 3)⟩,
opD 38 (.pick (.t 36) (.t 37) (.c (.bool false)))] (some [11, 12, 38]))
(.cond (.t 38)
(.ops [mvD 39 12,
opD 40 (.bin .add 3 (.t 39) (icD 1)),
mvD 12 40] (some [11, 12]))
.skip))
(.seq (.seq (.ops [mvD 41 12,
mvD 42 11,
opD 43 (.nilCheck (.t 42)),
opD 44 (.fieldAddr 0 (.t 43)),
opD 45 (.load false 1 (.t 44)),
opD 46 (.len (.t 45)),
opD 47 (.bin .geq 3 (.t 41) (.t 46))] (some [11, 12, 47]))
(.cond (.t 47)
(.seq (.ops [opD 8 (.move (.c (.string .empty))),
opD 9 (.move (icD 0)),
opD 10 (.move (.c (.bool false)))] (some [8, 9, 10]))
.ret)
.skip))
(.seq (.opsr [mvD 48 11,
opD 49 (.nilCheck (.t 48)),
opD 50 (.fieldAddr 0 (.t 49)),
opD 51 (.load false 1 (.t 50)),
mvD 52 12,
opD 53 (.indexAddr 1 (.t 51) (.t 52)),
opD 54 (.load false 1 (.t 53)),
mvD 55 11,
opD 56 (.nilCheck (.t 55)),
opD 57 (.fieldAddr 1 (.t 56)),
opD 58 (.load false 1 (.t 57)),
mvD 59 12,
opD 60 (.indexAddr 1 (.t 58) (.t 59)),
opD 61 (.load false 1 (.t 60)),
mvD 8 54,
mvD 9 61,
opD 10 (.move (.c (.bool true)))] (some [8, 9, 10]))
.ret))))
.skip))
(.seq (.ops [mvD 62 11,
mvD 63 2,
opD 64 (clD 268 [(.t 62), (.t 63)]),
mvD 14 64] (some [0, 2, 3, 11, 14]))
(.seq (.seq (.ops [mvD 66 0,
mvD 67 11,
opD 68 (.nilCheck (.t 67)),
opD 69 (.fieldAddr 2 (.t 68)),
opD 70 (.load false 1 (.t 69)),
mvD 71 14,
opD 72 (.indexAddr 1 (.t 70) (.t 71)),
opD 73 (.load false 1 (.t 72)),
mvD 74 2,
mvD 75 3,
opD 76 (clD 267 [(.t 66), (.t 73), (.t 74), (.t 75)]),
mvD 65 76,
opD 77 (.extract (.t 65) 0),
opD 78 (.extract (.t 65) 1),
opD 79 (.extract (.t 65) 2),
mvD 15 77,
mvD 16 78,
mvD 17 79] (some [0, 11, 14, 15, 16, 17]))
(.seq (.ops [mvD 80 17] (some [0, 11, 14, 15, 16, 80]))
(.cond (.t 80)
(.seq (.ops [mvD 81 15,
mvD 82 16,
mvD 8 81,
mvD 9 82,
opD 10 (.move (.c (.bool true)))] (some [8, 9, 10]))
.ret)
.skip)))
(.seq (.seq (.ops [mvD 83 14,
opD 84 (.bin .add 3 (.t 83) (icD 1)),
mvD 85 11,
opD 86 (.nilCheck (.t 85)),
opD 87 (.fieldAddr 2 (.t 86)),
opD 88 (.load false 1 (.t 87)),
opD 89 (.len (.t 88)),
opD 90 (.bin .lss 3 (.t 84) (.t 89))] (some [0, 11, 14, 90]))
(.cond (.t 90)
(.seq (.ops [mvD 91 0,
mvD 92 11,
opD 93 (.nilCheck (.t 92)),
opD 94 (.fieldAddr 2 (.t 93)),
opD 95 (.load false 1 (.t 94)),
mvD 96 14,
opD 97 (.bin .add 3 (.t 96) (icD 1)),
opD 98 (.indexAddr 1 (.t 95) (.t 97)),
opD 99 (.load false 1 (.t 98)),
opD 100 (clD 358 [(.t 91), (.t 99), (.c (.bool false))]),
opD 101 (.extract (.t 100) 0),
opD 102 (.extract (.t 100) 1),
opD 103 (.extract (.t 100) 2),
mvD 8 101,
mvD 9 102,
mvD 10 103] (some [8, 9, 10]))
.ret)
.skip))
(.seq (.ops [opD 8 (.move (.c (.string .empty))),
opD 9 (.move (icD 0)),
opD 10 (.move (.c (.bool false)))] (some [8, 9, 10]))
.ret))))))), [.tmp 8, .tmp 9, .tmp 10]⟩

theorem is267 : FnIs Tryz.prog 267 x267 := ⟨Tryz.f267, _, Tryz.func267, by kernel_rfl, rfl, by kernel_rfl, by decide, by kernel_rfl⟩

/-- slices.BinarySearch[[]string,string] -/
def x269 : XDecl := .code ⟨2, 
(.seq (.ops [opD 4 (.move (icD 0)),
opD 5 (.move (.c (.bool false)))] (some [0, 1]))
(.seq (.ops [mvD 10 0,
opD 11 (.len (.t 10)),
mvD 6 11] (some [0, 1, 6]))
(.seq (.ops [mvD 12 6,
opD 7 (.move (icD 0)),
mvD 8 12] (some [0, 1, 6, 7, 8]))
(.seq (.block 0
(.loop
(.seq (.seq (.ops [mvD 13 7,
mvD 14 8,
opD 15 (.bin .lss 3 (.t 13) (.t 14))] (some [0, 1, 6, 7, 8, 15]))
(.cond (.t 15)
.skip
(.exit 0)))
(.block 1
(.seq (.ops [mvD 16 7,
mvD 17 8,
opD 18 (.bin .add 3 (.t 16) (.t 17)),
opD 19 (.conv 3 356 (.t 18)),
opD 20 (.bin .shr 356 (.t 19) (.c (.int .u64 1))),
opD 21 (.conv 356 3 (.t 20)),
mvD 9 21] (some [0, 1, 6, 7, 8, 9]))
(.seq (.ops [mvD 22 0,
mvD 23 9,
opD 24 (.indexAddr 1 (.t 22) (.t 23)),
opD 25 (.load false 1 (.t 24)),
mvD 26 1,
opD 27 (clD 318 [(.t 25), (.t 26)])] (some [0, 1, 6, 7, 8, 9, 27]))
(.cond (.t 27)
(.ops [mvD 28 9,
opD 29 (.bin .add 3 (.t 28) (icD 1)),
mvD 7 29] (some [0, 1, 6, 7, 8]))
(.ops [mvD 30 9,
mvD 8 30] (some [0, 1, 6, 7, 8])))))))))
(.seq (.ops [mvD 31 7,
mvD 32 7,
mvD 33 6,
opD 34 (.bin .lss 3 (.t 32) (.t 33)),
mvD 35 34,
⟨some 36, some (35, true), .move (.t 0)⟩,
⟨some 37, some (35, true), .move (.t 7)⟩,
⟨some 38, some (35, true), .indexAddr 1 (.t 36) (.t 37)⟩,
⟨some 39, some (35, true), .load false 1 (.t 38)⟩,
⟨some 40, some (35, true), .move (.t 1)⟩,
⟨some 41, some (35, true), .bin .eql 9 (.t 39) (.t 40)⟩,
⟨some 42, some (35, true), .move (.t 41)⟩,
⟨some 43, some (42, false), .move (.t 0)⟩,
⟨some 44, some (42, false), .move (.t 7)⟩,
⟨some 45, some (42, false), .indexAddr 1 (.t 43) (.t 44)⟩,
⟨some 46, some (42, false), .load false 1 (.t 45)⟩,
⟨some 47, some (42, false), clD 359 [(.t 46)]⟩,
⟨some 48, some (42, false), .move (.t 47)⟩,
⟨some 49, some (48, true), .move (.t 1)⟩,
⟨some 50, some (48, true), clD 359 [(.t 49)]⟩,
⟨some 51, some (42, false), .pick (.t 48) (.t 50) (.c (.bool false))⟩,
⟨some 52, some (35, true), .pick (.t 42) (.c (.bool true)) (.t 51)⟩,
opD 53 (.pick (.t 35) (.t 52) (.c (.bool false))),
mvD 4 31,
mvD 5 53] (some [4, 5]))
.ret))))), [.tmp 4, .tmp 5]⟩

theorem is269 : FnIs Tryz.prog 269 x269 := ⟨Tryz.f269, _, Tryz.func269, by kernel_rfl, rfl, by kernel_rfl, by decide, by kernel_rfl⟩

/-- cloisonne/chain.Last -/
def x270 : XDecl := .code ⟨1, 
(.seq (.ops [opD 2 (.alloc [(.int .i64 0), (.bool false), (.bool false), (.string .empty), (.int .u64 0)]),
opD 3 (.move (.c (.bool false)))] (some [0, 2]))
(.seq (.seq (.ops [mvD 4 0,
opD 5 (clD 142 [(.t 4)]),
opD 6 (.un .not (.t 5)),
mvD 7 6,
⟨some 8, some (7, false), .move (.t 0)⟩,
⟨some 9, some (7, false), .len (.t 8)⟩,
⟨some 10, some (7, false), .bin .eql 3 (.t 9) (icD 0)⟩,
opD 11 (.pick (.t 7) (.c (.bool true)) (.t 10))] (some [0, 2, 11]))
(.cond (.t 11)
(.seq (.ops [opD 12 (.build [(.int .i64 0), (.bool false), (.bool false), (.string .empty), (.int .u64 0)] [(0, 1), (1, 1), (2, 3)] []),
⟨none, none, .store 5 (.t 2) (.t 12)⟩,
opD 3 (.move (.c (.bool false)))] (some [2, 3]))
.ret)
.skip))
(.seq (.ops [mvD 13 0,
mvD 14 0,
opD 15 (.len (.t 14)),
opD 16 (.bin .sub 3 (.t 15) (icD 1)),
opD 17 (.indexAddr 5 (.t 13) (.t 16)),
opD 18 (.load true 5 (.t 17)),
⟨none, none, .store 5 (.t 2) (.t 18)⟩,
opD 3 (.move (.c (.bool true)))] (some [2, 3]))
.ret))), [.cell true 5 2, .tmp 3]⟩

theorem is270 : FnIs Tryz.prog 270 x270 := ⟨Tryz.f270, _, Tryz.func270, by kernel_rfl, rfl, by kernel_rfl, by decide, by kernel_rfl⟩

/-- cloisonne/value.Weight -/
def x271 : XDecl := .code ⟨1, 
(.seq (.ops [opD 1 (.box (.t 0)),
opD 2 (.move (icD 0))] (some [1]))
(.seq (.ops [opD 6 (.load true 3 (.t 1)),
opD 7 (clD 183 [(.t 6)]),
mvD 5 7,
opD 8 (.extract (.t 5) 0),
opD 9 (.extract (.t 5) 1),
mvD 3 8,
mvD 4 9] (some [3]))
(.seq (.ops [mvD 10 3,
opD 11 (.calcB .len [9] 3 [(.t 10)]),
mvD 2 11] (some [2]))
.ret))), [.tmp 2]⟩

theorem is271 : FnIs Tryz.prog 271 x271 := ⟨Tryz.f271, _, Tryz.func271, by kernel_rfl, rfl, by kernel_rfl, by decide, by kernel_rfl⟩

/-- (*cloisonne/vault.Vault).Free -/
def x279 : XDecl := .code ⟨2, 
(.seq (.ops [mvD 4 0,
opD 5 (.isNil .ptr true (.t 4))] (some [0, 1, 5]))
(.cond (.t 5)
(.ops [mvD 6 0,
opD 7 (.nilCheck (.t 6)),
opD 8 (.fieldAddr 8 (.t 7)),
opD 9 (.load false 1 (.t 8)),
mvD 10 1,
⟨none, none, .mapDel true (.t 9) (.t 10)⟩] (some []))
.skip)), []⟩

theorem is279 : FnIs Tryz.prog 279 x279 := ⟨Tryz.f279, _, Tryz.func279, by kernel_rfl, rfl, by kernel_rfl, by decide, by kernel_rfl⟩

/-- (*cloisonne/seglog.Writer).sector -/
def x280 : XDecl := .code ⟨1, 
(.seq (.ops [opD 2 (.move (icD 0))] (some [0]))
(.seq (.opsd [(0, 0, mvD 6 0),
(1, 1, opD 7 (.nilCheck (.t 6))),
(2, 3, opD 8 (.fieldAddr 2 (.t 7))),
(3, 7, opD 9 (.load false 1 (.t 8))),
(4, 0, mvD 10 0),
(5, 16, opD 11 (.nilCheck (.t 10))),
(6, 48, opD 12 (.fieldAddr 3 (.t 11))),
(7, 112, opD 13 (.load false 1 (.t 12))),
(8, 0, mvD 14 0),
(9, 256, opD 15 (.nilCheck (.t 14))),
(10, 768, opD 16 (.fieldAddr 5 (.t 15))),
(11, 1792, opD 17 (.load false 1 (.t 16))),
(12, 4080, opD 18 (.bin .add 3 (.t 13) (.t 17))),
(13, 0, mvD 19 0),
(14, 8192, opD 20 (.nilCheck (.t 19))),
(15, 24576, opD 21 (.fieldAddr 0 (.t 20))),
(16, 57344, opD 22 (.load false 1 (.t 21))),
(17, 122880, opD 23 (.nilCheck (.t 22))),
(18, 253952, opD 24 (.fieldAddr 5 (.t 23))),
(19, 516096, opD 25 (.load false 1 (.t 24))),
(20, 0, mvD 26 0),
(21, 1048576, opD 27 (.nilCheck (.t 26))),
(22, 3145728, opD 28 (.fieldAddr 5 (.t 27))),
(23, 7340032, opD 29 (.load false 1 (.t 28))),
(24, 0, mvD 30 0),
(25, 16777216, opD 31 (.nilCheck (.t 30))),
(26, 50331648, opD 32 (.fieldAddr 4 (.t 31))),
(27, 117440512, opD 33 (.load false 1 (.t 32))),
(28, 251658240, opD 34 (.len (.t 33))),
(29, 536870911, opD 35 (.build [(.int .i64 0), (.int .i64 0), (.int .i64 0), (.int .i64 0), (.int .i64 0)] [(0, 1), (1, 1), (2, 1), (3, 1), (4, 1)] [(0, (.t 9)), (1, (.t 18)), (2, (.t 25)), (3, (.t 29)), (4, (.t 34))])),
(30, 0, opD 3 (.alloc [(.int .i64 0), (.int .i64 0), (.int .i64 0), (.int .i64 0), (.int .i64 0)])),
(31, 2147483647, ⟨none, none, .store 5 (.t 3) (.t 35)⟩)] (some [0, 3]))
(.seq (.opsd [(0, 0, opD 37 (.load true 5 (.t 3))),
(1, 0, mvD 38 0),
(2, 2, opD 39 (.nilCheck (.t 38))),
(3, 6, opD 40 (.fieldAddr 4 (.t 39))),
(4, 14, opD 41 (.load false 1 (.t 40))),
(5, 0, mvD 42 0),
(6, 32, opD 43 (.nilCheck (.t 42))),
(7, 96, opD 44 (.fieldAddr 5 (.t 43))),
(8, 224, opD 45 (.load false 1 (.t 44))),
(9, 510, opD 46 (.indexAddr 1 (.t 41) (.t 45))),
(10, 1022, opD 47 (.load false 1 (.t 46))),
(11, 2047, opD 48 (clD 367 [(.t 37), (.t 47)])),
(12, 4095, mvD 36 48),
(13, 8191, opD 49 (.extract (.t 36) 0)),
(14, 8191, opD 50 (.extract (.t 36) 1)),
(15, 16383, mvD 4 49),
(16, 65535, mvD 5 50)] (some [0, 3, 4, 5]))
(.seq (.seq (.ops [mvD 51 5,
opD 52 (.bin .neq 32 (.t 51) (icD 0))] (some [0, 3, 4, 5, 52]))
(.cond (.t 52)
(.seq (.ops [mvD 53 5,
mvD 2 53] (some [2]))
.ret)
.skip))
(.seq (.opsd [(0, 0, mvD 54 0),
(1, 1, opD 55 (.nilCheck (.t 54))),
(2, 3, opD 56 (.fieldAddr 0 (.t 55))),
(3, 7, opD 57 (.load false 1 (.t 56))),
(4, 15, opD 58 (.nilCheck (.t 57))),
(5, 31, opD 59 (.fieldAddr 0 (.t 58))),
(6, 63, opD 60 (.load false 1 (.t 59))),
(7, 0, mvD 61 0),
(8, 128, opD 62 (.nilCheck (.t 61))),
(9, 384, opD 63 (.fieldAddr 1 (.t 62))),
(10, 896, opD 64 (.load false 1 (.t 63))),
(11, 0, opD 65 (.fieldAddr 1 (.t 3))),
(12, 2048, opD 66 (.load false 1 (.t 65))),
(13, 0, mvD 67 4),
(14, 16383, opD 68 (clD 368 [(.t 60), (.t 64), (.t 66), (.t 67)])),
(15, 32767, mvD 2 68)] (some [2]))
.ret))))), [.tmp 2]⟩

theorem is280 : FnIs Tryz.prog 280 x280 := ⟨Tryz.f280, _, Tryz.func280, by kernel_rfl, rfl, by kernel_rfl, by decide, by kernel_rfl⟩

/-- (*cloisonne/extent.World).Flush -/
def x281 : XDecl := .code ⟨2, 
(.seq (.ops [opD 4 (.move (icD 0))] (some [0, 1]))
(.seq (.seq (.ops [mvD 8 0,
mvD 9 1,
opD 10 (clD 369 [(.t 8), (.t 9), (icD 0)]),
mvD 5 10] (some [0, 1, 5]))
(.seq (.ops [mvD 11 5,
opD 12 (.bin .neq 32 (.t 11) (icD 0))] (some [0, 1, 5, 12]))
(.cond (.t 12)
(.seq (.ops [mvD 13 5,
mvD 4 13] (some [4]))
.ret)
.skip)))
(.seq (.seq (.ops [mvD 14 0,
opD 15 (.nilCheck (.t 14)),
opD 16 (.fieldAddr 3 (.t 15)),
opD 17 (.load false 1 (.t 16)),
mvD 18 1,
opD 19 (.indexAddr 1 (.t 17) (.t 18)),
opD 20 (.load false 1 (.t 19)),
opD 21 (.mapRange (.t 20))] (some [0, 1, 21]))
(.block 0
(.loop
(.seq (.ops [opD 22 (.mapNext (.t 21)),
opD 23 (.extract (.t 22) 0)] (some [0, 1, 21, 23]))
(.seq (.cond (.t 23)
.skip
(.exit 0))
(.block 1
(.seq (.ops [opD 24 (.mapEntry (.t 21)),
opD 25 (.extract (.t 24) 0),
opD 26 (.extract (.t 24) 1),
mvD 6 25,
mvD 7 26] (some [0, 1, 6, 7, 21]))
(.ops [mvD 27 0,
opD 28 (.nilCheck (.t 27)),
opD 29 (.fieldAddr 2 (.t 28)),
opD 30 (.load false 1 (.t 29)),
mvD 31 1,
opD 32 (.indexAddr 1 (.t 30) (.t 31)),
opD 33 (.load false 1 (.t 32)),
mvD 34 6,
mvD 35 7,
opD 36 (.indexAddr 1 (.t 33) (.t 34)),
⟨none, none, .store 1 (.t 36) (.t 35)⟩] (some [0, 1, 21])))))))))
(.seq (.ops [mvD 37 0,
opD 38 (.nilCheck (.t 37)),
opD 39 (.fieldAddr 3 (.t 38)),
opD 40 (.load false 1 (.t 39)),
mvD 41 1,
opD 42 (.indexAddr 1 (.t 40) (.t 41)),
opD 43 (.load false 1 (.t 42)),
⟨none, none, .mapClear (.t 43)⟩] (some []))
(.seq (.ops [opD 4 (.move (icD 0))] (some [4]))
.ret))))), [.tmp 4]⟩

theorem is281 : FnIs Tryz.prog 281 x281 := ⟨Tryz.f281, _, Tryz.func281, by kernel_rfl, rfl, by kernel_rfl, by decide, by kernel_rfl⟩

/-- (*cloisonne/seglog.Writer).install -/
def x282 : XDecl := .code ⟨1, 
(.seq (.ops [mvD 2 0,
opD 3 (.nilCheck (.t 2)),
opD 4 (.fieldAddr 6 (.t 3)),
⟨none, none, .store 1 (.t 4) (.c (.bool true))⟩] (some [0]))
(.seq (.ops [mvD 5 0,
opD 6 (.nilCheck (.t 5)),
opD 7 (.fieldAddr 0 (.t 6)),
opD 8 (.load false 1 (.t 7)),
opD 9 (.nilCheck (.t 8)),
opD 10 (.fieldAddr 6 (.t 9)),
⟨none, none, .store 1 (.t 10) (.c (.pointer none))⟩] (some [0]))
(.opsd [(0, 0, mvD 11 0),
(1, 1, opD 12 (.nilCheck (.t 11))),
(2, 3, opD 13 (.fieldAddr 0 (.t 12))),
(3, 7, opD 14 (.load false 1 (.t 13))),
(4, 0, mvD 15 0),
(5, 16, opD 16 (.nilCheck (.t 15))),
(6, 48, opD 17 (.fieldAddr 0 (.t 16))),
(7, 112, opD 18 (.load false 1 (.t 17))),
(8, 0, mvD 19 0),
(9, 256, opD 20 (.nilCheck (.t 19))),
(10, 768, opD 21 (.fieldAddr 0 (.t 20))),
(11, 1792, opD 22 (.load false 1 (.t 21))),
(12, 0, mvD 23 0),
(13, 4096, opD 24 (.nilCheck (.t 23))),
(14, 12288, opD 25 (.fieldAddr 1 (.t 24))),
(15, 28672, opD 26 (.load false 1 (.t 25))),
(16, 0, mvD 27 0),
(17, 65536, opD 28 (.nilCheck (.t 27))),
(18, 196608, opD 29 (.fieldAddr 2 (.t 28))),
(19, 458752, opD 30 (.load false 1 (.t 29))),
(20, 0, mvD 31 0),
(21, 1048576, opD 32 (.nilCheck (.t 31))),
(22, 3145728, opD 33 (.fieldAddr 3 (.t 32))),
(23, 7340032, opD 34 (.load false 1 (.t 33))),
(24, 0, mvD 35 0),
(25, 16777216, opD 36 (.nilCheck (.t 35))),
(26, 50331648, opD 37 (.fieldAddr 4 (.t 36))),
(27, 117440512, opD 38 (.load false 1 (.t 37))),
(28, 251658240, opD 39 (.len (.t 38))),
(29, 535822336, opD 40 (.bin .add 3 (.t 34) (.t 39))),
(30, 268435455, opD 41 (.nilCheck (.t 14))),
(31, 1342177279, opD 42 (.fieldAddr 2 (.t 41))),
(32, 3489660927, ⟨none, none, .store 1 (.t 42) (.t 26)⟩),
(33, 7784628223, opD 43 (.nilCheck (.t 18))),
(34, 16374562815, opD 44 (.fieldAddr 3 (.t 43))),
(35, 33554431999, ⟨none, none, .store 1 (.t 44) (.t 30)⟩),
(36, 68719476735, opD 45 (.nilCheck (.t 22))),
(37, 137438953471, opD 46 (.fieldAddr 4 (.t 45))),
(38, 274877906943, ⟨none, none, .store 1 (.t 46) (.t 40)⟩)] (some [])))), []⟩

theorem is282 : FnIs Tryz.prog 282 x282 := ⟨Tryz.f282, _, Tryz.func282, by kernel_rfl, rfl, by kernel_rfl, by decide, by kernel_rfl⟩

/-- cmp.Or[int] -/
def x283 : XDecl := .code ⟨1, 
(.seq (.ops [opD 2 (.move (icD 0))] (some [0]))
(.seq (.ops [opD 3 (.move (icD 0))] (some [0, 3]))
(.seq (.seq (.ops [mvD 6 0,
opD 7 (.len (.t 6)),
opD 8 (.move (icD 0))] (some [3, 6, 7, 8]))
(.block 0
(.loop
(.seq (.ops [opD 9 (.bin .lss 3 (.t 8) (.t 7))] (some [3, 6, 7, 8, 9]))
(.seq (.cond (.t 9)
.skip
(.exit 0))
(.seq (.block 1
(.seq (.ops [opD 10 (.indexAddr 1 (.t 6) (.t 8)),
opD 11 (.load false 1 (.t 10)),
mvD 5 11] (some [3, 5, 6, 7, 8]))
(.seq (.ops [mvD 12 5,
mvD 13 3,
opD 14 (.bin .neq 3 (.t 12) (.t 13))] (some [3, 5, 6, 7, 8, 14]))
(.cond (.t 14)
(.seq (.ops [mvD 15 5,
mvD 2 15] (some [2]))
.ret)
.skip))))
(.ops [opD 16 (.bin .add 3 (.t 8) (icD 1)),
mvD 8 16] (some [3, 6, 7, 8]))))))))
(.seq (.ops [mvD 17 3,
mvD 2 17] (some [2]))
.ret)))), [.tmp 2]⟩

theorem is283 : FnIs Tryz.prog 283 x283 := ⟨Tryz.f283, _, Tryz.func283, by kernel_rfl, rfl, by kernel_rfl, by decide, by kernel_rfl⟩

/-- slices.Compare[[]uint64,uint64] -/
def x284 : XDecl := .code ⟨2, 
(.seq (.ops [opD 4 (.move (icD 0))] (some [0, 1]))
(.seq (.seq (.ops [mvD 9 0,
opD 10 (.len (.t 9)),
opD 11 (.move (icD 0))] (some [0, 1, 9, 10, 11]))
(.block 0
(.loop
(.seq (.ops [opD 12 (.bin .lss 3 (.t 11) (.t 10))] (some [0, 1, 9, 10, 11, 12]))
(.seq (.cond (.t 12)
.skip
(.exit 0))
(.seq (.block 1
(.seq (.ops [mvD 13 11,
opD 14 (.indexAddr 1 (.t 9) (.t 11)),
opD 15 (.load false 1 (.t 14)),
mvD 5 13,
mvD 6 15] (some [0, 1, 5, 6, 9, 10, 11]))
(.seq (.seq (.ops [mvD 16 5,
mvD 17 1,
opD 18 (.len (.t 17)),
opD 19 (.bin .geq 3 (.t 16) (.t 18))] (some [0, 1, 5, 6, 9, 10, 11, 19]))
(.cond (.t 19)
(.seq (.ops [opD 4 (.move (icD 1))] (some [4]))
.ret)
.skip))
(.seq (.ops [mvD 20 1,
mvD 21 5,
opD 22 (.indexAddr 1 (.t 20) (.t 21)),
opD 23 (.load false 1 (.t 22)),
mvD 7 23] (some [0, 1, 6, 7, 9, 10, 11]))
(.seq (.ops [mvD 24 6,
mvD 25 7,
opD 26 (clD 370 [(.t 24), (.t 25)]),
mvD 8 26] (some [0, 1, 8, 9, 10, 11]))
(.seq (.ops [mvD 27 8,
opD 28 (.bin .neq 3 (.t 27) (icD 0))] (some [0, 1, 8, 9, 10, 11, 28]))
(.cond (.t 28)
(.seq (.ops [mvD 29 8,
mvD 4 29] (some [4]))
.ret)
.skip)))))))
(.ops [opD 30 (.bin .add 3 (.t 11) (icD 1)),
mvD 11 30] (some [0, 1, 9, 10, 11]))))))))
(.seq (.seq (.ops [mvD 31 0,
opD 32 (.len (.t 31)),
mvD 33 1,
opD 34 (.len (.t 33)),
opD 35 (.bin .lss 3 (.t 32) (.t 34))] (some [35]))
(.cond (.t 35)
(.seq (.ops [opD 4 (.move (icD (-1)))] (some [4]))
.ret)
.skip))
(.seq (.ops [opD 4 (.move (icD 0))] (some [4]))
.ret)))), [.tmp 4]⟩

theorem is284 : FnIs Tryz.prog 284 x284 := ⟨Tryz.f284, _, Tryz.func284, by kernel_rfl, rfl, by kernel_rfl, by decide, by kernel_rfl⟩

/-- cloisonne/room.within -/
def x285 : XDecl := .code ⟨3, 
(.seq (.ops [opD 6 (.move (.c (.bool false)))] (some [0, 1, 2]))
(.seq (.ops [mvD 7 0,
mvD 8 1,
opD 9 (.bin .geq 3 (.t 7) (.t 8)),
mvD 10 9,
⟨some 11, some (10, true), .move (.t 0)⟩,
⟨some 12, some (10, true), .move (.t 2)⟩,
⟨some 13, some (10, true), .bin .leq 3 (.t 11) (.t 12)⟩,
opD 14 (.pick (.t 10) (.t 13) (.c (.bool false))),
mvD 6 14] (some [6]))
.ret)), [.tmp 6]⟩

theorem is285 : FnIs Tryz.prog 285 x285 := ⟨Tryz.f285, _, Tryz.func285, by kernel_rfl, rfl, by kernel_rfl, by decide, by kernel_rfl⟩

/-- slices.IndexFunc[[]cloisonne/api.Room,cloisonne/api.Room] -/
def x286 : XDecl := .code ⟨2, 
(.seq (.ops [opD 4 (.move (icD 0))] (some [0, 1]))
(.seq (.seq (.ops [mvD 6 0,
opD 7 (.len (.t 6)),
opD 8 (.move (icD 0))] (some [0, 1, 7, 8]))
(.block 0
(.loop
(.seq (.ops [opD 9 (.bin .lss 3 (.t 8) (.t 7))] (some [0, 1, 7, 8, 9]))
(.seq (.cond (.t 9)
.skip
(.exit 0))
(.seq (.block 1
(.seq (.ops [mvD 10 8,
mvD 5 10] (some [0, 1, 5, 7, 8]))
(.seq (.ops [mvD 11 1,
mvD 12 0,
mvD 13 5,
opD 14 (.indexAddr 4 (.t 12) (.t 13)),
opD 15 (.load true 4 (.t 14)),
opD 16 (.call (.t 11) [(.t 15)])] (some [0, 1, 5, 7, 8, 16]))
(.cond (.t 16)
(.seq (.ops [mvD 17 5,
mvD 4 17] (some [4]))
.ret)
.skip))))
(.ops [opD 18 (.bin .add 3 (.t 8) (icD 1)),
mvD 8 18] (some [0, 1, 7, 8]))))))))
(.seq (.ops [opD 4 (.move (icD (-1)))] (some [4]))
.ret))), [.tmp 4]⟩

theorem is286 : FnIs Tryz.prog 286 x286 := ⟨Tryz.f286, _, Tryz.func286, by kernel_rfl, rfl, by kernel_rfl, by decide, by kernel_rfl⟩

/-- cloisonne/seglog.look -/
def x287 : XDecl := .code ⟨2, 
(.seq (.ops [opD 4 (.alloc [(.slice none 0 0), (.slice none 0 0), (.slice none 0 0), (.int .i64 0)])] (some [0, 1, 4]))
(.seq (.ops [opD 5 (.alloc [(.slice none 0 0), (.slice none 0 0), (.slice none 0 0), (.int .i64 0)])] (some [0, 1, 4, 5]))
(.seq (.seq (.ops [mvD 12 0,
opD 13 (clD 156 [(.t 12)]),
opD 14 (.move (icD 0))] (some [0, 1, 4, 5, 13, 14]))
(.block 0
(.loop
(.seq (.ops [opD 15 (.bin .lss 3 (.t 14) (.t 13))] (some [0, 1, 4, 5, 13, 14, 15]))
(.seq (.cond (.t 15)
.skip
(.exit 0))
(.seq (.block 1
(.seq (.ops [mvD 16 14,
mvD 6 16] (some [0, 1, 4, 5, 6, 13, 14]))
(.seq (.ops [mvD 18 0,
mvD 19 1,
mvD 20 6,
opD 21 (clD 371 [(.t 18), (.t 19), (.t 20)]),
mvD 17 21,
opD 22 (.extract (.t 17) 0),
opD 23 (.extract (.t 17) 1),
mvD 7 22,
mvD 8 23] (some [0, 1, 4, 5, 7, 13, 14]))
(.seq (.ops [mvD 25 7,
opD 26 (clD 372 [(.t 25)]),
mvD 24 26,
opD 27 (.extract (.t 24) 0),
opD 28 (.extract (.t 24) 1),
opD 29 (.extract (.t 24) 2),
opD 9 (.alloc [(.int .i64 0), (.int .i64 0), (.int .i64 0), (.int .i64 0), (.int .i64 0)]),
⟨none, none, .store 5 (.t 9) (.t 27)⟩,
mvD 10 28,
mvD 11 29] (some [0, 1, 4, 5, 9, 10, 11, 13, 14]))
(.seq (.ops [opD 30 (.fieldAddr 0 (.t 5)),
opD 31 (.load false 1 (.t 30)),
opD 32 (.load true 5 (.t 9)),
opD 33 (.buildSlice [(.int .i64 0), (.int .i64 0), (.int .i64 0), (.int .i64 0), (.int .i64 0)] 5 1 [(0, (.t 32))]),
opD 34 (.append 5 40 [(.int .i64 0), (.int .i64 0), (.int .i64 0), (.int .i64 0), (.int .i64 0)] (.t 31) (.t 33)),
opD 35 (.fieldAddr 0 (.t 5)),
⟨none, none, .store 1 (.t 35) (.t 34)⟩] (some [0, 1, 4, 5, 9, 10, 11, 13, 14]))
(.seq (.ops [opD 36 (.fieldAddr 1 (.t 5)),
opD 37 (.load false 1 (.t 36)),
mvD 38 10,
opD 39 (.buildSlice [(.string .empty)] 1 1 [(0, (.t 38))]),
opD 40 (.append 1 16 [(.string .empty)] (.t 37) (.t 39)),
opD 41 (.fieldAddr 1 (.t 5)),
⟨none, none, .store 1 (.t 41) (.t 40)⟩] (some [0, 1, 4, 5, 9, 11, 13, 14]))
(.seq (.ops [opD 42 (.fieldAddr 2 (.t 5)),
opD 43 (.load false 1 (.t 42)),
mvD 44 11,
opD 45 (.bin .eql 32 (.t 44) (icD 0)),
opD 46 (.buildSlice [(.bool false)] 1 1 [(0, (.t 45))]),
opD 47 (.append 1 1 [(.bool false)] (.t 43) (.t 46)),
opD 48 (.fieldAddr 2 (.t 5)),
⟨none, none, .store 1 (.t 48) (.t 47)⟩] (some [0, 1, 4, 5, 9, 13, 14]))
(.ops [opD 49 (.fieldAddr 3 (.t 5)),
opD 50 (.load false 1 (.t 49)),
opD 51 (.fieldAddr 2 (.t 9)),
opD 52 (.load false 1 (.t 51)),
opD 53 (.calcB .max [3, 3] 3 [(.t 50), (.t 52)]),
opD 54 (.fieldAddr 3 (.t 5)),
⟨none, none, .store 1 (.t 54) (.t 53)⟩] (some [0, 1, 4, 5, 13, 14])))))))))
(.ops [opD 55 (.bin .add 3 (.t 14) (icD 1)),
mvD 14 55] (some [0, 1, 4, 5, 13, 14]))))))))
(.seq (.ops [opD 56 (.load true 4 (.t 5)),
⟨none, none, .store 4 (.t 4) (.t 56)⟩] (some [4]))
.ret)))), [.cell true 4 4]⟩

theorem is287 : FnIs Tryz.prog 287 x287 := ⟨Tryz.f287, _, Tryz.func287, by kernel_rfl, rfl, by kernel_rfl, by decide, by kernel_rfl⟩

/-- cloisonne/record.tell -/
def x290 : XDecl := .code ⟨2, 
(.seq (.ops [opD 4 (.move (.c (.string .empty)))] (some [0, 1]))
(.seq (.ops [mvD 8 0,
mvD 9 1,
opD 10 (clD 126 [(.t 8), (.t 9)]),
mvD 7 10,
opD 11 (.extract (.t 7) 0),
opD 12 (.extract (.t 7) 1),
mvD 5 11,
mvD 6 12] (some [5, 6]))
(.seq (.ops [mvD 13 6,
opD 14 (.bin .eql 32 (.t 13) (icD 0)),
opD 15 (clD 300 [(.t 14)])] (some [5]))
(.seq (.ops [mvD 16 5,
mvD 4 16] (some [4]))
.ret)))), [.tmp 4]⟩

theorem is290 : FnIs Tryz.prog 290 x290 := ⟨Tryz.f290, _, Tryz.func290, by kernel_rfl, rfl, by kernel_rfl, by decide, by kernel_rfl⟩

/-- cloisonne/record.number -/
def x291 : XDecl := .code ⟨1, 
(.seq (.ops [opD 2 (.alloc [(.int .u64 0), (.string .empty), (.slice none 0 0), (.slice none 0 0)])] (some [0, 2]))
(.seq (.ops [mvD 3 0,
opD 4 (.conv 3 77 (.t 3)),
opD 5 (.build [(.int .u64 0), (.string .empty), (.slice none 0 0), (.slice none 0 0)] [(0, 1), (1, 1), (2, 1), (3, 1)] [(0, (.t 4))]),
⟨none, none, .store 4 (.t 2) (.t 5)⟩] (some [2]))
.ret)), [.cell true 4 2]⟩

theorem is291 : FnIs Tryz.prog 291 x291 := ⟨Tryz.f291, _, Tryz.func291, by kernel_rfl, rfl, by kernel_rfl, by decide, by kernel_rfl⟩

/-- (*cloisonne/caps.Table).Tags -/
def x292 : XDecl := .code ⟨1, 
(.seq (.ops [opD 2 (.move (icD 0))] (some [0]))
(.seq (.seq (.ops [mvD 3 0,
opD 4 (.isNil .ptr false (.t 3))] (some [0, 4]))
(.cond (.t 4)
(.seq (.ops [opD 2 (.move (icD 0))] (some [2]))
.ret)
.skip))
(.seq (.ops [mvD 5 0,
opD 6 (.nilCheck (.t 5)),
opD 7 (.fieldAddr 0 (.t 6)),
opD 8 (.load false 1 (.t 7)),
mvD 2 8] (some [2]))
.ret))), [.tmp 2]⟩

theorem is292 : FnIs Tryz.prog 292 x292 := ⟨Tryz.f292, _, Tryz.func292, by kernel_rfl, rfl, by kernel_rfl, by decide, by kernel_rfl⟩

/-- (*cloisonne/caps.Table).Masks -/
def x293 : XDecl := .code ⟨1, 
(.seq (.ops [opD 2 (.move (.c (.slice none 0 0))),
opD 3 (.move (.c (.slice none 0 0)))] (some [0]))
(.seq (.seq (.ops [mvD 8 0,
opD 9 (.isNil .ptr false (.t 8))] (some [0, 9]))
(.cond (.t 9)
(.seq (.ops [opD 2 (.move (.c (.slice none 0 0))),
opD 3 (.move (.c (.slice none 0 0)))] (some [2, 3]))
.ret)
.skip))
(.seq (.ops [opD 4 (.move (.c (.slice none 0 0))),
opD 5 (.move (.c (.slice none 0 0)))] (some [0, 4, 5]))
(.seq (.seq (.ops [mvD 10 0,
opD 11 (.nilCheck (.t 10)),
opD 12 (.fieldAddr 1 (.t 11)),
opD 13 (.load false 1 (.t 12)),
opD 14 (.len (.t 13)),
opD 15 (.move (icD 0))] (some [4, 5, 13, 14, 15]))
(.block 0
(.loop
(.seq (.ops [opD 16 (.bin .lss 3 (.t 15) (.t 14))] (some [4, 5, 13, 14, 15, 16]))
(.seq (.cond (.t 16)
.skip
(.exit 0))
(.seq (.block 1
(.seq (.ops [opD 17 (.indexAddr 2 (.t 13) (.t 15)),
opD 18 (.load true 2 (.t 17)),
opD 7 (.alloc [(.int .u64 0), (.int .u64 0)]),
⟨none, none, .store 2 (.t 7) (.t 18)⟩] (some [4, 5, 7, 13, 14, 15]))
(.seq (.ops [mvD 19 4,
opD 20 (.fieldAddr 0 (.t 7)),
opD 21 (.load false 1 (.t 20)),
opD 22 (.buildSlice [(.int .u64 0)] 1 1 [(0, (.t 21))]),
opD 23 (.append 1 8 [(.int .u64 0)] (.t 19) (.t 22)),
mvD 4 23] (some [4, 5, 7, 13, 14, 15]))
(.ops [mvD 24 5,
opD 25 (.fieldAddr 1 (.t 7)),
opD 26 (.load false 1 (.t 25)),
opD 27 (.buildSlice [(.int .u64 0)] 1 1 [(0, (.t 26))]),
opD 28 (.append 1 8 [(.int .u64 0)] (.t 24) (.t 27)),
mvD 5 28] (some [4, 5, 13, 14, 15])))))
(.ops [opD 29 (.bin .add 3 (.t 15) (icD 1)),
mvD 15 29] (some [4, 5, 13, 14, 15]))))))))
(.seq (.ops [mvD 30 4,
mvD 31 5,
mvD 2 30,
mvD 3 31] (some [2, 3]))
.ret))))), [.tmp 2, .tmp 3]⟩

theorem is293 : FnIs Tryz.prog 293 x293 := ⟨Tryz.f293, _, Tryz.func293, by kernel_rfl, rfl, by kernel_rfl, by decide, by kernel_rfl⟩

/-- (*cloisonne/seglog.Log).Base -/
def x294 : XDecl := .code ⟨2, 
(.seq (.ops [opD 4 (.move (.c (.pointer none))),
opD 5 (.move (icD 0))] (some [0, 1]))
(.seq (.block 0
(.seq (.ops [mvD 7 0,
opD 8 (.isNil .ptr false (.t 7)),
mvD 6 8] (some [0, 1, 6]))
(.cond (.t 6)
(.seq (.ops [opD 4 (.move (.c (.pointer none))),
opD 5 (.move (icD 2))] (some [4, 5]))
.ret)
(.seq (.ops [mvD 10 0,
opD 11 (clD 374 [(.t 10)]),
mvD 9 11] (some [0, 1, 9]))
(.cond (.t 9)
(.seq (.ops [opD 4 (.move (.c (.pointer none))),
opD 5 (.move (icD 9))] (some [4, 5]))
.ret)
(.seq (.ops [mvD 13 0,
mvD 14 1,
opD 15 (.calcB .len [9] 3 [(.t 14)]),
opD 16 (clD 375 [(.t 13), (.t 15), (icD 0)]),
opD 17 (.un .not (.t 16)),
mvD 12 17] (some [0, 1, 12]))
(.cond (.t 12)
(.seq (.ops [opD 4 (.move (.c (.pointer none))),
opD 5 (.move (icD 16))] (some [4, 5]))
.ret)
.skip)))))))
(.seq (.opsd [(0, 0, mvD 18 0),
(1, 0, mvD 19 0),
(2, 2, opD 20 (.nilCheck (.t 19))),
(3, 6, opD 21 (.fieldAddr 1 (.t 20))),
(4, 14, opD 22 (.load false 1 (.t 21))),
(5, 30, opD 23 (.bin .mul 3 (icD 2) (.t 22))),
(6, 62, opD 24 (.bin .add 3 (.t 23) (icD 1))),
(7, 0, mvD 25 0),
(8, 128, opD 26 (.nilCheck (.t 25))),
(9, 384, opD 27 (.fieldAddr 2 (.t 26))),
(10, 896, opD 28 (.load false 1 (.t 27))),
(11, 2046, opD 29 (.bin .sub 3 (.t 24) (.t 28))),
(12, 0, mvD 30 0),
(13, 4096, opD 31 (.nilCheck (.t 30))),
(14, 12288, opD 32 (.fieldAddr 3 (.t 31))),
(15, 28672, opD 33 (.load false 1 (.t 32))),
(16, 61440, opD 34 (.bin .add 3 (.t 33) (icD 1))),
(17, 0, mvD 35 1),
(18, 131072, opD 36 (clD 377 [(.t 35)])),
(19, 524286, opD 37 (.build [(.pointer none), (.int .i64 0), (.int .i64 0), (.int .i64 0), (.slice none 0 0), (.int .i64 0), (.bool false)] [(0, 1), (1, 1), (2, 1), (3, 1), (4, 1), (5, 1), (6, 1)] [(1, (.t 29)), (2, (.t 34)), (4, (.t 36))])),
(20, 1048574, opD 38 (.box (.t 37))),
(21, 2097151, opD 39 (clD 376 [(.t 18), (.t 38)])),
(22, 4194303, opD 40 (.extract (.t 39) 0)),
(23, 4194303, opD 41 (.extract (.t 39) 1)),
(24, 16777215, mvD 4 40),
(25, 33554431, mvD 5 41)] (some [4, 5]))
.ret))), [.tmp 4, .tmp 5]⟩

theorem is294 : FnIs Tryz.prog 294 x294 := ⟨Tryz.f294, _, Tryz.func294, by kernel_rfl, rfl, by kernel_rfl, by decide, by kernel_rfl⟩

/-- (*cloisonne/caps.Table).People -/
def x296 : XDecl := .code ⟨1, 
(.seq (.ops [opD 2 (.move (icD 0))] (some [0]))
(.seq (.seq (.ops [mvD 3 0,
opD 4 (.isNil .ptr false (.t 3))] (some [0, 4]))
(.cond (.t 4)
(.seq (.ops [opD 2 (.move (icD 0))] (some [2]))
.ret)
.skip))
(.seq (.ops [mvD 5 0,
opD 6 (.nilCheck (.t 5)),
opD 7 (.fieldAddr 1 (.t 6)),
opD 8 (.load false 1 (.t 7)),
opD 9 (.len (.t 8)),
mvD 2 9] (some [2]))
.ret))), [.tmp 2]⟩

theorem is296 : FnIs Tryz.prog 296 x296 := ⟨Tryz.f296, _, Tryz.func296, by kernel_rfl, rfl, by kernel_rfl, by decide, by kernel_rfl⟩

/-- cloisonne/room.open -/
def x299 : XDecl := .code ⟨2, 
(.seq (.ops [opD 2 (.box (.t 0)),
opD 4 (.move (.c (.pointer none))),
opD 5 (.move (icD 0))] (some [1, 2]))
(.seq (.seq (.ops [opD 8 (.load true 4 (.t 2)),
opD 9 (clD 217 [(.t 8)]),
opD 10 (.un .not (.t 9)),
mvD 11 10,
⟨some 12, some (11, false), .move (.t 1)⟩,
⟨some 13, some (11, false), .fieldAddr 3 (.t 2)⟩,
⟨some 14, some (11, false), .load false 1 (.t 13)⟩,
⟨some 15, some (11, false), clD 285 [(.t 12), (icD 0), (.t 14)]⟩,
⟨some 16, some (11, false), .un .not (.t 15)⟩,
opD 17 (.pick (.t 11) (.c (.bool true)) (.t 16))] (some [1, 2, 17]))
(.cond (.t 17)
(.seq (.ops [opD 4 (.move (.c (.pointer none))),
opD 5 (.move (icD 1))] (some [4, 5]))
.ret)
.skip))
(.seq (.ops [opD 19 (.fieldAddr 1 (.t 2)),
opD 20 (.load false 1 (.t 19)),
mvD 21 1,
opD 22 (clD 383 [(.t 20), (.t 21)]),
mvD 18 22,
opD 23 (.extract (.t 18) 0),
opD 24 (.extract (.t 18) 1),
mvD 6 23,
mvD 7 24] (some [2, 6, 7]))
(.seq (.seq (.ops [mvD 25 7,
opD 26 (.bin .neq 32 (.t 25) (icD 0))] (some [2, 6, 7, 26]))
(.cond (.t 26)
(.seq (.ops [mvD 27 7,
opD 4 (.move (.c (.pointer none))),
mvD 5 27] (some [4, 5]))
.ret)
.skip))
(.seq (.ops [opD 28 (.fieldAddr 0 (.t 2)),
opD 29 (.load false 1 (.t 28)),
opD 30 (clD 136 [(.t 29)]),
opD 31 (.fieldAddr 0 (.t 2)),
⟨none, none, .store 1 (.t 31) (.t 30)⟩] (some [2, 6]))
(.seq (.opsd [(0, 0, opD 32 (.load true 4 (.t 2))),
(1, 0, mvD 33 6),
(2, 0, opD 34 (clD 384 [])),
(3, 7, opD 35 (.build [(.slice none 0 0), (.int .i64 0), (.int .i64 0), (.int .i64 0), (.pointer none), (.pointer none), (.slice none 0 0), (.slice none 0 0), (.int .i64 0), (.int .i64 0), (.int .i64 0)] [(0, 4), (4, 1), (5, 1), (6, 1), (7, 1), (8, 1), (9, 1), (10, 1)] [(0, (.t 32)), (1, (.t 33)), (2, (.t 34))])),
(4, 15, opD 36 (.box (.t 35))),
(5, 31, mvD 4 36),
(6, 63, opD 5 (.move (icD 0)))] (some [4, 5]))
.ret)))))), [.tmp 4, .tmp 5]⟩

theorem is299 : FnIs Tryz.prog 299 x299 := ⟨Tryz.f299, _, Tryz.func299, by kernel_rfl, rfl, by kernel_rfl, by decide, by kernel_rfl⟩

/-- cloisonne/record.must -/
def x300 : XDecl := .code ⟨1, 
(.seq (.ops [mvD 2 0,
opD 3 (.un .not (.t 2))] (some [3]))
(.cond (.t 3)
(.ops [opD 4 (.build [] [] []),
opD 5 (.makeIface 507 (.t 4)),
⟨none, none, .fail⟩] (some []))
.skip)), []⟩

theorem is300 : FnIs Tryz.prog 300 x300 := ⟨Tryz.f300, _, Tryz.func300, by kernel_rfl, rfl, by kernel_rfl, by decide, by kernel_rfl⟩

/-- cloisonne/record.based -/
def x301 : XDecl := .code ⟨2, 
(.seq (.ops [opD 4 (.move (.c (.bool false)))] (some [0, 1]))
(.seq (.seq (.ops [mvD 7 1,
opD 8 (.len (.t 7)),
opD 9 (.move (icD 0))] (some [0, 1, 7, 8, 9]))
(.block 0
(.loop
(.seq (.ops [opD 10 (.bin .lss 3 (.t 9) (.t 8))] (some [0, 1, 7, 8, 9, 10]))
(.seq (.cond (.t 10)
.skip
(.exit 0))
(.seq (.block 1
(.seq (.ops [mvD 11 9,
opD 12 (.indexAddr 5 (.t 7) (.t 9)),
opD 13 (.load true 5 (.t 12)),
opD 6 (.alloc [(.string .empty), (.int .i64 0), (.bool false), (.string .empty), (.int .u64 0)]),
mvD 5 11,
⟨none, none, .store 5 (.t 6) (.t 13)⟩] (some [0, 1, 5, 6, 7, 8, 9]))
(.seq (.opsd [(0, 0, opD 14 (.fieldAddr 0 (.t 6))),
(1, 1, opD 15 (.load false 1 (.t 14))),
(2, 3, opD 16 (.bin .eql 9 (.t 15) (.c (.string .empty)))),
(3, 7, mvD 17 16),
(4, 15, ⟨some 18, some (17, false), .fieldAddr 0 (.t 6)⟩),
(5, 31, ⟨some 19, some (17, false), .load false 1 (.t 18)⟩),
(6, 63, ⟨some 20, some (17, false), .calcB .len [9] 3 [(.t 19)]⟩),
(7, 127, ⟨some 21, some (17, false), .bin .gtr 3 (.t 20) (icD 32)⟩),
(8, 255, opD 22 (.pick (.t 17) (.c (.bool true)) (.t 21))),
(9, 511, mvD 23 22),
(10, 1023, ⟨some 24, some (23, false), .fieldAddr 1 (.t 6)⟩),
(11, 2047, ⟨some 25, some (23, false), .load false 1 (.t 24)⟩),
(12, 4095, ⟨some 26, some (23, false), .bin .lss 3 (.t 25) (icD 1)⟩),
(13, 8191, opD 27 (.pick (.t 23) (.c (.bool true)) (.t 26))),
(14, 16383, mvD 28 27),
(15, 32767, ⟨some 29, some (28, false), .fieldAddr 1 (.t 6)⟩),
(16, 65535, ⟨some 30, some (28, false), .load false 1 (.t 29)⟩),
(17, 32767, ⟨some 31, some (28, false), .move (.t 0)⟩),
(18, 262143, ⟨some 32, some (28, false), .bin .gtr 3 (.t 30) (.t 31)⟩),
(19, 524287, opD 33 (.pick (.t 28) (.c (.bool true)) (.t 32))),
(20, 1048575, mvD 34 33),
(21, 2097151, ⟨some 35, some (34, false), .fieldAddr 2 (.t 6)⟩),
(22, 4194303, ⟨some 36, some (34, false), .load true 3 (.t 35)⟩),
(23, 8388607, ⟨some 37, some (34, false), clD 116 [(.t 36)]⟩),
(24, 16777215, ⟨some 38, some (34, false), .un .not (.t 37)⟩),
(25, 33554431, opD 39 (.pick (.t 34) (.c (.bool true)) (.t 38))),
(26, 67108863, mvD 40 39),
(27, 134217727, ⟨some 41, some (40, false), .move (.t 5)⟩),
(28, 268435455, ⟨some 42, some (40, false), .bin .gtr 3 (.t 41) (icD 0)⟩),
(29, 536870911, ⟨some 43, some (40, false), .move (.t 42)⟩),
(30, 1073741823, ⟨some 44, some (43, true), .move (.t 1)⟩),
(31, 1073741823, ⟨some 45, some (43, true), .move (.t 5)⟩),
(32, 3221225471, ⟨some 46, some (43, true), .bin .sub 3 (.t 45) (icD 1)⟩),
(33, 8589934591, ⟨some 47, some (43, true), .indexAddr 5 (.t 44) (.t 46)⟩),
(34, 17179869183, ⟨some 48, some (43, true), .fieldAddr 0 (.t 47)⟩),
(35, 34359738367, ⟨some 49, some (43, true), .load false 1 (.t 48)⟩),
(36, 1073741823, ⟨some 50, some (43, true), .fieldAddr 0 (.t 6)⟩),
(37, 69793218559, ⟨some 51, some (43, true), .load false 1 (.t 50)⟩),
(38, 274877906943, ⟨some 52, some (43, true), .bin .geq 9 (.t 49) (.t 51)⟩),
(39, 549755813887, ⟨some 53, some (40, false), .pick (.t 43) (.t 52) (.c (.bool false))⟩),
(40, 1099511627775, opD 54 (.pick (.t 40) (.c (.bool true)) (.t 53)))] (some [0, 1, 7, 8, 9, 54]))
(.cond (.t 54)
(.seq (.ops [opD 4 (.move (.c (.bool false)))] (some [4]))
.ret)
.skip))))
(.ops [opD 55 (.bin .add 3 (.t 9) (icD 1)),
mvD 9 55] (some [0, 1, 7, 8, 9]))))))))
(.seq (.ops [mvD 56 0,
opD 57 (.bin .geq 3 (.t 56) (icD 0)),
mvD 58 57,
⟨some 59, some (58, true), .move (.t 0)⟩,
⟨some 60, some (58, true), .bin .leq 3 (.t 59) (icD 1073741824)⟩,
opD 61 (.pick (.t 58) (.t 60) (.c (.bool false))),
mvD 4 61] (some [4]))
.ret))), [.tmp 4]⟩

theorem is301 : FnIs Tryz.prog 301 x301 := ⟨Tryz.f301, _, Tryz.func301, by kernel_rfl, rfl, by kernel_rfl, by decide, by kernel_rfl⟩

/-- cloisonne/record.bytes -/
def x302 : XDecl := .code ⟨2, 
(.seq (.ops [opD 2 (.box (.t 0)),
opD 4 (.move (.c (.string .empty)))] (some [1, 2]))
(.seq (.seq (.ops [mvD 7 1] (some [2, 7]))
(.cond (.t 7)
(.seq (.ops [opD 4 (.move (.c (.string .empty)))] (some [4]))
.ret)
.skip))
(.seq (.ops [opD 9 (.load true 3 (.t 2)),
opD 10 (clD 183 [(.t 9)]),
mvD 8 10,
opD 11 (.extract (.t 8) 0),
opD 12 (.extract (.t 8) 1),
mvD 5 11,
mvD 6 12] (some [5, 6]))
(.seq (.ops [mvD 13 6,
opD 14 (.bin .eql 32 (.t 13) (icD 0)),
opD 15 (clD 300 [(.t 14)])] (some [5]))
(.seq (.ops [mvD 16 5,
mvD 4 16] (some [4]))
.ret))))), [.tmp 4]⟩

theorem is302 : FnIs Tryz.prog 302 x302 := ⟨Tryz.f302, _, Tryz.func302, by kernel_rfl, rfl, by kernel_rfl, by decide, by kernel_rfl⟩

/-- (*cloisonne/room.Room).Seq -/
def x306 : XDecl := .code ⟨1, 
(.seq (.ops [opD 2 (.move (icD 0))] (some [0]))
(.seq (.seq (.ops [mvD 3 0,
opD 4 (.isNil .ptr false (.t 3))] (some [0, 4]))
(.cond (.t 4)
(.seq (.ops [opD 2 (.move (icD 0))] (some [2]))
.ret)
.skip))
(.seq (.ops [mvD 5 0,
opD 6 (.nilCheck (.t 5)),
opD 7 (.fieldAddr 4 (.t 6)),
opD 8 (.load false 1 (.t 7)),
opD 9 (clD 389 [(.t 8)]),
mvD 2 9] (some [2]))
.ret))), [.tmp 2]⟩

theorem is306 : FnIs Tryz.prog 306 x306 := ⟨Tryz.f306, _, Tryz.func306, by kernel_rfl, rfl, by kernel_rfl, by decide, by kernel_rfl⟩

/-- (*cloisonne/room.Room).Commit -/
def x307 : XDecl := .code ⟨3, 
(.seq (.ops [opD 6 (.move (icD 0)),
opD 7 (.move (icD 0))] (some [0, 1, 2]))
(.seq (.block 0
(.seq (.ops [mvD 15 0,
opD 16 (.isNil .ptr false (.t 15)),
mvD 14 16] (some [0, 1, 2, 14]))
(.cond (.t 14)
(.seq (.ops [opD 6 (.move (icD 0)),
opD 7 (.move (icD 2))] (some [6, 7]))
.ret)
(.seq (.ops [mvD 18 1,
opD 19 (clD 390 [(.t 18)]),
opD 20 (.un .not (.t 19)),
mvD 17 20] (some [0, 1, 2, 17]))
(.cond (.t 17)
(.seq (.ops [opD 6 (.move (icD 0)),
opD 7 (.move (icD 1))] (some [6, 7]))
.ret)
.skip)))))
(.seq (.seq (.ops [mvD 21 0,
mvD 22 1,
opD 23 (clD 391 [(.t 21), (.t 22)]),
mvD 8 23] (some [0, 1, 2, 8]))
(.seq (.ops [mvD 24 8,
opD 25 (.bin .neq 32 (.t 24) (icD 0))] (some [0, 1, 2, 8, 25]))
(.cond (.t 25)
(.seq (.ops [mvD 26 8,
opD 6 (.move (icD 0)),
mvD 7 26] (some [6, 7]))
.ret)
.skip)))
(.seq (.ops [mvD 28 0,
opD 29 (.nilCheck (.t 28)),
opD 30 (.fieldAddr 4 (.t 29)),
opD 31 (.load false 1 (.t 30)),
mvD 32 2,
opD 33 (clD 392 [(.t 31), (.t 32)]),
mvD 27 33,
opD 34 (.extract (.t 27) 0),
opD 35 (.extract (.t 27) 1),
mvD 9 34,
mvD 10 35] (some [0, 1, 9, 10]))
(.seq (.seq (.ops [mvD 36 10,
opD 37 (.bin .neq 32 (.t 36) (icD 0))] (some [0, 1, 9, 10, 37]))
(.cond (.t 37)
(.seq (.ops [mvD 38 10,
opD 6 (.move (icD 0)),
mvD 7 38] (some [6, 7]))
.ret)
.skip))
(.seq (.seq (.ops [mvD 39 1,
opD 40 (.len (.t 39)),
opD 41 (.move (icD 0))] (some [0, 9, 39, 40, 41]))
(.block 1
(.loop
(.seq (.ops [opD 42 (.bin .lss 3 (.t 41) (.t 40))] (some [0, 9, 39, 40, 41, 42]))
(.seq (.cond (.t 42)
.skip
(.exit 1))
(.seq (.block 2
(.seq (.ops [opD 43 (.indexAddr 5 (.t 39) (.t 41)),
opD 44 (.load true 5 (.t 43)),
opD 12 (.alloc [(.string .empty), (.bool false), (.bool false), (.string .empty), (.int .u64 0)]),
⟨none, none, .store 5 (.t 12) (.t 44)⟩] (some [0, 9, 12, 39, 40, 41]))
(.seq (.ops [mvD 45 0,
opD 46 (.fieldAddr 0 (.t 12)),
opD 47 (.load false 1 (.t 46)),
mvD 48 9,
opD 49 (.fieldAddr 1 (.t 12)),
opD 50 (.load false 1 (.t 49)),
opD 51 (.fieldAddr 2 (.t 12)),
opD 52 (.load true 3 (.t 51)),
opD 53 (.build [(.int .i64 0), (.bool false), (.bool false), (.string .empty), (.int .u64 0)] [(0, 1), (1, 1), (2, 3)] [(0, (.t 48)), (1, (.t 50)), (2, (.t 52))]),
opD 54 (clD 387 [(.t 45), (.t 47), (.t 53)]),
mvD 13 54] (some [0, 9, 13, 39, 40, 41]))
(.seq (.ops [mvD 55 13,
opD 56 (.bin .neq 32 (.t 55) (icD 0))] (some [0, 9, 13, 39, 40, 41, 56]))
(.cond (.t 56)
(.seq (.ops [mvD 57 13,
opD 6 (.move (icD 0)),
mvD 7 57] (some [6, 7]))
.ret)
.skip)))))
(.ops [opD 58 (.bin .add 3 (.t 41) (icD 1)),
mvD 41 58] (some [0, 9, 39, 40, 41]))))))))
(.seq (.ops [mvD 59 9,
mvD 6 59,
opD 7 (.move (icD 0))] (some [6, 7]))
.ret))))))), [.tmp 6, .tmp 7]⟩

theorem is307 : FnIs Tryz.prog 307 x307 := ⟨Tryz.f307, _, Tryz.func307, by kernel_rfl, rfl, by kernel_rfl, by decide, by kernel_rfl⟩

/-- slices.insertionSortOrdered[string] -/
def x312 : XDecl := .code ⟨3, 
(.seq (.ops [mvD 8 1,
opD 9 (.bin .add 3 (.t 8) (icD 1)),
mvD 6 9] (some [0, 1, 2, 6]))
(.block 0
(.loop
(.seq (.seq (.ops [mvD 10 6,
mvD 11 2,
opD 12 (.bin .lss 3 (.t 10) (.t 11))] (some [0, 1, 2, 6, 12]))
(.cond (.t 12)
.skip
(.exit 0)))
(.seq (.block 1
(.seq (.ops [mvD 15 6,
mvD 7 15] (some [0, 1, 2, 6, 7]))
(.block 2
(.loop
(.seq (.seq (.opsd [(0, 0, mvD 16 7),
(1, 0, mvD 17 1),
(2, 3, opD 18 (.bin .gtr 3 (.t 16) (.t 17))),
(3, 7, mvD 19 18),
(4, 15, ⟨some 20, some (19, true), .move (.t 0)⟩),
(5, 15, ⟨some 21, some (19, true), .move (.t 7)⟩),
(6, 63, ⟨some 22, some (19, true), .indexAddr 1 (.t 20) (.t 21)⟩),
(7, 127, ⟨some 23, some (19, true), .load false 1 (.t 22)⟩),
(8, 15, ⟨some 24, some (19, true), .move (.t 0)⟩),
(9, 15, ⟨some 25, some (19, true), .move (.t 7)⟩),
(10, 527, ⟨some 26, some (19, true), .bin .sub 3 (.t 25) (icD 1)⟩),
(11, 1807, ⟨some 27, some (19, true), .indexAddr 1 (.t 24) (.t 26)⟩),
(12, 3855, ⟨some 28, some (19, true), .load false 1 (.t 27)⟩),
(13, 8191, ⟨some 29, some (19, true), clD 318 [(.t 23), (.t 28)]⟩),
(14, 16383, opD 30 (.pick (.t 19) (.t 29) (.c (.bool false))))] (some [0, 1, 2, 6, 7, 30]))
(.cond (.t 30)
.skip
(.exit 2)))
(.seq (.block 3
(.opsd [(0, 0, mvD 33 0),
(1, 0, mvD 34 7),
(2, 0, mvD 35 0),
(3, 0, mvD 36 7),
(4, 8, opD 37 (.bin .sub 3 (.t 36) (icD 1))),
(5, 0, mvD 38 0),
(6, 0, mvD 39 7),
(7, 64, opD 40 (.bin .sub 3 (.t 39) (icD 1))),
(8, 224, opD 41 (.indexAddr 1 (.t 38) (.t 40))),
(9, 480, opD 42 (.load false 1 (.t 41))),
(10, 0, mvD 43 0),
(11, 0, mvD 44 7),
(12, 3072, opD 45 (.indexAddr 1 (.t 43) (.t 44))),
(13, 7168, opD 46 (.load false 1 (.t 45))),
(14, 16355, opD 47 (.indexAddr 1 (.t 33) (.t 34))),
(15, 32739, ⟨none, none, .store 1 (.t 47) (.t 42)⟩),
(16, 65535, opD 48 (.indexAddr 1 (.t 35) (.t 37))),
(17, 131071, ⟨none, none, .store 1 (.t 48) (.t 46)⟩)] (some [0, 1, 2, 6, 7])))
(.ops [mvD 31 7,
opD 32 (.bin .sub 3 (.t 31) (icD 1)),
mvD 7 32] (some [0, 1, 2, 6, 7]))))))))
(.ops [mvD 13 6,
opD 14 (.bin .add 3 (.t 13) (icD 1)),
mvD 6 14] (some [0, 1, 2, 6]))))))), []⟩

theorem is312 : FnIs Tryz.prog 312 x312 := ⟨Tryz.f312, _, Tryz.func312, by kernel_rfl, rfl, by kernel_rfl, by decide, by kernel_rfl⟩

/-- cmp.Less[string] -/
def x318 : XDecl := .code ⟨2, 
(.seq (.ops [opD 4 (.move (.c (.bool false)))] (some [0, 1]))
(.seq (.ops [mvD 5 0,
opD 6 (clD 399 [(.t 5)]),
mvD 7 6,
⟨some 8, some (7, true), .move (.t 1)⟩,
⟨some 9, some (7, true), clD 399 [(.t 8)]⟩,
⟨some 10, some (7, true), .un .not (.t 9)⟩,
opD 11 (.pick (.t 7) (.t 10) (.c (.bool false))),
mvD 12 11,
⟨some 13, some (12, false), .move (.t 0)⟩,
⟨some 14, some (12, false), .move (.t 1)⟩,
⟨some 15, some (12, false), .bin .lss 9 (.t 13) (.t 14)⟩,
opD 16 (.pick (.t 12) (.c (.bool true)) (.t 15)),
mvD 4 16] (some [4]))
.ret)), [.tmp 4]⟩

theorem is318 : FnIs Tryz.prog 318 x318 := ⟨Tryz.f318, _, Tryz.func318, by kernel_rfl, rfl, by kernel_rfl, by decide, by kernel_rfl⟩

/-- math/bits.Len64 -/
def x322 : XDecl := .code ⟨1, 
(.seq (.ops [opD 2 (.move (icD 0))] (some [0, 2]))
(.seq (.seq (.ops [mvD 3 0,
opD 4 (.bin .geq 77 (.t 3) (.c (.int .u64 4294967296)))] (some [0, 2, 4]))
(.cond (.t 4)
(.seq (.ops [mvD 5 0,
opD 6 (.bin .shr 77 (.t 5) (.c (.int .u64 32))),
mvD 0 6] (some [0]))
(.ops [opD 2 (.move (icD 32))] (some [0, 2])))
.skip))
(.seq (.seq (.ops [mvD 7 0,
opD 8 (.bin .geq 77 (.t 7) (.c (.int .u64 65536)))] (some [0, 2, 8]))
(.cond (.t 8)
(.seq (.ops [mvD 9 0,
opD 10 (.bin .shr 77 (.t 9) (.c (.int .u64 16))),
mvD 0 10] (some [0, 2]))
(.ops [mvD 11 2,
opD 12 (.bin .add 3 (.t 11) (icD 16)),
mvD 2 12] (some [0, 2])))
.skip))
(.seq (.seq (.ops [mvD 13 0,
opD 14 (.bin .geq 77 (.t 13) (.c (.int .u64 256)))] (some [0, 2, 14]))
(.cond (.t 14)
(.seq (.ops [mvD 15 0,
opD 16 (.bin .shr 77 (.t 15) (.c (.int .u64 8))),
mvD 0 16] (some [0, 2]))
(.ops [mvD 17 2,
opD 18 (.bin .add 3 (.t 17) (icD 8)),
mvD 2 18] (some [0, 2])))
.skip))
(.seq (.ops [mvD 19 2,
mvD 20 0,
opD 21 (.conv 77 5 (.t 20)),
opD 22 (.index 9 (.c (.string ⟨#[0, 1, 2, 2, 3, 3, 3, 3, 4, 4, 4, 4, 4, 4, 4, 4, 5, 5, 5, 5, 5, 5, 5, 5, 5, 5, 5, 5, 5, 5, 5, 5, 6, 6, 6, 6, 6, 6, 6, 6, 6, 6, 6, 6, 6, 6, 6, 6, 6, 6, 6, 6, 6, 6, 6, 6, 6, 6, 6, 6, 6, 6, 6, 6, 7, 7, 7, 7, 7, 7, 7, 7, 7, 7, 7, 7, 7, 7, 7, 7, 7, 7, 7, 7, 7, 7, 7, 7, 7, 7, 7, 7, 7, 7, 7, 7, 7, 7, 7, 7, 7, 7, 7, 7, 7, 7, 7, 7, 7, 7, 7, 7, 7, 7, 7, 7, 7, 7, 7, 7, 7, 7, 7, 7, 7, 7, 7, 7, 8, 8, 8, 8, 8, 8, 8, 8, 8, 8, 8, 8, 8, 8, 8, 8, 8, 8, 8, 8, 8, 8, 8, 8, 8, 8, 8, 8, 8, 8, 8, 8, 8, 8, 8, 8, 8, 8, 8, 8, 8, 8, 8, 8, 8, 8, 8, 8, 8, 8, 8, 8, 8, 8, 8, 8, 8, 8, 8, 8, 8, 8, 8, 8, 8, 8, 8, 8, 8, 8, 8, 8, 8, 8, 8, 8, 8, 8, 8, 8, 8, 8, 8, 8, 8, 8, 8, 8, 8, 8, 8, 8, 8, 8, 8, 8, 8, 8, 8, 8, 8, 8, 8, 8, 8, 8, 8, 8, 8, 8, 8, 8, 8, 8, 8, 8, 8, 8, 8, 8, 8, 8, 8, 8, 8, 8, 8, 8]⟩)) (.t 21)),
opD 23 (.conv 5 3 (.t 22)),
opD 24 (.bin .add 3 (.t 19) (.t 23)),
mvD 2 24] (some [2]))
.ret))))), [.tmp 2]⟩

theorem is322 : FnIs Tryz.prog 322 x322 := ⟨Tryz.f322, _, Tryz.func322, by kernel_rfl, rfl, by kernel_rfl, by decide, by kernel_rfl⟩

/-- internal/bytealg.CompareString -/
def x323 : XDecl := .code ⟨2, 
(.seq (.ops [opD 4 (.move (icD 0))] (some [0, 1]))
(.seq (.ops [mvD 5 0,
mvD 6 1,
opD 7 (clD 400 [(.t 5), (.t 6)]),
mvD 4 7] (some [4]))
.ret)), [.tmp 4]⟩

theorem is323 : FnIs Tryz.prog 323 x323 := ⟨Tryz.f323, _, Tryz.func323, by kernel_rfl, rfl, by kernel_rfl, by decide, by kernel_rfl⟩

/-- strings.IndexByte -/
def x324 : XDecl := .code ⟨2, 
(.seq (.ops [opD 4 (.move (icD 0))] (some [0, 1]))
(.seq (.ops [mvD 5 0,
mvD 6 1,
opD 7 (clD 401 [(.t 5), (.t 6)]),
mvD 4 7] (some [4]))
.ret)), [.tmp 4]⟩

theorem is324 : FnIs Tryz.prog 324 x324 := ⟨Tryz.f324, _, Tryz.func324, by kernel_rfl, rfl, by kernel_rfl, by decide, by kernel_rfl⟩

/-- (*cloisonne/wire.parser).count -/
def x326 : XDecl := .code ⟨2, 
(.seq (.ops [opD 4 (.move (icD 0))] (some [0, 1]))
(.seq (.ops [mvD 6 0,
opD 7 (clD 328 [(.t 6)]),
mvD 5 7] (some [1, 5]))
(.seq (.ops [mvD 8 5,
mvD 9 1,
opD 10 (.conv 3 77 (.t 9)),
opD 11 (.bin .leq 77 (.t 8) (.t 10)),
opD 12 (clD 180 [(.t 11), (icD 5)])] (some [5]))
(.seq (.ops [mvD 13 5,
opD 14 (.conv 77 3 (.t 13)),
mvD 4 14] (some [4]))
.ret)))), [.tmp 4]⟩

theorem is326 : FnIs Tryz.prog 326 x326 := ⟨Tryz.f326, _, Tryz.func326, by kernel_rfl, rfl, by kernel_rfl, by decide, by kernel_rfl⟩

/-- (*cloisonne/wire.parser).take -/
def x327 : XDecl := .code ⟨2, 
(.seq (.ops [opD 4 (.move (.c (.string .empty)))] (some [0, 1]))
(.seq (.ops [mvD 6 0,
opD 7 (.nilCheck (.t 6)),
opD 8 (.fieldAddr 0 (.t 7)),
opD 9 (.load false 1 (.t 8)),
opD 10 (.calcB .len [9] 3 [(.t 9)]),
mvD 11 1,
opD 12 (.bin .geq 3 (.t 10) (.t 11)),
opD 13 (clD 180 [(.t 12), (icD 3)])] (some [0, 1]))
(.seq (.ops [mvD 14 0,
opD 15 (.nilCheck (.t 14)),
opD 16 (.fieldAddr 0 (.t 15)),
opD 17 (.load false 1 (.t 16)),
mvD 18 1,
opD 19 (.substr 9 (.t 17) none (some (.t 18))),
mvD 5 19] (some [0, 1, 5]))
(.seq (.ops [mvD 20 0,
mvD 21 0,
opD 22 (.nilCheck (.t 21)),
opD 23 (.fieldAddr 0 (.t 22)),
opD 24 (.load false 1 (.t 23)),
mvD 25 1,
opD 26 (.substr 9 (.t 24) (some (.t 25)) none),
opD 27 (.nilCheck (.t 20)),
opD 28 (.fieldAddr 0 (.t 27)),
⟨none, none, .store 1 (.t 28) (.t 26)⟩] (some [5]))
(.seq (.ops [mvD 29 5,
mvD 4 29] (some [4]))
.ret))))), [.tmp 4]⟩

theorem is327 : FnIs Tryz.prog 327 x327 := ⟨Tryz.f327, _, Tryz.func327, by kernel_rfl, rfl, by kernel_rfl, by decide, by kernel_rfl⟩

/-- (*cloisonne/wire.parser).number -/
def x328 : XDecl := .code ⟨1, 
(.seq (.ops [opD 2 (.move (.c (.int .u64 0)))] (some [0]))
(.seq (.ops [opD 3 (.move (.c (.int .u64 0)))] (some [0, 3]))
(.seq (.ops [opD 4 (.move (icD 0))] (some [0, 3, 4]))
(.block 0
(.loop
(.seq (.block 1
(.seq (.ops [mvD 9 0,
opD 10 (clD 327 [(.t 9), (icD 1)]),
opD 11 (.index 9 (.t 10) (icD 0)),
opD 12 (.conv 5 77 (.t 11)),
mvD 5 12] (some [0, 3, 4, 5]))
(.seq (.ops [mvD 13 5,
opD 14 (.bin .rem 77 (.t 13) (.c (.int .u64 128))),
mvD 6 14] (some [0, 3, 4, 5, 6]))
(.seq (.ops [mvD 15 4,
opD 16 (.bin .lss 3 (.t 15) (icD 64)),
mvD 17 16,
⟨some 18, some (17, true), .move (.t 6)⟩,
⟨some 19, some (17, true), .move (.t 4)⟩,
⟨some 20, some (17, true), .bin .shl 77 (.t 18) (.t 19)⟩,
⟨some 21, some (17, true), .move (.t 4)⟩,
⟨some 22, some (17, true), .bin .shr 77 (.t 20) (.t 21)⟩,
⟨some 23, some (17, true), .move (.t 6)⟩,
⟨some 24, some (17, true), .bin .eql 77 (.t 22) (.t 23)⟩,
opD 25 (.pick (.t 17) (.t 24) (.c (.bool false))),
opD 26 (clD 180 [(.t 25), (icD 4)])] (some [0, 3, 4, 5, 6]))
(.seq (.ops [mvD 27 3,
mvD 28 6,
mvD 29 4,
opD 30 (.bin .shl 77 (.t 28) (.t 29)),
opD 31 (.bin .or 77 (.t 27) (.t 30)),
mvD 3 31] (some [0, 3, 4, 5]))
(.seq (.ops [mvD 32 5,
opD 33 (.bin .lss 77 (.t 32) (.c (.int .u64 128)))] (some [0, 3, 4, 5, 33]))
(.cond (.t 33)
(.seq (.ops [mvD 34 5,
opD 35 (.bin .gtr 77 (.t 34) (.c (.int .u64 0))),
mvD 36 35,
⟨some 37, some (36, false), .move (.t 4)⟩,
⟨some 38, some (36, false), .bin .eql 3 (.t 37) (icD 0)⟩,
opD 39 (.pick (.t 36) (.c (.bool true)) (.t 38)),
opD 40 (clD 180 [(.t 39), (icD 4)])] (some [3]))
(.seq (.ops [mvD 41 3,
mvD 2 41] (some [2]))
.ret))
.skip)))))))
(.ops [mvD 7 4,
opD 8 (.bin .add 3 (.t 7) (icD 7)),
mvD 4 8] (some [0, 3, 4])))))))), [.tmp 2]⟩

theorem is328 : FnIs Tryz.prog 328 x328 := ⟨Tryz.f328, _, Tryz.func328, by kernel_rfl, rfl, by kernel_rfl, by decide, by kernel_rfl⟩

/-- cloisonne/label.Unpack -/
def x329 : XDecl := .code ⟨1, 
(.seq (.ops [opD 2 (.move (.c (.slice none 0 0))),
opD 3 (.move (icD 0)),
opD 4 (.move (icD 0))] (some [0]))
(.seq (.seq (.ops [mvD 12 0,
opD 13 (.bin .eql 9 (.t 12) (.c (.string .empty)))] (some [0, 13]))
(.cond (.t 13)
(.seq (.ops [opD 2 (.move (.c (.slice none 0 0))),
opD 3 (.move (icD 0)),
opD 4 (.move (icD 3))] (some [2, 3, 4]))
.ret)
.skip))
(.seq (.ops [mvD 14 0,
opD 15 (.index 9 (.t 14) (icD 0)),
opD 16 (.conv 5 3 (.t 15)),
mvD 5 16] (some [0, 5]))
(.seq (.ops [mvD 17 5,
opD 18 (.bin .mul 3 (icD 8) (.t 17)),
opD 19 (.bin .add 3 (icD 1) (.t 18)),
mvD 6 19] (some [0, 5, 6]))
(.seq (.block 0
(.seq (.ops [mvD 21 5,
opD 22 (.bin .gtr 3 (.t 21) (icD 6)),
mvD 20 22] (some [0, 6, 20]))
(.cond (.t 20)
(.seq (.ops [opD 2 (.move (.c (.slice none 0 0))),
opD 3 (.move (icD 0)),
opD 4 (.move (icD 4))] (some [2, 3, 4]))
.ret)
(.seq (.ops [mvD 24 0,
opD 25 (.calcB .len [9] 3 [(.t 24)]),
mvD 26 6,
opD 27 (.bin .lss 3 (.t 25) (.t 26)),
mvD 23 27] (some [0, 6, 23]))
(.cond (.t 23)
(.seq (.ops [opD 2 (.move (.c (.slice none 0 0))),
opD 3 (.move (icD 0)),
opD 4 (.move (icD 3))] (some [2, 3, 4]))
.ret)
.skip)))))
(.seq (.ops [opD 7 (.move (.c (.slice none 0 0)))] (some [0, 6, 7]))
(.seq (.seq (.ops [opD 8 (.move (icD 1))] (some [0, 6, 7, 8]))
(.block 1
(.loop
(.seq (.seq (.ops [mvD 28 8,
mvD 29 6,
opD 30 (.bin .lss 3 (.t 28) (.t 29))] (some [0, 6, 7, 8, 30]))
(.cond (.t 30)
.skip
(.exit 1)))
(.seq (.block 2
(.seq (.ops [opD 9 (.move (.c (.int .u64 0)))] (some [0, 6, 7, 8, 9]))
(.seq (.seq (.ops [mvD 33 0,
mvD 34 8,
mvD 35 8,
opD 36 (.bin .add 3 (.t 35) (icD 8)),
opD 37 (.substr 9 (.t 33) (some (.t 34)) (some (.t 36))),
opD 38 (.conv 9 196 (.t 37)),
opD 39 (.len (.t 38)),
opD 40 (.move (icD 0))] (some [0, 6, 7, 8, 9, 38, 39, 40]))
(.block 3
(.loop
(.seq (.ops [opD 41 (.bin .lss 3 (.t 40) (.t 39))] (some [0, 6, 7, 8, 9, 38, 39, 40, 41]))
(.seq (.cond (.t 41)
.skip
(.exit 3))
(.seq (.block 4
(.seq (.ops [opD 42 (.indexAddr 1 (.t 38) (.t 40)),
opD 43 (.load false 1 (.t 42)),
mvD 11 43] (some [0, 6, 7, 8, 9, 11, 38, 39, 40]))
(.ops [mvD 44 9,
opD 45 (.bin .shl 77 (.t 44) (.c (.int .u64 8))),
mvD 46 11,
opD 47 (.conv 5 77 (.t 46)),
opD 48 (.bin .or 77 (.t 45) (.t 47)),
mvD 9 48] (some [0, 6, 7, 8, 9, 38, 39, 40]))))
(.ops [opD 49 (.bin .add 3 (.t 40) (icD 1)),
mvD 40 49] (some [0, 6, 7, 8, 9, 38, 39, 40]))))))))
(.ops [mvD 50 7,
mvD 51 9,
opD 52 (.buildSlice [(.int .u64 0)] 1 1 [(0, (.t 51))]),
opD 53 (.append 1 8 [(.int .u64 0)] (.t 50) (.t 52)),
mvD 7 53] (some [0, 6, 7, 8])))))
(.ops [mvD 31 8,
opD 32 (.bin .add 3 (.t 31) (icD 8)),
mvD 8 32] (some [0, 6, 7, 8])))))))
(.seq (.seq (.ops [mvD 54 7,
opD 55 (clD 175 [(.t 54)]),
opD 56 (.un .not (.t 55))] (some [6, 7, 56]))
(.cond (.t 56)
(.seq (.ops [opD 2 (.move (.c (.slice none 0 0))),
opD 3 (.move (icD 0)),
opD 4 (.move (icD 4))] (some [2, 3, 4]))
.ret)
.skip))
(.seq (.ops [mvD 57 7,
mvD 58 6,
mvD 2 57,
mvD 3 58,
opD 4 (.move (icD 0))] (some [2, 3, 4]))
.ret))))))))), [.tmp 2, .tmp 3, .tmp 4]⟩

theorem is329 : FnIs Tryz.prog 329 x329 := ⟨Tryz.f329, _, Tryz.func329, by kernel_rfl, rfl, by kernel_rfl, by decide, by kernel_rfl⟩

/-- internal/stringslite.CutPrefix -/
def x330 : XDecl := .code ⟨2, 
(.seq (.ops [opD 4 (.move (.c (.string .empty))),
opD 5 (.move (.c (.bool false)))] (some [0, 1]))
(.seq (.seq (.ops [mvD 6 0,
mvD 7 1,
opD 8 (clD 402 [(.t 6), (.t 7)]),
opD 9 (.un .not (.t 8))] (some [0, 1, 9]))
(.cond (.t 9)
(.seq (.ops [mvD 10 0,
mvD 4 10,
opD 5 (.move (.c (.bool false)))] (some [4, 5]))
.ret)
.skip))
(.seq (.ops [mvD 11 0,
mvD 12 1,
opD 13 (.calcB .len [9] 3 [(.t 12)]),
opD 14 (.substr 9 (.t 11) (some (.t 13)) none),
mvD 4 14,
opD 5 (.move (.c (.bool true)))] (some [4, 5]))
.ret))), [.tmp 4, .tmp 5]⟩

theorem is330 : FnIs Tryz.prog 330 x330 := ⟨Tryz.f330, _, Tryz.func330, by kernel_rfl, rfl, by kernel_rfl, by decide, by kernel_rfl⟩

/-- (*cloisonne/vault.Vault).Table -/
def x332 : XDecl := .code ⟨1, 
(.seq (.ops [opD 2 (.move (.c (.pointer none)))] (some [0]))
(.seq (.seq (.ops [mvD 3 0,
opD 4 (.isNil .ptr false (.t 3))] (some [0, 4]))
(.cond (.t 4)
(.seq (.ops [opD 2 (.move (.c (.pointer none)))] (some [2]))
.ret)
.skip))
(.seq (.ops [mvD 5 0,
opD 6 (.nilCheck (.t 5)),
opD 7 (.fieldAddr 5 (.t 6)),
opD 8 (.load false 1 (.t 7)),
mvD 2 8] (some [2]))
.ret))), [.tmp 2]⟩

theorem is332 : FnIs Tryz.prog 332 x332 := ⟨Tryz.f332, _, Tryz.func332, by kernel_rfl, rfl, by kernel_rfl, by decide, by kernel_rfl⟩

/-- (*cloisonne/sess.Session).clear -/
def x333 : XDecl := .code ⟨2, 
(.seq (.ops [opD 4 (.move (.c (.bool false)))] (some [0, 1]))
(.seq (.opsd [(0, 0, mvD 5 0),
(1, 1, opD 6 (.nilCheck (.t 5))),
(2, 3, opD 7 (.fieldAddr 0 (.t 6))),
(3, 7, opD 8 (.load false 1 (.t 7))),
(5, 0, mvD 10 0),
(6, 32, opD 11 (.nilCheck (.t 10))),
(7, 96, opD 12 (.fieldAddr 4 (.t 11))),
(8, 224, opD 13 (.load false 1 (.t 12))),
(9, 0, mvD 14 0),
(10, 512, opD 15 (.nilCheck (.t 14))),
(11, 1536, opD 16 (.fieldAddr 5 (.t 15))),
(12, 3584, opD 17 (.load false 1 (.t 16))),
(13, 0, mvD 18 1),
(4, 15, opD 9 (clD 332 [(.t 8)])),
(14, 16383, opD 19 (clD 403 [(.t 9), (.t 13), (.t 17), (.t 18)])),
(15, 32767, mvD 4 19)] (some [4]))
.ret)), [.tmp 4]⟩

theorem is333 : FnIs Tryz.prog 333 x333 := ⟨Tryz.f333, _, Tryz.func333, by kernel_rfl, rfl, by kernel_rfl, by decide, by kernel_rfl⟩

/-- (*cloisonne/sess.Session).frozen -/
def x334 : XDecl := .code ⟨1, 
(.seq (.ops [opD 2 (.move (.c (.bool false)))] (some [0]))
(.seq (.ops [mvD 3 0,
opD 4 (.nilCheck (.t 3)),
opD 5 (.fieldAddr 6 (.t 4)),
opD 6 (.load false 1 (.t 5)),
opD 7 (.isNil .ptr true (.t 6)),
mvD 8 7,
⟨some 9, some (8, true), .move (.t 0)⟩,
⟨some 10, some (8, true), .nilCheck (.t 9)⟩,
⟨some 11, some (8, true), .fieldAddr 6 (.t 10)⟩,
⟨some 12, some (8, true), .load false 1 (.t 11)⟩,
⟨some 13, some (8, true), .nilCheck (.t 12)⟩,
⟨some 14, some (8, true), .fieldAddr 2 (.t 13)⟩,
⟨some 15, some (8, true), .load false 1 (.t 14)⟩,
⟨some 16, some (8, true), .bin .neq 3 (.t 15) (icD (-1))⟩,
opD 17 (.pick (.t 8) (.t 16) (.c (.bool false))),
mvD 2 17] (some [2]))
.ret)), [.tmp 2]⟩

theorem is334 : FnIs Tryz.prog 334 x334 := ⟨Tryz.f334, _, Tryz.func334, by kernel_rfl, rfl, by kernel_rfl, by decide, by kernel_rfl⟩

/-- cloisonne/label.In -/
def x335 : XDecl := .code ⟨2, 
(.seq (.ops [opD 3 (.box (.t 1)),
opD 4 (.move (.c (.bool false)))] (some [0, 3]))
(.seq (.ops [mvD 5 0,
opD 6 (.makeFunc (.func 405) [] [(.t 3)]),
opD 7 (clD 404 [(.t 5), (.t 6)]),
opD 8 (.un .not (.t 7)),
mvD 4 8] (some [4]))
.ret)), [.tmp 4]⟩

theorem is335 : FnIs Tryz.prog 335 x335 := ⟨Tryz.f335, _, Tryz.func335, by kernel_rfl, rfl, by kernel_rfl, by decide, by kernel_rfl⟩

/-- cloisonne/label.Join -/
def x336 : XDecl := .code ⟨2, 
(.seq (.ops [opD 4 (.move (.c (.slice none 0 0))),
opD 5 (.move (icD 0))] (some [0, 1]))
(.seq (.seq (.ops [mvD 6 0,
opD 7 (clD 175 [(.t 6)]),
opD 8 (.un .not (.t 7)),
mvD 9 8,
⟨some 10, some (9, false), .move (.t 1)⟩,
⟨some 11, some (9, false), clD 175 [(.t 10)]⟩,
⟨some 12, some (9, false), .un .not (.t 11)⟩,
opD 13 (.pick (.t 9) (.c (.bool true)) (.t 12))] (some [0, 1, 13]))
(.cond (.t 13)
(.seq (.ops [opD 4 (.move (.c (.slice none 0 0))),
opD 5 (.move (icD 1))] (some [4, 5]))
.ret)
.skip))
(.seq (.ops [mvD 14 0,
mvD 15 1,
opD 16 (.buildSlice [(.slice none 0 0)] 1 2 [(0, (.t 14)), (1, (.t 15))]),
opD 17 (clD 407 [(.t 16)]),
opD 18 (clD 406 [(.t 17)]),
opD 19 (.extract (.t 18) 0),
opD 20 (.extract (.t 18) 1),
mvD 4 19,
mvD 5 20] (some [4, 5]))
.ret))), [.tmp 4, .tmp 5]⟩

theorem is336 : FnIs Tryz.prog 336 x336 := ⟨Tryz.f336, _, Tryz.func336, by kernel_rfl, rfl, by kernel_rfl, by decide, by kernel_rfl⟩

/-- cloisonne/label.Has -/
def x337 : XDecl := .code ⟨2, 
(.seq (.ops [opD 4 (.move (.c (.bool false)))] (some [0, 1]))
(.seq (.ops [mvD 5 0,
mvD 6 1,
opD 7 (clD 408 [(.t 5), (.t 6)]),
mvD 4 7] (some [4]))
.ret)), [.tmp 4]⟩

theorem is337 : FnIs Tryz.prog 337 x337 := ⟨Tryz.f337, _, Tryz.func337, by kernel_rfl, rfl, by kernel_rfl, by decide, by kernel_rfl⟩

/-- (*cloisonne/wset.Set).Len -/
def x340 : XDecl := .code ⟨1, 
(.seq (.ops [opD 2 (.move (icD 0))] (some [0]))
(.seq (.seq (.ops [mvD 3 0,
opD 4 (.isNil .ptr false (.t 3))] (some [0, 4]))
(.cond (.t 4)
(.seq (.ops [opD 2 (.move (icD 0))] (some [2]))
.ret)
.skip))
(.seq (.ops [mvD 5 0,
opD 6 (.nilCheck (.t 5)),
opD 7 (.fieldAddr 0 (.t 6)),
opD 8 (.load false 1 (.t 7)),
opD 9 (.len (.t 8)),
mvD 2 9] (some [2]))
.ret))), [.tmp 2]⟩

theorem is340 : FnIs Tryz.prog 340 x340 := ⟨Tryz.f340, _, Tryz.func340, by kernel_rfl, rfl, by kernel_rfl, by decide, by kernel_rfl⟩

/-- cloisonne/job.Commit -/
def x341 : XDecl := .code ⟨5, 
(.seq (.ops [opD 10 (.move (.c (.pointer none))),
opD 11 (.move (icD 0))] (some [0, 1, 2, 3, 4]))
(.seq (.block 0
(.seq (.ops [mvD 13 0,
opD 14 (.isNil .ptr false (.t 13)),
mvD 12 14] (some [0, 1, 2, 3, 4, 12]))
(.cond (.t 12)
(.seq (.ops [opD 10 (.move (.c (.pointer none))),
opD 11 (.move (icD 2))] (some [10, 11]))
.ret)
(.seq (.ops [mvD 16 0,
mvD 17 2,
opD 18 (clD 44 [(.t 16), (.t 17)]),
opD 19 (.isNil .ptr false (.t 18)),
mvD 20 19,
⟨some 21, some (20, false), .move (.t 3)⟩,
⟨some 22, some (20, false), clD 390 [(.t 21)]⟩,
⟨some 23, some (20, false), .un .not (.t 22)⟩,
opD 24 (.pick (.t 20) (.c (.bool true)) (.t 23)),
mvD 15 24] (some [0, 1, 2, 3, 4, 15]))
(.cond (.t 15)
(.seq (.ops [opD 10 (.move (.c (.pointer none))),
opD 11 (.move (icD 1))] (some [10, 11]))
.ret)
.skip)))))
(.seq (.ops [mvD 25 0,
mvD 26 1,
mvD 27 2,
mvD 28 2,
mvD 29 3,
opD 30 (clD 119 [(.t 29)]),
mvD 31 4,
opD 32 (.build [(.int .i64 0), (.slice none 0 0), (.int .u64 0)] [(0, 1), (1, 1), (2, 1)] [(0, (.t 28)), (1, (.t 30)), (2, (.t 31))]),
opD 33 (.makeIface 537 (.t 32)),
opD 34 (.build [(.pointer none), (.int .i64 0), (.int .i64 0), .nilIface, (.int .i64 0), (.pointer none), (.int .u64 0), (.int .i64 0)] [(0, 1), (1, 1), (2, 1), (3, 1), (4, 1), (5, 1), (6, 1), (7, 1)] [(0, (.t 25)), (1, (.t 26)), (2, (.t 27)), (3, (.t 33))]),
opD 35 (.box (.t 34)),
mvD 10 35,
opD 11 (.move (icD 0))] (some [10, 11]))
.ret))), [.tmp 10, .tmp 11]⟩

theorem is341 : FnIs Tryz.prog 341 x341 := ⟨Tryz.f341, _, Tryz.func341, by kernel_rfl, rfl, by kernel_rfl, by decide, by kernel_rfl⟩

def tabD : FuncId → Option XDecl
  | 241 => some x241
  | 243 => some x243
  | 244 => some x244
  | 246 => some x246
  | 248 => some x248
  | 249 => some x249
  | 252 => some x252
  | 253 => some x253
  | 255 => some x255
  | 256 => some x256
  | 257 => some x257
  | 258 => some x258
  | 259 => some x259
  | 260 => some x260
  | 261 => some x261
  | 263 => some x263
  | 266 => some x266
  | 267 => some x267
  | 269 => some x269
  | 270 => some x270
  | 271 => some x271
  | 279 => some x279
  | 280 => some x280
  | 281 => some x281
  | 282 => some x282
  | 283 => some x283
  | 284 => some x284
  | 285 => some x285
  | 286 => some x286
  | 287 => some x287
  | 290 => some x290
  | 291 => some x291
  | 292 => some x292
  | 293 => some x293
  | 294 => some x294
  | 296 => some x296
  | 299 => some x299
  | 300 => some x300
  | 301 => some x301
  | 302 => some x302
  | 306 => some x306
  | 307 => some x307
  | 312 => some x312
  | 318 => some x318
  | 322 => some x322
  | 323 => some x323
  | 324 => some x324
  | 326 => some x326
  | 327 => some x327
  | 328 => some x328
  | 329 => some x329
  | 330 => some x330
  | 332 => some x332
  | 333 => some x333
  | 334 => some x334
  | 335 => some x335
  | 336 => some x336
  | 337 => some x337
  | 340 => some x340
  | 341 => some x341
  | _ => none
theorem tabD_is : ∀ f d, tabD f = some d → FnIs Tryz.prog f d := by
  intro f d h
  unfold tabD at h
  split at h
  · cases h; exact is241
  · cases h; exact is243
  · cases h; exact is244
  · cases h; exact is246
  · cases h; exact is248
  · cases h; exact is249
  · cases h; exact is252
  · cases h; exact is253
  · cases h; exact is255
  · cases h; exact is256
  · cases h; exact is257
  · cases h; exact is258
  · cases h; exact is259
  · cases h; exact is260
  · cases h; exact is261
  · cases h; exact is263
  · cases h; exact is266
  · cases h; exact is267
  · cases h; exact is269
  · cases h; exact is270
  · cases h; exact is271
  · cases h; exact is279
  · cases h; exact is280
  · cases h; exact is281
  · cases h; exact is282
  · cases h; exact is283
  · cases h; exact is284
  · cases h; exact is285
  · cases h; exact is286
  · cases h; exact is287
  · cases h; exact is290
  · cases h; exact is291
  · cases h; exact is292
  · cases h; exact is293
  · cases h; exact is294
  · cases h; exact is296
  · cases h; exact is299
  · cases h; exact is300
  · cases h; exact is301
  · cases h; exact is302
  · cases h; exact is306
  · cases h; exact is307
  · cases h; exact is312
  · cases h; exact is318
  · cases h; exact is322
  · cases h; exact is323
  · cases h; exact is324
  · cases h; exact is326
  · cases h; exact is327
  · cases h; exact is328
  · cases h; exact is329
  · cases h; exact is330
  · cases h; exact is332
  · cases h; exact is333
  · cases h; exact is334
  · cases h; exact is335
  · cases h; exact is336
  · cases h; exact is337
  · cases h; exact is340
  · cases h; exact is341
  · cases h

end Go.Proofs.YtglefgcnafoafaaGreatDoor.X
