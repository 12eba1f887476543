/-
  Own work, printed by a program of ours (mkprog.py): the functions of this seat as code of the abstract run, and that each is the model's.
-/
import Derived.Test.YtglefgcnafoafaaGreatDoorXLaw
import Derived.Test.YtglefgcnafoafaaGreatDoorChecked
set_option maxRecDepth 100000
namespace Go.Proofs.YtglefgcnafoafaaGreatDoor.X
open Go

abbrev mvC (d s : Nat) : XOp := ⟨some d, none, .move (.t s)⟩
abbrev opC (d : Nat) (i : XI) : XOp := ⟨some d, none, i⟩
abbrev clC (f : Nat) (l : List Arg) : XI := .call (.c (.func (.func f) #[] #[])) l
abbrev icC (n : Int) : Arg := .c (.int .i64 n)

/-- (*cloisonne/ferry.boat).label -/
def x166 : XDecl := .code ⟨2, 
(.seq (.ops [opC 4 (.move (.c (.slice none 0 0)))] (some [0, 1]))
(.seq (.ops [mvC 5 0,
opC 6 (.nilCheck (.t 5)),
opC 7 (.fieldAddr 0 (.t 6)),
opC 8 (.load false 1 (.t 7)),
opC 9 (clC 14 [(.t 8)]),
mvC 10 1,
opC 11 (clC 44 [(.t 9), (.t 10)]),
opC 12 (clC 230 [(.t 11)]),
opC 13 (.field false 0 1 (.t 12)),
mvC 4 13] (some [4]))
.ret)), [.tmp 4]⟩

theorem is166 : FnIs Tryz.prog 166 x166 := ⟨Tryz.f166, _, Tryz.func166, by kernel_rfl, rfl, by kernel_rfl, by decide, by kernel_rfl⟩

/-- cloisonne/num.Bits -/
def x167 : XDecl := .code ⟨1, 
 (.seq (.ops [⟨(some 2), none, .move (.c (.int .u64 0))⟩] (some [0]))
 (.seq (.seq (.ops [⟨(some 3), none, .move (.t 0)⟩,
   ⟨(some 4), none, .call (.c (.func (.func 231) #[] #[])) [(.t 3)]⟩] (some [0, 4]))
 (.cond (.t 4)
  (.seq (.ops [⟨(some 2), none, .move (.c (.int .u64 9221120237041090561))⟩] (some [2]))
  .ret)
  .skip))
 (.seq (.ops [⟨(some 5), none, .move (.t 0)⟩,
   ⟨(some 6), none, .call (.c (.func (.func 232) #[] #[])) [(.t 5)]⟩,
   ⟨(some 2), none, .move (.t 6)⟩] (some [2]))
 .ret))), [.tmp 2]⟩

theorem is167 : FnIs Tryz.prog 167 x167 := ⟨Tryz.f167, _, Tryz.func167, by kernel_rfl, rfl, by kernel_rfl, by decide, by kernel_rfl⟩

/-- cloisonne/num.From -/
def x168 : XDecl := .code ⟨1, 
(.seq (.ops [opC 2 (.move (.c (.float .f64 0)))] (some [0]))
(.seq (.ops [mvC 3 0,
opC 4 (clC 162 [(.t 3)]),
opC 5 (clC 167 [(.t 4)]),
opC 6 (clC 162 [(.t 5)]),
mvC 2 6] (some [2]))
.ret)), [.tmp 2]⟩

theorem is168 : FnIs Tryz.prog 168 x168 := ⟨Tryz.f168, _, Tryz.func168, by kernel_rfl, rfl, by kernel_rfl, by decide, by kernel_rfl⟩

/-- slices.Sort[[]string,string] -/
def x169 : XDecl := .code ⟨1, 
(.seq (.ops [mvC 3 0,
opC 4 (.len (.t 3)),
mvC 2 4] (some [0, 2]))
(.ops [mvC 5 0,
mvC 6 2,
mvC 7 2,
opC 8 (.conv 3 356 (.t 7)),
opC 9 (clC 234 [(.t 8)]),
opC 10 (clC 233 [(.t 5), (icC 0), (.t 6), (.t 9)])] (some []))), []⟩

theorem is169 : FnIs Tryz.prog 169 x169 := ⟨Tryz.f169, _, Tryz.func169, by kernel_rfl, rfl, by kernel_rfl, by decide, by kernel_rfl⟩

/-- slices.Compact[[]string,string] -/
def x170 : XDecl := .code ⟨1, 
(.seq (.ops [opC 2 (.move (.c (.slice none 0 0)))] (some [0]))
(.seq (.seq (.ops [mvC 6 0,
opC 7 (.len (.t 6)),
opC 8 (.bin .lss 3 (.t 7) (icC 2))] (some [0, 8]))
(.cond (.t 8)
(.seq (.ops [mvC 9 0,
mvC 2 9] (some [2]))
.ret)
.skip))
(.seq (.seq (.ops [opC 3 (.move (icC 1))] (some [0, 3]))
(.block 0
(.loop
(.seq (.seq (.ops [mvC 10 3,
mvC 11 0,
opC 12 (.len (.t 11)),
opC 13 (.bin .lss 3 (.t 10) (.t 12))] (some [0, 3, 13]))
(.cond (.t 13)
.skip
(.exit 0)))
(.seq (.block 1
(.seq (.opsr [mvC 16 0,
mvC 17 3,
opC 18 (.indexAddr 1 (.t 16) (.t 17)),
opC 19 (.load false 1 (.t 18)),
mvC 20 0,
mvC 21 3,
opC 22 (.bin .sub 3 (.t 21) (icC 1)),
opC 23 (.indexAddr 1 (.t 20) (.t 22)),
opC 24 (.load false 1 (.t 23)),
opC 25 (.bin .eql 9 (.t 19) (.t 24))] (some [0, 3, 25]))
(.cond (.t 25)
(.seq (.ops [mvC 26 0,
mvC 27 3,
opC 28 (.slice 1 (.t 26) (some (.t 27)) none none),
mvC 4 28] (some [0, 3, 4]))
(.seq (.seq (.ops [opC 5 (.move (icC 1))] (some [0, 3, 4, 5]))
(.block 2
(.loop
(.seq (.seq (.ops [mvC 29 5,
mvC 30 4,
opC 31 (.len (.t 30)),
opC 32 (.bin .lss 3 (.t 29) (.t 31))] (some [0, 3, 4, 5, 32]))
(.cond (.t 32)
.skip
(.exit 2)))
(.seq (.block 3
(.seq (.opsr [mvC 35 4,
mvC 36 5,
opC 37 (.indexAddr 1 (.t 35) (.t 36)),
opC 38 (.load false 1 (.t 37)),
mvC 39 4,
mvC 40 5,
opC 41 (.bin .sub 3 (.t 40) (icC 1)),
opC 42 (.indexAddr 1 (.t 39) (.t 41)),
opC 43 (.load false 1 (.t 42)),
opC 44 (.bin .neq 9 (.t 38) (.t 43))] (some [0, 3, 4, 5, 44]))
(.cond (.t 44)
(.seq (.ops [mvC 45 0,
mvC 46 3,
mvC 47 4,
mvC 48 5,
opC 49 (.indexAddr 1 (.t 47) (.t 48)),
opC 50 (.load false 1 (.t 49)),
opC 51 (.indexAddr 1 (.t 45) (.t 46)),
⟨none, none, .store 1 (.t 51) (.t 50)⟩] (some [0, 3, 4, 5]))
(.ops [mvC 52 3,
opC 53 (.bin .add 3 (.t 52) (icC 1)),
mvC 3 53] (some [0, 3, 4, 5])))
.skip)))
(.ops [mvC 33 5,
opC 34 (.bin .add 3 (.t 33) (icC 1)),
mvC 5 34] (some [0, 3, 4, 5])))))))
(.seq (.ops [mvC 54 0,
mvC 55 3,
opC 56 (.slice 1 (.t 54) (some (.t 55)) none none),
⟨none, none, .clear [(.string .empty)] (.t 56)⟩] (some [0, 3]))
(.seq (.ops [mvC 57 0,
mvC 58 3,
opC 59 (.slice 1 (.t 57) none (some (.t 58)) none),
mvC 2 59] (some [2]))
.ret))))
.skip)))
(.ops [mvC 14 3,
opC 15 (.bin .add 3 (.t 14) (icC 1)),
mvC 3 15] (some [0, 3])))))))
(.seq (.ops [mvC 60 0,
mvC 2 60] (some [2]))
.ret)))), [.tmp 2]⟩

theorem is170 : FnIs Tryz.prog 170 x170 := ⟨Tryz.f170, _, Tryz.func170, by kernel_rfl, rfl, by kernel_rfl, by decide, by kernel_rfl⟩

/-- cloisonne/diff.find -/
def x171 : XDecl := .code ⟨2, 
(.seq (.ops [opC 4 (.alloc [(.string .empty), (.int .i64 0), (.bool false), (.string .empty), (.int .u64 0)]),
opC 5 (.move (.c (.bool false)))] (some [0, 1, 4]))
(.seq (.ops [mvC 9 0,
mvC 10 1,
opC 11 (clC 235 [(.t 9), (.t 10), (.c (.func (.func 236) #[] #[]))]),
mvC 8 11,
opC 12 (.extract (.t 8) 0),
opC 13 (.extract (.t 8) 1),
mvC 6 12,
mvC 7 13] (some [0, 4, 6, 7]))
(.seq (.seq (.ops [mvC 14 7,
opC 15 (.un .not (.t 14))] (some [0, 4, 6, 15]))
(.cond (.t 15)
(.seq (.ops [opC 16 (.build [(.string .empty), (.int .i64 0), (.bool false), (.string .empty), (.int .u64 0)] [(0, 1), (1, 1), (2, 3)] []),
⟨none, none, .store 5 (.t 4) (.t 16)⟩,
opC 5 (.move (.c (.bool false)))] (some [4, 5]))
.ret)
.skip))
(.seq (.ops [mvC 17 0,
mvC 18 6,
opC 19 (.indexAddr 5 (.t 17) (.t 18)),
opC 20 (.load true 5 (.t 19)),
⟨none, none, .store 5 (.t 4) (.t 20)⟩,
opC 5 (.move (.c (.bool true)))] (some [4, 5]))
.ret)))), [.cell true 5 4, .tmp 5]⟩

theorem is171 : FnIs Tryz.prog 171 x171 := ⟨Tryz.f171, _, Tryz.func171, by kernel_rfl, rfl, by kernel_rfl, by decide, by kernel_rfl⟩

/-- cloisonne/cloisonneref02.Right -/
def x172 : XDecl := .code ⟨1, 
(.seq (.ops [opC 2 (.move (.c (.bool false)))] (some [0]))
(.seq (.seq (.ops [opC 3 (.move (icC 0))] (some [0, 3]))
(.block 0
(.loop
(.seq (.seq (.ops [mvC 4 3,
mvC 5 0,
opC 6 (.len (.t 5)),
opC 7 (.bin .lss 3 (.t 4) (.t 6))] (some [0, 3, 7]))
(.cond (.t 7)
.skip
(.exit 0)))
(.seq (.block 1
(.seq (.opsr [mvC 10 0,
mvC 11 3,
opC 12 (.indexAddr 1 (.t 10) (.t 11)),
opC 13 (.load false 1 (.t 12)),
opC 14 (.bin .eql 77 (.t 13) (.c (.int .u64 0))),
mvC 15 14,
⟨some 16, some (15, false), .move (.t 3)⟩,
⟨some 17, some (15, false), .bin .gtr 3 (.t 16) (icC 0)⟩,
⟨some 18, some (15, false), .move (.t 17)⟩,
⟨some 19, some (18, true), .move (.t 0)⟩,
⟨some 20, some (18, true), .move (.t 3)⟩,
⟨some 21, some (18, true), .bin .sub 3 (.t 20) (icC 1)⟩,
⟨some 22, some (18, true), .indexAddr 1 (.t 19) (.t 21)⟩,
⟨some 23, some (18, true), .load false 1 (.t 22)⟩,
⟨some 24, some (18, true), .move (.t 0)⟩,
⟨some 25, some (18, true), .move (.t 3)⟩,
⟨some 26, some (18, true), .indexAddr 1 (.t 24) (.t 25)⟩,
⟨some 27, some (18, true), .load false 1 (.t 26)⟩,
⟨some 28, some (18, true), .bin .geq 77 (.t 23) (.t 27)⟩,
⟨some 29, some (15, false), .pick (.t 18) (.t 28) (.c (.bool false))⟩,
opC 30 (.pick (.t 15) (.c (.bool true)) (.t 29))] (some [0, 3, 30]))
(.cond (.t 30)
(.seq (.ops [opC 2 (.move (.c (.bool false)))] (some [2]))
.ret)
.skip)))
(.ops [mvC 8 3,
opC 9 (.bin .add 3 (.t 8) (icC 1)),
mvC 3 9] (some [0, 3])))))))
(.seq (.ops [mvC 31 0,
opC 32 (.len (.t 31)),
opC 33 (.bin .leq 3 (.t 32) (icC 6)),
mvC 2 33] (some [2]))
.ret))), [.tmp 2]⟩

theorem is172 : FnIs Tryz.prog 172 x172 := ⟨Tryz.f172, _, Tryz.func172, by kernel_rfl, rfl, by kernel_rfl, by decide, by kernel_rfl⟩

/-- cloisonne/cloisonneref02.Compare -/
def x173 : XDecl := .code ⟨2, 
(.seq (.ops [opC 4 (.move (icC 0))] (some [0, 1]))
(.seq (.seq (.ops [mvC 6 0,
opC 7 (.len (.t 6)),
mvC 8 1,
opC 9 (.len (.t 8)),
opC 10 (.bin .lss 3 (.t 7) (.t 9))] (some [0, 1, 10]))
(.cond (.t 10)
(.seq (.ops [opC 4 (.move (icC (-1)))] (some [4]))
.ret)
.skip))
(.seq (.seq (.ops [mvC 11 0,
opC 12 (.len (.t 11)),
mvC 13 1,
opC 14 (.len (.t 13)),
opC 15 (.bin .gtr 3 (.t 12) (.t 14))] (some [0, 1, 15]))
(.cond (.t 15)
(.seq (.ops [opC 4 (.move (icC 1))] (some [4]))
.ret)
.skip))
(.seq (.seq (.ops [opC 5 (.move (icC 0))] (some [0, 1, 5]))
(.block 0
(.loop
(.seq (.seq (.ops [mvC 16 5,
mvC 17 0,
opC 18 (.len (.t 17)),
opC 19 (.bin .lss 3 (.t 16) (.t 18))] (some [0, 1, 5, 19]))
(.cond (.t 19)
.skip
(.exit 0)))
(.seq (.block 1
(.seq (.seq (.opsr [mvC 22 0,
mvC 23 5,
opC 24 (.indexAddr 1 (.t 22) (.t 23)),
opC 25 (.load false 1 (.t 24)),
mvC 26 1,
mvC 27 5,
opC 28 (.indexAddr 1 (.t 26) (.t 27)),
opC 29 (.load false 1 (.t 28)),
opC 30 (.bin .lss 77 (.t 25) (.t 29))] (some [0, 1, 5, 30]))
(.cond (.t 30)
(.seq (.ops [opC 4 (.move (icC (-1)))] (some [4]))
.ret)
.skip))
(.seq (.opsr [mvC 31 0,
mvC 32 5,
opC 33 (.indexAddr 1 (.t 31) (.t 32)),
opC 34 (.load false 1 (.t 33)),
mvC 35 1,
mvC 36 5,
opC 37 (.indexAddr 1 (.t 35) (.t 36)),
opC 38 (.load false 1 (.t 37)),
opC 39 (.bin .gtr 77 (.t 34) (.t 38))] (some [0, 1, 5, 39]))
(.cond (.t 39)
(.seq (.ops [opC 4 (.move (icC 1))] (some [4]))
.ret)
.skip))))
(.ops [mvC 20 5,
opC 21 (.bin .add 3 (.t 20) (icC 1)),
mvC 5 21] (some [0, 1, 5])))))))
(.seq (.ops [opC 4 (.move (icC 0))] (some [4]))
.ret))))), [.tmp 4]⟩

theorem is173 : FnIs Tryz.prog 173 x173 := ⟨Tryz.f173, _, Tryz.func173, by kernel_rfl, rfl, by kernel_rfl, by decide, by kernel_rfl⟩

/-- slices.Index[[]cloisonne/ask.field,cloisonne/ask.field] -/
def x174 : XDecl := .code ⟨2, 
(.seq (.ops [opC 4 (.move (icC 0))] (some [0, 1]))
(.seq (.seq (.ops [mvC 6 0,
opC 7 (.len (.t 6)),
opC 8 (.move (icC 0))] (some [0, 1, 7, 8]))
(.block 0
(.loop
(.seq (.ops [opC 9 (.bin .lss 3 (.t 8) (.t 7))] (some [0, 1, 7, 8, 9]))
(.seq (.cond (.t 9)
.skip
(.exit 0))
(.seq (.block 1
(.seq (.ops [mvC 10 8,
mvC 5 10] (some [0, 1, 5, 7, 8]))
(.seq (.ops [mvC 11 1,
mvC 12 0,
mvC 13 5,
opC 14 (.indexAddr 1 (.t 12) (.t 13)),
opC 15 (.load false 1 (.t 14)),
opC 16 (.bin .eql 160 (.t 11) (.t 15))] (some [0, 1, 5, 7, 8, 16]))
(.cond (.t 16)
(.seq (.ops [mvC 17 5,
mvC 4 17] (some [4]))
.ret)
.skip))))
(.ops [opC 18 (.bin .add 3 (.t 8) (icC 1)),
mvC 8 18] (some [0, 1, 7, 8]))))))))
(.seq (.ops [opC 4 (.move (icC (-1)))] (some [4]))
.ret))), [.tmp 4]⟩

theorem is174 : FnIs Tryz.prog 174 x174 := ⟨Tryz.f174, _, Tryz.func174, by kernel_rfl, rfl, by kernel_rfl, by decide, by kernel_rfl⟩

/-- cloisonne/label.Right -/
def x175 : XDecl := .code ⟨1, 
(.seq (.ops [opC 2 (.move (.c (.bool false)))] (some [0]))
(.seq (.seq (.ops [mvC 6 0,
opC 7 (.len (.t 6)),
opC 8 (.bin .gtr 3 (.t 7) (icC 6))] (some [0, 8]))
(.cond (.t 8)
(.seq (.ops [opC 2 (.move (.c (.bool false)))] (some [2]))
.ret)
.skip))
(.seq (.ops [opC 3 (.move (.c (.int .u64 0)))] (some [0, 3]))
(.seq (.seq (.ops [mvC 9 0,
opC 10 (.len (.t 9)),
opC 11 (.move (icC 0))] (some [3, 9, 10, 11]))
(.block 0
(.loop
(.seq (.ops [opC 12 (.bin .lss 3 (.t 11) (.t 10))] (some [3, 9, 10, 11, 12]))
(.seq (.cond (.t 12)
.skip
(.exit 0))
(.seq (.block 1
(.seq (.ops [opC 13 (.indexAddr 1 (.t 9) (.t 11)),
opC 14 (.load false 1 (.t 13)),
mvC 5 14] (some [3, 5, 9, 10, 11]))
(.seq (.seq (.ops [mvC 15 5,
mvC 16 3,
opC 17 (.bin .leq 77 (.t 15) (.t 16))] (some [5, 9, 10, 11, 17]))
(.cond (.t 17)
(.seq (.ops [opC 2 (.move (.c (.bool false)))] (some [2]))
.ret)
.skip))
(.ops [mvC 18 5,
mvC 3 18] (some [3, 9, 10, 11])))))
(.ops [opC 19 (.bin .add 3 (.t 11) (icC 1)),
mvC 11 19] (some [3, 9, 10, 11]))))))))
(.seq (.ops [opC 2 (.move (.c (.bool true)))] (some [2]))
.ret))))), [.tmp 2]⟩

theorem is175 : FnIs Tryz.prog 175 x175 := ⟨Tryz.f175, _, Tryz.func175, by kernel_rfl, rfl, by kernel_rfl, by decide, by kernel_rfl⟩

/-- cloisonne/merge.Right -/
def x176 : XDecl := .code ⟨1, 
(.seq (.ops [opC 1 (.box (.t 0)),
opC 2 (.move (.c (.bool false)))] (some [1]))
(.seq (.ops [opC 3 (.fieldAddr 2 (.t 1)),
opC 4 (.load false 1 (.t 3)),
opC 5 (.bin .geq 3 (.t 4) (icC 1)),
mvC 6 5,
⟨some 7, some (6, true), .fieldAddr 2 (.t 1)⟩,
⟨some 8, some (6, true), .load false 1 (.t 7)⟩,
⟨some 9, some (6, true), .bin .leq 3 (.t 8) (icC 64)⟩,
opC 10 (.pick (.t 6) (.t 9) (.c (.bool false))),
mvC 11 10,
⟨some 12, some (11, true), .fieldAddr 1 (.t 1)⟩,
⟨some 13, some (11, true), .load false 1 (.t 12)⟩,
⟨some 14, some (11, true), .bin .eql 9 (.t 13) (.c (.string .empty))⟩,
⟨some 15, some (11, true), .move (.t 14)⟩,
⟨some 16, some (15, false), .fieldAddr 1 (.t 1)⟩,
⟨some 17, some (15, false), .load false 1 (.t 16)⟩,
⟨some 18, some (15, false), .fieldAddr 0 (.t 1)⟩,
⟨some 19, some (15, false), .load false 1 (.t 18)⟩,
⟨some 20, some (15, false), .bin .gtr 9 (.t 17) (.t 19)⟩,
⟨some 21, some (11, true), .pick (.t 15) (.c (.bool true)) (.t 20)⟩,
opC 22 (.pick (.t 11) (.t 21) (.c (.bool false))),
mvC 2 22] (some [2]))
.ret)), [.tmp 2]⟩

theorem is176 : FnIs Tryz.prog 176 x176 := ⟨Tryz.f176, _, Tryz.func176, by kernel_rfl, rfl, by kernel_rfl, by decide, by kernel_rfl⟩

/-- cloisonne/wire.parts -/
def x179 : XDecl := .code ⟨1, 
(.seq (.ops [opC 2 (.move (.c (.slice none 0 0))),
opC 3 (.move (.c (.slice none 0 0))),
opC 4 (.move (.c (.bool false)))] (some [0]))
(.seq (.ops [opC 5 (.move (.c (.slice none 0 0)))] (some [0, 5]))
(.seq (.ops [opC 6 (.move (.c (.slice none 0 0)))] (some [0, 5, 6]))
(.seq (.ops [opC 7 (.move (.c (.bool false)))] (some [0, 5, 6, 7]))
(.seq (.seq (.ops [mvC 10 0,
opC 11 (.calcB .len [9] 3 [(.t 10)]),
opC 12 (.move (icC 0))] (some [0, 5, 6, 7, 11, 12]))
(.block 0
(.loop
(.seq (.ops [opC 13 (.bin .lss 3 (.t 12) (.t 11))] (some [0, 5, 6, 7, 11, 12, 13]))
(.seq (.cond (.t 13)
.skip
(.exit 0))
(.seq (.block 1
(.seq (.ops [mvC 14 12,
mvC 8 14] (some [0, 5, 6, 7, 8, 11, 12]))
(.seq (.ops [mvC 15 0,
mvC 16 8,
opC 17 (.index 9 (.t 15) (.t 16)),
mvC 9 17] (some [0, 5, 6, 7, 9, 11, 12]))
(.block 2
(.seq (.ops [mvC 19 9,
opC 20 (.bin .eql 5 (.t 19) (.c (.int .u8 42))),
mvC 21 20,
⟨some 22, some (21, true), .move (.t 7)⟩,
⟨some 23, some (21, true), .un .not (.t 22)⟩,
opC 24 (.pick (.t 21) (.t 23) (.c (.bool false))),
mvC 18 24] (some [0, 5, 6, 7, 9, 11, 12, 18]))
(.cond (.t 18)
(.ops [opC 7 (.move (.c (.bool true)))] (some [0, 5, 6, 7, 11, 12]))
(.seq (.ops [mvC 26 9,
opC 27 (clC 239 [(.t 26)]),
mvC 25 27] (some [0, 5, 6, 7, 9, 11, 12, 25]))
(.cond (.t 25)
(.seq (.ops [mvC 28 5,
mvC 29 9,
opC 30 (.buildSlice [(.int .u8 0)] 1 1 [(0, (.t 29))]),
opC 31 (.append 1 1 [(.int .u8 0)] (.t 28) (.t 30)),
mvC 32 6,
mvC 33 7,
opC 34 (.buildSlice [(.bool false)] 1 1 [(0, (.t 33))]),
opC 35 (.append 1 1 [(.bool false)] (.t 32) (.t 34)),
mvC 5 31,
mvC 6 35] (some [0, 5, 6, 11, 12]))
(.ops [opC 7 (.move (.c (.bool false)))] (some [0, 5, 6, 7, 11, 12])))
(.seq (.ops [opC 2 (.move (.c (.slice none 0 0))),
opC 3 (.move (.c (.slice none 0 0))),
opC 4 (.move (.c (.bool false)))] (some [2, 3, 4]))
.ret)))))))))
(.ops [opC 36 (.bin .add 3 (.t 12) (icC 1)),
mvC 12 36] (some [0, 5, 6, 7, 11, 12]))))))))
(.seq (.ops [mvC 37 5,
mvC 38 6,
mvC 39 7,
opC 40 (.un .not (.t 39)),
mvC 41 40,
⟨some 42, some (41, true), .move (.t 0)⟩,
⟨some 43, some (41, true), .calcB .len [9] 3 [(.t 42)]⟩,
⟨some 44, some (41, true), .bin .leq 3 (.t 43) (icC 40)⟩,
opC 45 (.pick (.t 41) (.t 44) (.c (.bool false))),
mvC 2 37,
mvC 3 38,
mvC 4 45] (some [2, 3, 4]))
.ret)))))), [.tmp 2, .tmp 3, .tmp 4]⟩

theorem is179 : FnIs Tryz.prog 179 x179 := ⟨Tryz.f179, _, Tryz.func179, by kernel_rfl, rfl, by kernel_rfl, by decide, by kernel_rfl⟩

/-- cloisonne/wire.check -/
def x180 : XDecl := .code ⟨2, 
(.seq (.ops [mvC 4 0,
opC 5 (.un .not (.t 4))] (some [1, 5]))
(.cond (.t 5)
(.ops [mvC 6 1,
opC 7 (.makeIface 365 (.t 6)),
⟨none, none, .fail⟩] (some []))
.skip)), []⟩

theorem is180 : FnIs Tryz.prog 180 x180 := ⟨Tryz.f180, _, Tryz.func180, by kernel_rfl, rfl, by kernel_rfl, by decide, by kernel_rfl⟩

/-- (*cloisonne/wire.printer).one -/
def x182 : XDecl := .code ⟨3, 
(.seq (.ops [opC 5 (.box (.t 2))] (some [0, 1, 5]))
(.seq (.ops [opC 9 (.fieldAddr 3 (.t 5)),
opC 10 (.load false 1 (.t 9)),
opC 11 (.len (.t 10)),
opC 12 (.bin .eql 3 (.t 11) (icC 0)),
opC 13 (clC 180 [(.t 12), (icC 1)])] (some [0, 1, 5]))
(.seq (.ops [mvC 14 1] (some [0, 5, 14]))
(.block 0
(.seq (.ops [opC 16 (.bin .eql 5 (.t 14) (.c (.int .u8 98))),
mvC 15 16] (some [0, 5, 14, 15]))
(.cond (.t 15)
(.seq (.ops [opC 17 (.load true 4 (.t 5)),
opC 18 (clC 240 [(.t 17), (.c (.bool true)), (.c (.bool false)), (.c (.bool false))]),
mvC 19 18,
⟨some 20, some (19, true), .fieldAddr 0 (.t 5)⟩,
⟨some 21, some (19, true), .load false 1 (.t 20)⟩,
⟨some 22, some (19, true), .bin .leq 77 (.t 21) (.c (.int .u64 255))⟩,
opC 23 (.pick (.t 19) (.t 22) (.c (.bool false))),
opC 24 (clC 180 [(.t 23), (icC 1)])] (some [0, 5]))
(.opsd [(0, 0, mvC 25 0),
(1, 0, mvC 26 0),
(2, 2, opC 27 (.nilCheck (.t 26))),
(3, 6, opC 28 (.fieldAddr 0 (.t 27))),
(4, 14, opC 29 (.load false 1 (.t 28))),
(5, 0, opC 30 (.fieldAddr 0 (.t 5))),
(6, 32, opC 31 (.load false 1 (.t 30))),
(7, 96, opC 32 (.conv 77 5 (.t 31))),
(8, 224, opC 33 (.buildSlice [(.int .u8 0)] 1 1 [(0, (.t 32))])),
(9, 510, opC 34 (.append 1 1 [(.int .u8 0)] (.t 29) (.t 33))),
(10, 1023, opC 35 (.nilCheck (.t 25))),
(11, 2047, opC 36 (.fieldAddr 0 (.t 35))),
(12, 4095, ⟨none, none, .store 1 (.t 36) (.t 34)⟩)] (some [])))
(.seq (.ops [opC 38 (.bin .eql 5 (.t 14) (.c (.int .u8 110))),
mvC 37 38] (some [0, 5, 14, 37]))
(.cond (.t 37)
(.seq (.ops [opC 39 (.load true 4 (.t 5)),
opC 40 (clC 240 [(.t 39), (.c (.bool true)), (.c (.bool false)), (.c (.bool false))]),
opC 41 (clC 180 [(.t 40), (icC 1)])] (some [0, 5]))
(.ops [mvC 42 0,
opC 43 (.fieldAddr 0 (.t 5)),
opC 44 (.load false 1 (.t 43)),
opC 45 (clC 241 [(.t 42), (.t 44)])] (some [])))
(.seq (.ops [opC 47 (.bin .eql 5 (.t 14) (.c (.int .u8 116))),
mvC 46 47] (some [0, 5, 14, 46]))
(.cond (.t 46)
(.seq (.ops [opC 48 (.load true 4 (.t 5)),
opC 49 (clC 240 [(.t 48), (.c (.bool false)), (.c (.bool true)), (.c (.bool false))]),
mvC 50 49,
⟨some 51, some (50, true), .fieldAddr 1 (.t 5)⟩,
⟨some 52, some (50, true), .load false 1 (.t 51)⟩,
⟨some 53, some (50, true), .calcB .len [9] 3 [(.t 52)]⟩,
⟨some 54, some (50, true), .bin .leq 3 (.t 53) (icC 200)⟩,
opC 55 (.pick (.t 50) (.t 54) (.c (.bool false))),
opC 56 (clC 180 [(.t 55), (icC 1)])] (some [0, 5]))
(.seq (.ops [mvC 57 0,
opC 58 (.fieldAddr 1 (.t 5)),
opC 59 (.load false 1 (.t 58)),
opC 60 (.calcB .len [9] 3 [(.t 59)]),
opC 61 (.conv 3 77 (.t 60)),
opC 62 (clC 241 [(.t 57), (.t 61)])] (some [0, 5]))
(.opsd [(0, 0, mvC 63 0),
(1, 0, mvC 64 0),
(2, 2, opC 65 (.nilCheck (.t 64))),
(3, 6, opC 66 (.fieldAddr 0 (.t 65))),
(4, 14, opC 67 (.load false 1 (.t 66))),
(5, 0, opC 68 (.fieldAddr 1 (.t 5))),
(6, 32, opC 69 (.load false 1 (.t 68))),
(7, 126, opC 70 (.append 1 1 [(.int .u8 0)] (.t 67) (.t 69))),
(8, 255, opC 71 (.nilCheck (.t 63))),
(9, 511, opC 72 (.fieldAddr 0 (.t 71))),
(10, 1023, ⟨none, none, .store 1 (.t 72) (.t 70)⟩)] (some []))))
(.seq (.ops [opC 74 (.bin .eql 5 (.t 14) (.c (.int .u8 102))),
mvC 73 74] (some [0, 5, 14, 73]))
(.cond (.t 73)
(.seq (.ops [opC 75 (.fieldAddr 0 (.t 5)),
opC 76 (.load false 1 (.t 75)),
opC 77 (clC 168 [(.t 76)]),
mvC 6 77] (some [0, 5, 6]))
(.seq (.opsd [(0, 0, opC 78 (.load true 4 (.t 5))),
(1, 1, opC 79 (clC 240 [(.t 78), (.c (.bool true)), (.c (.bool false)), (.c (.bool false))])),
(2, 3, mvC 80 79),
(3, 7, ⟨some 81, some (80, true), .move (.t 6)⟩),
(5, 7, ⟨some 83, some (80, true), .fieldAddr 0 (.t 5)⟩),
(6, 39, ⟨some 84, some (80, true), .load false 1 (.t 83)⟩),
(4, 15, ⟨some 82, some (80, true), clC 167 [(.t 81)]⟩),
(7, 127, ⟨some 85, some (80, true), .bin .eql 77 (.t 82) (.t 84)⟩),
(8, 255, opC 86 (.pick (.t 80) (.t 85) (.c (.bool false)))),
(9, 511, opC 87 (clC 180 [(.t 86), (icC 1)]))] (some [0, 6]))
(.opsd [(0, 0, mvC 88 0),
(1, 0, mvC 89 0),
(2, 2, opC 90 (.nilCheck (.t 89))),
(3, 6, opC 91 (.fieldAddr 0 (.t 90))),
(4, 14, opC 92 (.load false 1 (.t 91))),
(5, 0, mvC 93 6),
(6, 32, opC 94 (clC 242 [(.t 93)])),
(7, 126, opC 95 (.append 1 1 [(.int .u8 0)] (.t 92) (.t 94))),
(8, 255, opC 96 (.nilCheck (.t 88))),
(9, 511, opC 97 (.fieldAddr 0 (.t 96))),
(10, 1023, ⟨none, none, .store 1 (.t 97) (.t 95)⟩)] (some []))))
(.seq (.ops [opC 99 (.bin .eql 5 (.t 14) (.c (.int .u8 108))),
mvC 98 99] (some [0, 5, 98]))
(.cond (.t 98)
(.seq (.ops [opC 101 (.fieldAddr 2 (.t 5)),
opC 102 (.load false 1 (.t 101)),
opC 103 (clC 243 [(.t 102)]),
mvC 100 103,
opC 104 (.extract (.t 100) 0),
opC 105 (.extract (.t 100) 1),
mvC 7 104,
mvC 8 105] (some [0, 5, 7, 8]))
(.seq (.ops [opC 106 (.load true 4 (.t 5)),
opC 107 (clC 240 [(.t 106), (.c (.bool false)), (.c (.bool false)), (.c (.bool true))]),
mvC 108 107,
⟨some 109, some (108, true), .move (.t 8)⟩,
⟨some 110, some (108, true), .bin .eql 32 (.t 109) (icC 0)⟩,
opC 111 (.pick (.t 108) (.t 110) (.c (.bool false))),
opC 112 (clC 180 [(.t 111), (icC 1)])] (some [0, 7]))
(.ops [mvC 113 0,
mvC 114 0,
opC 115 (.nilCheck (.t 114)),
opC 116 (.fieldAddr 0 (.t 115)),
opC 117 (.load false 1 (.t 116)),
mvC 118 7,
opC 119 (.append 1 1 [(.int .u8 0)] (.t 117) (.t 118)),
opC 120 (.nilCheck (.t 113)),
opC 121 (.fieldAddr 0 (.t 120)),
⟨none, none, .store 1 (.t 121) (.t 119)⟩] (some []))))
.skip)))))))))))))), []⟩

theorem is182 : FnIs Tryz.prog 182 x182 := ⟨Tryz.f182, _, Tryz.func182, by kernel_rfl, rfl, by kernel_rfl, by decide, by kernel_rfl⟩

/-- cloisonne/value.Pack -/
def x183 : XDecl := .code ⟨1, 
(.seq (.ops [opC 1 (.box (.t 0)),
opC 2 (.move (.c (.string .empty))),
opC 3 (.move (icC 0))] (some [1]))
(.seq (.block 0
(.seq (.ops [opC 5 (.load true 3 (.t 1)),
opC 6 (clC 116 [(.t 5)]),
opC 7 (.un .not (.t 6)),
mvC 4 7] (some [1, 4]))
(.cond (.t 4)
(.seq (.ops [opC 2 (.move (.c (.string .empty))),
opC 3 (.move (icC 1))] (some [2, 3]))
.ret)
(.seq (.ops [opC 9 (.fieldAddr 0 (.t 1)),
opC 10 (.load false 1 (.t 9)),
mvC 8 10] (some [1, 8]))
(.cond (.t 8)
(.seq (.ops [opC 11 (.fieldAddr 2 (.t 1)),
opC 12 (.load false 1 (.t 11)),
opC 13 (clC 168 [(.t 12)]),
opC 14 (clC 242 [(.t 13)]),
opC 15 (.bin .add 9 (.c (.string ⟨#[1]⟩)) (.t 14)),
mvC 2 15,
opC 3 (.move (icC 0))] (some [2, 3]))
.ret)
.skip)))))
(.seq (.ops [opC 16 (.fieldAddr 1 (.t 1)),
opC 17 (.load false 1 (.t 16)),
opC 18 (.bin .add 9 (.c (.string ⟨#[0]⟩)) (.t 17)),
mvC 2 18,
opC 3 (.move (icC 0))] (some [2, 3]))
.ret))), [.tmp 2, .tmp 3]⟩

theorem is183 : FnIs Tryz.prog 183 x183 := ⟨Tryz.f183, _, Tryz.func183, by kernel_rfl, rfl, by kernel_rfl, by decide, by kernel_rfl⟩

/-- cloisonne/wire.Begin -/
def x184 : XDecl := .codeD ⟨2, 
(.seq (.ops [opC 4 (.alloc [(.slice none 0 0)]),
opC 5 (.alloc [(.int .i64 0)]),
opC 6 (.alloc [(.int .i64 0)])] (some [0, 1, 4, 5, 6, 1000000]))
(.seq (.ops [opC 13 (.makeFunc (.func 244) [] [(.t 6), (.t 4), (.t 5)]),
⟨none, none, .dfrc (.t 13)⟩] (some [0, 1, 4, 5, 6, 1000000]))
(.seq (.ops [⟨none, none, .dfr [(.t 6)]⟩] (some [0, 1, 4, 5, 6, 1000000]))
(.seq (.ops [mvC 15 0,
opC 16 (clC 179 [(.t 15)]),
mvC 14 16,
opC 17 (.extract (.t 14) 0),
opC 18 (.extract (.t 14) 1),
opC 19 (.extract (.t 14) 2),
mvC 7 17,
mvC 8 18,
mvC 9 19] (some [1, 4, 5, 6, 7, 8, 9, 1000000]))
(.seq (.ops [mvC 20 9,
opC 21 (clC 180 [(.t 20), (icC 1)])] (some [1, 4, 5, 6, 7, 8, 1000000]))
(.seq (.ops [mvC 22 1,
opC 23 (.build [(.string .empty)] [(0, 1)] [(0, (.t 22))]),
opC 24 (.box (.t 23)),
mvC 10 24] (some [1, 4, 5, 6, 7, 8, 10, 1000000]))
(.seq (.seq (.ops [mvC 25 7,
opC 26 (.len (.t 25)),
opC 27 (.move (icC 0))] (some [1, 4, 5, 6, 8, 10, 25, 26, 27, 1000000]))
(.block 0
(.loop
(.seq (.ops [opC 28 (.bin .lss 3 (.t 27) (.t 26))] (some [1, 4, 5, 6, 8, 10, 25, 26, 27, 28, 1000000]))
(.seq (.cond (.t 28)
.skip
(.exit 0))
(.seq (.block 1
(.seq (.ops [mvC 29 27,
opC 30 (.indexAddr 1 (.t 25) (.t 27)),
opC 31 (.load false 1 (.t 30)),
mvC 11 29,
mvC 12 31] (some [1, 4, 5, 6, 8, 10, 11, 12, 25, 26, 27, 1000000]))
(.seq (.ops [mvC 32 8,
mvC 33 11,
opC 34 (.indexAddr 1 (.t 32) (.t 33)),
opC 35 (.load false 1 (.t 34))] (some [1, 4, 5, 6, 8, 10, 12, 25, 26, 27, 35, 1000000]))
(.cond (.t 35)
(.opsc [(0, 0, opC 36 (.load false 1 (.t 4))),
(1, 0, mvC 37 10),
(2, 0, mvC 38 12),
(4, 1, opC 40 (.len (.t 36))),
(5, 0, opC 41 (.buildSlice [(.int .u64 0), (.string .empty), (.slice none 0 0), (.slice none 0 0)] 4 1 [(0, (.c (.agg #[(.int .u64 0), (.string .empty), (.slice none 0 0), (.slice none 0 0)])))])),
(3, 6, opC 39 (clC 245 [(.t 37), (.t 38)])),
(6, 63, opC 42 (.append 4 72 [(.int .u64 0), (.string .empty), (.slice none 0 0), (.slice none 0 0)] (.t 36) (.t 41))),
(7, 127, opC 43 (.indexAddr 4 (.t 42) (.t 40))),
(8, 255, ⟨none, none, .store 4 (.t 43) (.t 39)⟩),
(9, 127, ⟨none, none, .store 1 (.t 4) (.t 42)⟩)] (some [1, 4, 5, 6, 8, 10, 25, 26, 27, 1000000]))
(.opsc [(0, 0, opC 44 (.load false 1 (.t 4))),
(1, 0, mvC 45 10),
(2, 0, mvC 46 12),
(4, 1, opC 48 (.len (.t 44))),
(5, 0, opC 49 (.buildSlice [(.int .u64 0), (.string .empty), (.slice none 0 0), (.slice none 0 0)] 4 1 [(0, (.c (.agg #[(.int .u64 0), (.string .empty), (.slice none 0 0), (.slice none 0 0)])))])),
(3, 6, opC 47 (clC 246 [(.t 45), (.t 46)])),
(6, 63, opC 50 (.append 4 72 [(.int .u64 0), (.string .empty), (.slice none 0 0), (.slice none 0 0)] (.t 44) (.t 49))),
(7, 127, opC 51 (.indexAddr 4 (.t 50) (.t 48))),
(8, 255, ⟨none, none, .store 4 (.t 51) (.t 47)⟩),
(9, 127, ⟨none, none, .store 1 (.t 4) (.t 50)⟩)] (some [1, 4, 5, 6, 8, 10, 25, 26, 27, 1000000]))))))
(.ops [opC 52 (.bin .add 3 (.t 27) (icC 1)),
mvC 27 52] (some [1, 4, 5, 6, 8, 10, 25, 26, 27, 1000000]))))))))
(.seq (.opsd [(0, 0, opC 53 (.load false 1 (.t 4))),
(1, 0, mvC 54 1),
(2, 2, opC 55 (.calcB .len [9] 3 [(.t 54)])),
(3, 0, mvC 56 10),
(4, 8, opC 57 (.nilCheck (.t 56))),
(5, 24, opC 58 (.fieldAddr 0 (.t 57))),
(6, 56, opC 59 (.load false 1 (.t 58))),
(7, 120, opC 60 (.calcB .len [9] 3 [(.t 59)])),
(8, 254, opC 61 (.bin .sub 3 (.t 55) (.t 60))),
(9, 1, ⟨none, none, .store 1 (.t 4) (.t 53)⟩),
(10, 1023, ⟨none, none, .store 1 (.t 5) (.t 61)⟩),
(11, 2047, ⟨none, none, .store 1 (.t 6) (icC 0)⟩)] (some [4, 5, 6, 1000000]))
.ret)))))))), [.cell false 1 4, .cell false 1 5, .cell false 1 6]⟩

theorem is184 : FnIs Tryz.prog 184 x184 := ⟨Tryz.f184, _, Tryz.func184, by kernel_rfl, rfl, by kernel_rfl, by decide, by kernel_rfl⟩

/-- cloisonne/ask.Fits$1 -/
def x185 : XDecl := .code ⟨1, 
(.seq (.ops [opC 1 (.box (.t 0)),
opC 2 (.move (.c (.bool false)))] (some [1]))
(.seq (.ops [opC 3 (.load true 5 (.t 1)),
opC 4 (clC 186 [(.t 3)]),
opC 5 (.un .not (.t 4)),
mvC 2 5] (some [2]))
.ret)), [.tmp 2]⟩

theorem is185 : FnIs Tryz.prog 185 x185 := ⟨Tryz.f185, _, Tryz.func185, by kernel_rfl, rfl, by kernel_rfl, by decide, by kernel_rfl⟩

/-- cloisonne/ask.fits -/
def x186 : XDecl := .code ⟨1, 
(.seq (.ops [opC 1 (.box (.t 0)),
opC 2 (.move (.c (.bool false)))] (some [1]))
(.seq (.ops [opC 3 (.fieldAddr 0 (.t 1)),
opC 4 (.load false 1 (.t 3)),
opC 5 (clC 125 [(.t 4), (icC 0), (icC 2147483647)]),
mvC 6 5,
⟨some 7, some (6, true), .fieldAddr 1 (.t 1)⟩,
⟨some 8, some (6, true), .load false 1 (.t 7)⟩,
⟨some 9, some (6, true), .calcB .len [9] 3 [(.t 8)]⟩,
⟨some 10, some (6, true), .bin .leq 3 (.t 9) (icC 200)⟩,
opC 11 (.pick (.t 6) (.t 10) (.c (.bool false))),
mvC 12 11,
⟨some 13, some (12, true), .fieldAddr 2 (.t 1)⟩,
⟨some 14, some (12, true), .load true 3 (.t 13)⟩,
⟨some 15, some (12, true), clC 116 [(.t 14)]⟩,
opC 16 (.pick (.t 12) (.t 15) (.c (.bool false))),
mvC 2 16] (some [2]))
.ret)), [.tmp 2]⟩

theorem is186 : FnIs Tryz.prog 186 x186 := ⟨Tryz.f186, _, Tryz.func186, by kernel_rfl, rfl, by kernel_rfl, by decide, by kernel_rfl⟩

/-- slices.ContainsFunc[[]cloisonne/api.Row,cloisonne/api.Row] -/
def x188 : XDecl := .code ⟨2, 
(.seq (.ops [opC 4 (.move (.c (.bool false)))] (some [0, 1]))
(.seq (.ops [mvC 5 0,
mvC 6 1,
opC 7 (clC 248 [(.t 5), (.t 6)]),
opC 8 (.bin .geq 3 (.t 7) (icC 0)),
mvC 4 8] (some [4]))
.ret)), [.tmp 4]⟩

theorem is188 : FnIs Tryz.prog 188 x188 := ⟨Tryz.f188, _, Tryz.func188, by kernel_rfl, rfl, by kernel_rfl, by decide, by kernel_rfl⟩

/-- cloisonne/value.Unpack -/
def x189 : XDecl := .code ⟨1, 
(.seq (.ops [opC 2 (.alloc [(.bool false), (.string .empty), (.int .u64 0)]),
opC 3 (.move (icC 0))] (some [0, 2]))
(.seq (.seq (.ops [mvC 10 0,
opC 11 (.bin .eql 9 (.t 10) (.c (.string .empty)))] (some [0, 2, 11]))
(.cond (.t 11)
(.seq (.ops [opC 12 (.build [(.bool false), (.string .empty), (.int .u64 0)] [(0, 1), (1, 1), (2, 1)] []),
⟨none, none, .store 3 (.t 2) (.t 12)⟩,
opC 3 (.move (icC 3))] (some [2, 3]))
.ret)
.skip))
(.seq (.seq (.ops [mvC 14 0,
opC 15 (clC 249 [(.t 14), (.c (.string ⟨#[1]⟩))]),
mvC 13 15,
opC 16 (.extract (.t 13) 0),
opC 17 (.extract (.t 13) 1),
mvC 4 16,
mvC 5 17] (some [0, 2, 4, 5]))
(.seq (.ops [mvC 18 5] (some [0, 2, 4, 18]))
(.cond (.t 18)
(.seq (.ops [mvC 20 4,
opC 21 (clC 250 [(.t 20)]),
mvC 19 21,
opC 22 (.extract (.t 19) 0),
opC 23 (.extract (.t 19) 1),
mvC 6 22,
mvC 7 23] (some [2, 6, 7]))
(.seq (.seq (.ops [mvC 24 7,
opC 25 (.bin .neq 32 (.t 24) (icC 0))] (some [2, 6, 25]))
(.cond (.t 25)
(.seq (.ops [opC 26 (.build [(.bool false), (.string .empty), (.int .u64 0)] [(0, 1), (1, 1), (2, 1)] []),
⟨none, none, .store 3 (.t 2) (.t 26)⟩,
opC 3 (.move (icC 4))] (some [2, 3]))
.ret)
.skip))
(.seq (.ops [mvC 27 6,
opC 28 (clC 251 [(.t 27)]),
⟨none, none, .store 3 (.t 2) (.t 28)⟩,
opC 3 (.move (icC 0))] (some [2, 3]))
.ret)))
.skip)))
(.seq (.ops [mvC 30 0,
opC 31 (clC 249 [(.t 30), (.c (.string ⟨#[0]⟩))]),
mvC 29 31,
opC 32 (.extract (.t 29) 0),
opC 33 (.extract (.t 29) 1),
mvC 8 32,
mvC 9 33] (some [2, 8, 9]))
(.seq (.seq (.ops [mvC 34 9,
opC 35 (.un .not (.t 34)),
mvC 36 35,
⟨some 37, some (36, false), .move (.t 8)⟩,
⟨some 38, some (36, false), .calcB .len [9] 3 [(.t 37)]⟩,
⟨some 39, some (36, false), .bin .gtr 3 (.t 38) (icC 64)⟩,
opC 40 (.pick (.t 36) (.c (.bool true)) (.t 39))] (some [2, 8, 40]))
(.cond (.t 40)
(.seq (.ops [opC 41 (.build [(.bool false), (.string .empty), (.int .u64 0)] [(0, 1), (1, 1), (2, 1)] []),
⟨none, none, .store 3 (.t 2) (.t 41)⟩,
opC 3 (.move (icC 4))] (some [2, 3]))
.ret)
.skip))
(.seq (.ops [mvC 42 8,
opC 43 (.build [(.bool false), (.string .empty), (.int .u64 0)] [(0, 1), (1, 1), (2, 1)] [(1, (.t 42))]),
⟨none, none, .store 3 (.t 2) (.t 43)⟩,
opC 3 (.move (icC 0))] (some [2, 3]))
.ret)))))), [.cell true 3 2, .tmp 3]⟩

theorem is189 : FnIs Tryz.prog 189 x189 := ⟨Tryz.f189, _, Tryz.func189, by kernel_rfl, rfl, by kernel_rfl, by decide, by kernel_rfl⟩

/-- (*cloisonne/ask.reader).field -/
def x190 : XDecl := .code ⟨3, 
(.seq (.ops [mvC 9 2] (some [0, 1, 9]))
(.block 0
(.seq (.ops [opC 11 (.bin .eql 160 (.t 9) (icC 0)),
mvC 10 11] (some [0, 1, 9, 10]))
(.cond (.t 10)
(.ops [mvC 12 1,
mvC 13 0,
opC 14 (clC 131 [(.t 13), (.c (.string ⟨#[110]⟩))]),
opC 15 (.indexAddr 4 (.t 14) (icC 0)),
opC 16 (.load true 4 (.t 15)),
opC 17 (clC 130 [(.t 16)]),
opC 18 (.nilCheck (.t 12)),
opC 19 (.fieldAddr 1 (.t 18)),
⟨none, none, .store 1 (.t 19) (.t 17)⟩] (some []))
(.seq (.ops [opC 21 (.bin .eql 160 (.t 9) (icC 1)),
mvC 20 21] (some [0, 1, 9, 20]))
(.cond (.t 20)
(.ops [mvC 22 1,
mvC 23 0,
opC 24 (clC 131 [(.t 23), (.c (.string ⟨#[108]⟩))]),
opC 25 (.indexAddr 4 (.t 24) (icC 0)),
opC 26 (.fieldAddr 2 (.t 25)),
opC 27 (.load false 1 (.t 26)),
opC 28 (.nilCheck (.t 22)),
opC 29 (.fieldAddr 2 (.t 28)),
⟨none, none, .store 1 (.t 29) (.t 27)⟩] (some []))
(.seq (.ops [opC 31 (.bin .eql 160 (.t 9) (icC 2)),
mvC 30 31] (some [0, 1, 9, 30]))
(.cond (.t 30)
(.ops [mvC 32 1,
mvC 33 0,
opC 34 (clC 131 [(.t 33), (.c (.string ⟨#[110]⟩))]),
opC 35 (.indexAddr 4 (.t 34) (icC 0)),
opC 36 (.fieldAddr 0 (.t 35)),
opC 37 (.load false 1 (.t 36)),
opC 38 (.nilCheck (.t 32)),
opC 39 (.fieldAddr 3 (.t 38)),
⟨none, none, .store 1 (.t 39) (.t 37)⟩] (some []))
(.seq (.ops [opC 41 (.bin .eql 160 (.t 9) (icC 3)),
mvC 40 41] (some [0, 1, 9, 40]))
(.cond (.t 40)
(.ops [mvC 42 1,
mvC 43 0,
opC 44 (clC 131 [(.t 43), (.c (.string ⟨#[98]⟩))]),
opC 45 (.indexAddr 4 (.t 44) (icC 0)),
opC 46 (.load true 4 (.t 45)),
opC 47 (clC 133 [(.t 46)]),
opC 48 (.nilCheck (.t 42)),
opC 49 (.fieldAddr 4 (.t 48)),
⟨none, none, .store 1 (.t 49) (.t 47)⟩] (some []))
(.seq (.ops [opC 51 (.bin .eql 160 (.t 9) (icC 4)),
mvC 50 51] (some [0, 1, 9, 50]))
(.cond (.t 50)
(.ops [mvC 52 1,
mvC 53 0,
opC 54 (clC 131 [(.t 53), (.c (.string ⟨#[110]⟩))]),
opC 55 (.indexAddr 4 (.t 54) (icC 0)),
opC 56 (.load true 4 (.t 55)),
opC 57 (clC 130 [(.t 56)]),
opC 58 (.nilCheck (.t 52)),
opC 59 (.fieldAddr 5 (.t 58)),
⟨none, none, .store 1 (.t 59) (.t 57)⟩] (some []))
(.seq (.ops [opC 61 (.bin .eql 160 (.t 9) (icC 5)),
mvC 60 61] (some [0, 1, 9, 60]))
(.cond (.t 60)
(.ops [mvC 62 1,
mvC 63 0,
opC 64 (clC 131 [(.t 63), (.c (.string ⟨#[116]⟩))]),
opC 65 (.indexAddr 4 (.t 64) (icC 0)),
opC 66 (.fieldAddr 1 (.t 65)),
opC 67 (.load false 1 (.t 66)),
opC 68 (.nilCheck (.t 62)),
opC 69 (.fieldAddr 6 (.t 68)),
⟨none, none, .store 1 (.t 69) (.t 67)⟩] (some []))
(.seq (.ops [opC 71 (.bin .eql 160 (.t 9) (icC 6)),
mvC 70 71] (some [0, 1, 9, 70]))
(.cond (.t 70)
(.ops [mvC 72 1,
mvC 73 0,
opC 74 (clC 134 [(.t 73)]),
opC 75 (.nilCheck (.t 72)),
opC 76 (.fieldAddr 7 (.t 75)),
⟨none, none, .store 3 (.t 76) (.t 74)⟩] (some []))
(.seq (.ops [opC 78 (.bin .eql 160 (.t 9) (icC 7)),
mvC 77 78] (some [0, 1, 9, 77]))
(.cond (.t 77)
(.seq (.ops [mvC 79 0,
opC 80 (clC 131 [(.t 79), (.c (.string ⟨#[116, 116, 110]⟩))]),
mvC 6 80] (some [1, 6]))
(.opsd [(0, 0, mvC 81 1),
(1, 0, mvC 82 6),
(2, 2, opC 83 (.indexAddr 4 (.t 82) (icC 0))),
(3, 6, opC 84 (.fieldAddr 1 (.t 83))),
(4, 14, opC 85 (.load false 1 (.t 84))),
(5, 0, mvC 86 6),
(6, 32, opC 87 (.indexAddr 4 (.t 86) (icC 1))),
(7, 96, opC 88 (.fieldAddr 1 (.t 87))),
(8, 224, opC 89 (.load false 1 (.t 88))),
(9, 0, mvC 90 6),
(10, 512, opC 91 (.indexAddr 4 (.t 90) (icC 2))),
(11, 1536, opC 92 (.load true 4 (.t 91))),
(12, 3584, opC 93 (clC 130 [(.t 92)])),
(13, 8190, opC 94 (.build [(.string .empty), (.string .empty), (.int .i64 0)] [(0, 1), (1, 1), (2, 1)] [(0, (.t 85)), (1, (.t 89)), (2, (.t 93))])),
(14, 16383, opC 95 (.nilCheck (.t 81))),
(15, 32767, opC 96 (.fieldAddr 10 (.t 95))),
(16, 65535, ⟨none, none, .store 3 (.t 96) (.t 94)⟩)] (some [])))
(.seq (.ops [opC 98 (.bin .eql 160 (.t 9) (icC 8)),
mvC 97 98] (some [0, 1, 9, 97]))
(.cond (.t 97)
(.ops [mvC 99 1,
mvC 100 0,
opC 101 (clC 131 [(.t 100), (.c (.string ⟨#[110]⟩))]),
opC 102 (.indexAddr 4 (.t 101) (icC 0)),
opC 103 (.load true 4 (.t 102)),
opC 104 (clC 130 [(.t 103)]),
opC 105 (.nilCheck (.t 99)),
opC 106 (.fieldAddr 13 (.t 105)),
⟨none, none, .store 1 (.t 106) (.t 104)⟩] (some []))
(.seq (.ops [opC 108 (.bin .eql 160 (.t 9) (icC 9)),
mvC 107 108] (some [0, 1, 107]))
(.cond (.t 107)
(.seq (.ops [mvC 109 0,
opC 110 (clC 131 [(.t 109), (.c (.string ⟨#[110]⟩))]),
opC 111 (.indexAddr 4 (.t 110) (icC 0)),
opC 112 (.load true 4 (.t 111)),
opC 113 (clC 130 [(.t 112)]),
mvC 7 113] (some [0, 1, 7]))
(.seq (.ops [mvC 114 7,
opC 115 (.bin .leq 3 (.t 114) (icC 32)),
opC 116 (clC 75 [(.t 115)])] (some [0, 1, 7]))
(.seq (.ops [mvC 117 7,
opC 118 (.move (icC 0))] (some [0, 1, 117, 118]))
(.block 1
(.loop
(.seq (.ops [opC 119 (.bin .lss 3 (.t 118) (.t 117))] (some [0, 1, 117, 118, 119]))
(.seq (.cond (.t 119)
.skip
(.exit 1))
(.seq (.block 2
(.seq (.ops [mvC 120 0,
opC 121 (clC 131 [(.t 120), (.c (.string ⟨#[110, 110]⟩))]),
mvC 8 121] (some [0, 1, 8, 117, 118]))
(.opsd [(0, 0, mvC 122 1),
(1, 0, mvC 123 1),
(2, 2, opC 124 (.nilCheck (.t 123))),
(3, 6, opC 125 (.fieldAddr 14 (.t 124))),
(4, 14, opC 126 (.load false 1 (.t 125))),
(5, 0, mvC 127 8),
(6, 32, opC 128 (.indexAddr 4 (.t 127) (icC 0))),
(7, 96, opC 129 (.load true 4 (.t 128))),
(9, 0, mvC 131 8),
(10, 512, opC 132 (.indexAddr 4 (.t 131) (icC 1))),
(11, 1536, opC 133 (.fieldAddr 0 (.t 132))),
(12, 3584, opC 134 (.load false 1 (.t 133))),
(8, 224, opC 130 (clC 130 [(.t 129)])),
(13, 8160, opC 135 (.build [(.int .i64 0), (.int .u64 0)] [(0, 1), (1, 1)] [(0, (.t 130)), (1, (.t 134))])),
(14, 16352, opC 136 (.buildSlice [(.int .i64 0), (.int .u64 0)] 2 1 [(0, (.t 135))])),
(15, 32766, opC 137 (.append 2 16 [(.int .i64 0), (.int .u64 0)] (.t 126) (.t 136))),
(16, 65535, opC 138 (.nilCheck (.t 122))),
(17, 131071, opC 139 (.fieldAddr 14 (.t 138))),
(18, 262143, ⟨none, none, .store 1 (.t 139) (.t 137)⟩)] (some [0, 1, 117, 118]))))
(.ops [opC 140 (.bin .add 3 (.t 118) (icC 1)),
mvC 118 140] (some [0, 1, 117, 118]))))))))))
.skip)))))))))))))))))))))), []⟩

theorem is190 : FnIs Tryz.prog 190 x190 := ⟨Tryz.f190, _, Tryz.func190, by kernel_rfl, rfl, by kernel_rfl, by decide, by kernel_rfl⟩

/-- cloisonne/sess.as -/
def x191 : XDecl := .code ⟨1, 
(.seq (.ops [opC 2 (.alloc [(.int .i64 0), (.int .u64 0), (.bool false), (.bool false), (.string .empty), (.int .u64 0), (.slice none 0 0), (.int .i64 0), (.int .u64 0), (.int .u64 0), (.int .u64 0), (.int .u64 0)])] (some [0, 2]))
(.seq (.ops [mvC 3 0,
opC 4 (.build [(.int .i64 0), (.int .u64 0), (.bool false), (.bool false), (.string .empty), (.int .u64 0), (.slice none 0 0), (.int .i64 0), (.int .u64 0), (.int .u64 0), (.int .u64 0), (.int .u64 0)] [(0, 1), (1, 1), (2, 1), (3, 3), (6, 1), (7, 5)] [(0, (.t 3))]),
⟨none, none, .store 12 (.t 2) (.t 4)⟩] (some [2]))
.ret)), [.cell true 12 2]⟩

theorem is191 : FnIs Tryz.prog 191 x191 := ⟨Tryz.f191, _, Tryz.func191, by kernel_rfl, rfl, by kernel_rfl, by decide, by kernel_rfl⟩

/-- (*cloisonne/sess.Session).outside -/
def x192 : XDecl := .code ⟨2, 
(.seq (.ops [opC 3 (.box (.t 1)),
opC 4 (.alloc [(.int .i64 0), (.int .u64 0), (.bool false), (.bool false), (.string .empty), (.int .u64 0), (.slice none 0 0), (.int .i64 0), (.int .u64 0), (.int .u64 0), (.int .u64 0), (.int .u64 0)]),
opC 5 (.move (.c (.bool false)))] (some [0, 3, 4]))
(.seq (.seq (.ops [opC 6 (.fieldAddr 0 (.t 3)),
opC 7 (.load false 1 (.t 6))] (some [0, 3, 4, 7]))
(.block 0
(.seq (.ops [opC 9 (.bin .eql 3 (.t 7) (icC 1)),
mvC 8 9] (some [0, 3, 4, 7, 8]))
(.cond (.t 8)
(.seq (.ops [mvC 10 0,
opC 11 (.load true 15 (.t 3)),
opC 12 (clC 252 [(.t 10), (.t 11)]),
⟨none, none, .store 12 (.t 4) (.t 12)⟩,
opC 5 (.move (.c (.bool true)))] (some [4, 5]))
.ret)
(.seq (.ops [opC 14 (.bin .eql 3 (.t 7) (icC 2)),
mvC 13 14] (some [0, 3, 4, 7, 13]))
(.cond (.t 13)
(.seq (.ops [mvC 15 0,
mvC 16 0,
opC 17 (.nilCheck (.t 15)),
opC 18 (.fieldAddr 3 (.t 17)),
⟨none, none, .store 1 (.t 18) (.c (.bool false))⟩,
opC 19 (.nilCheck (.t 16)),
opC 20 (.fieldAddr 6 (.t 19)),
⟨none, none, .store 1 (.t 20) (.c (.pointer none))⟩] (some [4]))
(.seq (.ops [opC 21 (clC 191 [(icC 0)]),
⟨none, none, .store 12 (.t 4) (.t 21)⟩,
opC 5 (.move (.c (.bool true)))] (some [4, 5]))
.ret))
(.seq (.ops [opC 23 (.bin .eql 3 (.t 7) (icC 3)),
mvC 22 23] (some [0, 3, 4, 7, 22]))
(.cond (.t 22)
(.seq (.ops [mvC 24 0,
opC 25 (.fieldAddr 2 (.t 3)),
opC 26 (.load false 1 (.t 25)),
opC 27 (clC 253 [(.t 24), (.t 26)]),
opC 28 (clC 191 [(.t 27)]),
⟨none, none, .store 12 (.t 4) (.t 28)⟩,
opC 5 (.move (.c (.bool true)))] (some [4, 5]))
.ret)
(.seq (.ops [opC 30 (.bin .eql 3 (.t 7) (icC 4)),
mvC 29 30] (some [0, 3, 4, 7, 29]))
(.cond (.t 29)
(.seq (.ops [mvC 31 0,
opC 32 (.load true 15 (.t 3)),
opC 33 (clC 254 [(.t 31), (.t 32)]),
⟨none, none, .store 12 (.t 4) (.t 33)⟩,
opC 5 (.move (.c (.bool true)))] (some [4, 5]))
.ret)
(.seq (.ops [opC 35 (.bin .eql 3 (.t 7) (icC 7)),
mvC 34 35] (some [0, 4, 34]))
(.cond (.t 34)
(.seq (.seq (.ops [mvC 36 0,
opC 37 (.nilCheck (.t 36)),
opC 38 (.fieldAddr 6 (.t 37)),
opC 39 (.load false 1 (.t 38)),
opC 40 (.isNil .ptr true (.t 39))] (some [0, 4, 40]))
(.cond (.t 40)
(.seq (.ops [opC 41 (clC 191 [(icC 8)]),
⟨none, none, .store 12 (.t 4) (.t 41)⟩,
opC 5 (.move (.c (.bool true)))] (some [4, 5]))
.ret)
.skip))
(.seq (.ops [mvC 42 0,
mvC 43 0,
opC 44 (.nilCheck (.t 43)),
opC 45 (.fieldAddr 0 (.t 44)),
opC 46 (.load false 1 (.t 45)),
opC 47 (clC 255 [(.t 46)]),
opC 48 (clC 256 []),
opC 49 (.build [(.int .u64 0), (.pointer none), (.int .i64 0)] [(0, 1), (1, 1), (2, 1)] [(0, (.t 47)), (1, (.t 48)), (2, (icC (-1)))]),
opC 50 (.box (.t 49)),
opC 51 (.nilCheck (.t 42)),
opC 52 (.fieldAddr 6 (.t 51)),
⟨none, none, .store 1 (.t 52) (.t 50)⟩] (some [4]))
(.seq (.ops [opC 53 (clC 191 [(icC 0)]),
⟨none, none, .store 12 (.t 4) (.t 53)⟩,
opC 5 (.move (.c (.bool true)))] (some [4, 5]))
.ret)))
.skip))))))))))))
(.seq (.ops [opC 54 (.build [(.int .i64 0), (.int .u64 0), (.bool false), (.bool false), (.string .empty), (.int .u64 0), (.slice none 0 0), (.int .i64 0), (.int .u64 0), (.int .u64 0), (.int .u64 0), (.int .u64 0)] [(0, 1), (1, 1), (2, 1), (3, 3), (6, 1), (7, 5)] []),
⟨none, none, .store 12 (.t 4) (.t 54)⟩,
opC 5 (.move (.c (.bool false)))] (some [4, 5]))
.ret))), [.cell true 12 4, .tmp 5]⟩

theorem is192 : FnIs Tryz.prog 192 x192 := ⟨Tryz.f192, _, Tryz.func192, by kernel_rfl, rfl, by kernel_rfl, by decide, by kernel_rfl⟩

/-- (*cloisonne/sess.Session).work -/
def x193 : XDecl := .code ⟨1, 
(.seq (.ops [opC 2 (.move (icC 0)),
opC 3 (.alloc [(.int .i64 0), (.int .u64 0), (.bool false), (.bool false), (.string .empty), (.int .u64 0), (.slice none 0 0), (.int .i64 0), (.int .u64 0), (.int .u64 0), (.int .u64 0), (.int .u64 0)]),
opC 4 (.move (icC 0))] (some [0, 3]))
(.seq (.ops [mvC 12 0,
opC 13 (.nilCheck (.t 12)),
opC 14 (.fieldAddr 7 (.t 13)),
opC 15 (.load false 1 (.t 14)),
mvC 5 15] (some [0, 3, 5]))
(.seq (.seq (.ops [mvC 16 5,
opC 17 (.nilCheck (.t 16)),
opC 18 (.fieldAddr 17 (.t 17)),
opC 19 (.load false 1 (.t 18)),
opC 20 (.isNil .ptr false (.t 19))] (some [0, 3, 5, 20]))
(.cond (.t 20)
(.seq (.ops [mvC 22 0,
mvC 23 5,
opC 24 (.nilCheck (.t 23)),
opC 25 (.fieldAddr 0 (.t 24)),
opC 26 (.load true 15 (.t 25)),
opC 27 (clC 257 [(.t 22), (.t 26)]),
mvC 21 27,
opC 28 (.extract (.t 21) 0),
opC 29 (.extract (.t 21) 1),
opC 7 (.alloc [(.int .i64 0), (.int .u64 0), (.bool false), (.bool false), (.string .empty), (.int .u64 0), (.slice none 0 0), (.int .i64 0), (.int .u64 0), (.int .u64 0), (.int .u64 0), (.int .u64 0)]),
mvC 6 28,
⟨none, none, .store 12 (.t 7) (.t 29)⟩] (some [3, 5, 6, 7]))
(.seq (.seq (.ops [mvC 30 6,
opC 31 (.isNil .ptr false (.t 30))] (some [3, 5, 6, 7, 31]))
(.cond (.t 31)
(.seq (.opsd [(0, 0, opC 32 (.load true 12 (.t 7))),
(1, 0, opC 2 (.move (icC 2))),
(2, 3, ⟨none, none, .store 12 (.t 3) (.t 32)⟩),
(3, 7, opC 4 (.move (icC 0)))] (some [2, 3, 4]))
.ret)
.skip))
(.ops [mvC 33 5,
mvC 34 6,
opC 35 (.nilCheck (.t 33)),
opC 36 (.fieldAddr 17 (.t 35)),
⟨none, none, .store 1 (.t 36) (.t 34)⟩] (some [3, 5]))))
.skip))
(.seq (.ops [mvC 38 5,
opC 39 (.nilCheck (.t 38)),
opC 40 (.fieldAddr 17 (.t 39)),
opC 41 (.load false 1 (.t 40)),
opC 42 (clC 94 [(.t 41)]),
mvC 37 42,
opC 43 (.extract (.t 37) 0),
opC 44 (.extract (.t 37) 1),
mvC 8 43,
mvC 9 44] (some [3, 5, 8, 9]))
(.seq (.seq (.ops [mvC 45 9,
opC 46 (.bin .neq 32 (.t 45) (icC 0)),
mvC 47 46,
⟨some 48, some (47, false), .move (.t 8)⟩,
⟨some 49, some (47, false), .bin .neq 3 (.t 48) (icC 2)⟩,
opC 50 (.pick (.t 47) (.c (.bool true)) (.t 49))] (some [3, 5, 8, 9, 50]))
(.cond (.t 50)
(.seq (.ops [mvC 51 8,
opC 52 (.build [(.int .i64 0), (.int .u64 0), (.bool false), (.bool false), (.string .empty), (.int .u64 0), (.slice none 0 0), (.int .i64 0), (.int .u64 0), (.int .u64 0), (.int .u64 0), (.int .u64 0)] [(0, 1), (1, 1), (2, 1), (3, 3), (6, 1), (7, 5)] []),
mvC 53 9,
mvC 2 51,
⟨none, none, .store 12 (.t 3) (.t 52)⟩,
mvC 4 53] (some [2, 3, 4]))
.ret)
.skip))
(.seq (.ops [mvC 55 5,
opC 56 (.nilCheck (.t 55)),
opC 57 (.fieldAddr 17 (.t 56)),
opC 58 (.load false 1 (.t 57)),
opC 59 (clC 95 [(.t 58)]),
mvC 54 59,
opC 60 (.extract (.t 54) 0),
opC 61 (.extract (.t 54) 1),
opC 62 (.extract (.t 54) 2),
mvC 10 60,
mvC 9 61,
mvC 11 62] (some [3, 9, 10]))
(.seq (.ops [mvC 63 9,
mvC 64 10,
opC 65 (.build [(.int .i64 0), (.int .u64 0), (.bool false), (.bool false), (.string .empty), (.int .u64 0), (.slice none 0 0), (.int .i64 0), (.int .u64 0), (.int .u64 0), (.int .u64 0), (.int .u64 0)] [(0, 1), (1, 1), (2, 1), (3, 3), (6, 1), (7, 5)] [(0, (.t 63)), (1, (.t 64))]),
opC 2 (.move (icC 2)),
⟨none, none, .store 12 (.t 3) (.t 65)⟩,
opC 4 (.move (icC 0))] (some [2, 3, 4]))
.ret))))))), [.tmp 2, .cell true 12 3, .tmp 4]⟩

theorem is193 : FnIs Tryz.prog 193 x193 := ⟨Tryz.f193, _, Tryz.func193, by kernel_rfl, rfl, by kernel_rfl, by decide, by kernel_rfl⟩

/-- (*cloisonne/sess.Session).scan -/
def x194 : XDecl := .code ⟨1, 
(.seq (.ops [opC 2 (.move (icC 0)),
opC 3 (.alloc [(.int .i64 0), (.int .u64 0), (.bool false), (.bool false), (.string .empty), (.int .u64 0), (.slice none 0 0), (.int .i64 0), (.int .u64 0), (.int .u64 0), (.int .u64 0), (.int .u64 0)])] (some [0, 3]))
(.seq (.ops [mvC 11 0,
opC 12 (.nilCheck (.t 11)),
opC 13 (.fieldAddr 7 (.t 12)),
opC 14 (.load false 1 (.t 13)),
mvC 4 14] (some [0, 3, 4]))
(.seq (.seq (.ops [mvC 15 4,
opC 16 (.nilCheck (.t 15)),
opC 17 (.fieldAddr 18 (.t 16)),
opC 18 (.load false 1 (.t 17)),
opC 19 (.isNil .ptr false (.t 18))] (some [0, 3, 4, 19]))
(.cond (.t 19)
(.seq (.ops [mvC 20 0,
mvC 21 4,
opC 22 (.nilCheck (.t 21)),
opC 23 (.fieldAddr 0 (.t 22)),
opC 24 (.load true 15 (.t 23)),
opC 25 (clC 258 [(.t 20), (.t 24)]),
mvC 5 25] (some [0, 3, 4, 5]))
(.seq (.ops [mvC 26 5,
opC 27 (.bin .neq 32 (.t 26) (icC 0))] (some [0, 3, 4, 5, 27]))
(.cond (.t 27)
(.seq (.ops [mvC 28 5,
opC 29 (clC 191 [(.t 28)]),
opC 2 (.move (icC 2)),
⟨none, none, .store 12 (.t 3) (.t 29)⟩] (some [2, 3]))
.ret)
.skip)))
.skip))
(.seq (.seq (.ops [mvC 31 0,
opC 32 (clC 259 [(.t 31)]),
mvC 30 32,
opC 33 (.extract (.t 30) 0),
opC 34 (.extract (.t 30) 1),
mvC 6 33,
mvC 7 34] (some [3, 4, 7]))
(.seq (.ops [mvC 35 7,
opC 36 (.bin .neq 32 (.t 35) (icC 0))] (some [3, 4, 7, 36]))
(.cond (.t 36)
(.seq (.ops [mvC 37 7,
opC 38 (clC 191 [(.t 37)]),
opC 2 (.move (icC 2)),
⟨none, none, .store 12 (.t 3) (.t 38)⟩] (some [2, 3]))
.ret)
.skip)))
(.seq (.ops [mvC 40 4,
opC 41 (.nilCheck (.t 40)),
opC 42 (.fieldAddr 18 (.t 41)),
opC 43 (.load false 1 (.t 42)),
opC 44 (clC 260 [(.t 43), (icC 4)]),
mvC 39 44,
opC 45 (.extract (.t 39) 0),
opC 46 (.extract (.t 39) 1),
opC 47 (.extract (.t 39) 2),
mvC 8 45,
mvC 9 46,
mvC 10 47] (some [3, 4, 8, 9, 10]))
(.seq (.seq (.ops [mvC 48 10,
opC 49 (.bin .neq 32 (.t 48) (icC 0))] (some [3, 4, 8, 9, 10, 49]))
(.cond (.t 49)
(.seq (.ops [mvC 50 10,
opC 51 (clC 191 [(.t 50)]),
opC 2 (.move (icC 2)),
⟨none, none, .store 12 (.t 3) (.t 51)⟩] (some [2, 3]))
.ret)
.skip))
(.seq (.ops [mvC 52 4,
mvC 53 4,
opC 54 (.nilCheck (.t 53)),
opC 55 (.fieldAddr 20 (.t 54)),
opC 56 (.load false 1 (.t 55)),
mvC 57 8,
opC 58 (.append 5 56 [(.int .i64 0), (.string .empty), (.bool false), (.string .empty), (.int .u64 0)] (.t 56) (.t 57)),
opC 59 (.nilCheck (.t 52)),
opC 60 (.fieldAddr 20 (.t 59)),
⟨none, none, .store 1 (.t 60) (.t 58)⟩] (some [3, 4, 9]))
(.seq (.seq (.ops [mvC 61 9,
opC 62 (.un .not (.t 61))] (some [3, 4, 62]))
(.cond (.t 62)
(.seq (.ops [opC 63 (.build [(.int .i64 0), (.int .u64 0), (.bool false), (.bool false), (.string .empty), (.int .u64 0), (.slice none 0 0), (.int .i64 0), (.int .u64 0), (.int .u64 0), (.int .u64 0), (.int .u64 0)] [(0, 1), (1, 1), (2, 1), (3, 3), (6, 1), (7, 5)] []),
opC 2 (.move (icC 1)),
⟨none, none, .store 12 (.t 3) (.t 63)⟩] (some [2, 3]))
.ret)
.skip))
(.seq (.ops [mvC 64 4,
opC 65 (clC 261 [(.t 64)]),
opC 2 (.move (icC 2)),
⟨none, none, .store 12 (.t 3) (.t 65)⟩] (some [2, 3]))
.ret))))))))), [.tmp 2, .cell true 12 3]⟩

theorem is194 : FnIs Tryz.prog 194 x194 := ⟨Tryz.f194, _, Tryz.func194, by kernel_rfl, rfl, by kernel_rfl, by decide, by kernel_rfl⟩

/-- (*cloisonne/sess.Session).inside -/
def x195 : XDecl := .code ⟨2, 
(.seq (.ops [opC 3 (.box (.t 1)),
opC 4 (.alloc [(.int .i64 0), (.int .u64 0), (.bool false), (.bool false), (.string .empty), (.int .u64 0), (.slice none 0 0), (.int .i64 0), (.int .u64 0), (.int .u64 0), (.int .u64 0), (.int .u64 0)])] (some [0, 3, 4]))
(.seq (.seq (.ops [opC 5 (.fieldAddr 0 (.t 3)),
opC 6 (.load false 1 (.t 5))] (some [0, 3, 4, 6]))
(.block 0
(.seq (.ops [opC 8 (.bin .eql 3 (.t 6) (icC 8)),
mvC 7 8] (some [0, 3, 4, 6, 7]))
(.cond (.t 7)
(.seq (.ops [mvC 9 0,
opC 10 (.load true 15 (.t 3)),
opC 11 (clC 262 [(.t 9), (.t 10)]),
⟨none, none, .store 12 (.t 4) (.t 11)⟩] (some [4]))
.ret)
(.seq (.seq (.ops [opC 13 (.bin .eql 3 (.t 6) (icC 9)),
mvC 12 13] (some [0, 3, 4, 6, 12]))
(.cond (.t 12)
.skip
(.ops [opC 14 (.bin .eql 3 (.t 6) (icC 10)),
mvC 12 14] (some [0, 3, 4, 6, 12]))))
(.cond (.t 12)
(.seq (.ops [mvC 15 0,
opC 16 (.load true 15 (.t 3)),
opC 17 (clC 263 [(.t 15), (.t 16)]),
⟨none, none, .store 12 (.t 4) (.t 17)⟩] (some [4]))
.ret)
(.seq (.ops [opC 19 (.bin .eql 3 (.t 6) (icC 16)),
mvC 18 19] (some [0, 3, 4, 6, 18]))
(.cond (.t 18)
(.seq (.ops [mvC 20 0,
opC 21 (.load true 15 (.t 3)),
opC 22 (clC 264 [(.t 20), (.t 21)]),
⟨none, none, .store 12 (.t 4) (.t 22)⟩] (some [4]))
.ret)
(.seq (.seq (.ops [opC 24 (.bin .eql 3 (.t 6) (icC 12)),
mvC 23 24] (some [0, 3, 4, 6, 23]))
(.cond (.t 23)
.skip
(.ops [opC 25 (.bin .eql 3 (.t 6) (icC 13)),
mvC 23 25] (some [0, 3, 4, 23]))))
(.cond (.t 23)
(.seq (.ops [mvC 26 0,
opC 27 (.load true 15 (.t 3)),
opC 28 (clC 265 [(.t 26), (.t 27)]),
⟨none, none, .store 12 (.t 4) (.t 28)⟩] (some [4]))
.ret)
.skip))))))))))
(.seq (.ops [mvC 29 0,
opC 30 (.nilCheck (.t 29)),
opC 31 (.fieldAddr 6 (.t 30)),
⟨none, none, .store 1 (.t 31) (.c (.pointer none))⟩] (some [4]))
(.seq (.ops [opC 32 (clC 191 [(icC 0)]),
⟨none, none, .store 12 (.t 4) (.t 32)⟩] (some [4]))
.ret)))), [.cell true 12 4]⟩

theorem is195 : FnIs Tryz.prog 195 x195 := ⟨Tryz.f195, _, Tryz.func195, by kernel_rfl, rfl, by kernel_rfl, by decide, by kernel_rfl⟩

/-- (*cloisonne/tree.Tree).Seek -/
def x196 : XDecl := .code ⟨2, 
(.seq (.ops [opC 4 (.move (.c (.string .empty))),
opC 5 (.move (icC 0)),
opC 6 (.move (.c (.bool false)))] (some [0, 1]))
(.seq (.seq (.ops [mvC 7 0,
opC 8 (clC 266 [(.t 7)]),
opC 9 (.un .not (.t 8))] (some [0, 1, 9]))
(.cond (.t 9)
(.seq (.ops [opC 4 (.move (.c (.string .empty))),
opC 5 (.move (icC 0)),
opC 6 (.move (.c (.bool false)))] (some [4, 5, 6]))
.ret)
.skip))
(.seq (.ops [mvC 10 0,
mvC 11 0,
opC 12 (.nilCheck (.t 11)),
opC 13 (.fieldAddr 2 (.t 12)),
opC 14 (.load false 1 (.t 13)),
mvC 15 1,
opC 16 (clC 267 [(.t 10), (.t 14), (.t 15), (.c (.bool false))]),
opC 17 (.extract (.t 16) 0),
opC 18 (.extract (.t 16) 1),
opC 19 (.extract (.t 16) 2),
mvC 4 17,
mvC 5 18,
mvC 6 19] (some [4, 5, 6]))
.ret))), [.tmp 4, .tmp 5, .tmp 6]⟩

theorem is196 : FnIs Tryz.prog 196 x196 := ⟨Tryz.f196, _, Tryz.func196, by kernel_rfl, rfl, by kernel_rfl, by decide, by kernel_rfl⟩

/-- (*cloisonne/tree.Tree).find -/
def x198 : XDecl := .code ⟨2, 
(.seq (.ops [opC 4 (.move (.c (.pointer none))),
opC 5 (.move (icC 0)),
opC 6 (.move (.c (.bool false)))] (some [0, 1]))
(.seq (.seq (.ops [mvC 10 0,
opC 11 (.isNil .ptr false (.t 10)),
mvC 12 11,
⟨some 13, some (12, false), .move (.t 0)⟩,
⟨some 14, some (12, false), .nilCheck (.t 13)⟩,
⟨some 15, some (12, false), .fieldAddr 2 (.t 14)⟩,
⟨some 16, some (12, false), .load false 1 (.t 15)⟩,
⟨some 17, some (12, false), .bin .lss 3 (.t 16) (icC 0)⟩,
opC 18 (.pick (.t 12) (.c (.bool true)) (.t 17))] (some [0, 1, 18]))
(.cond (.t 18)
(.seq (.ops [opC 4 (.move (.c (.pointer none))),
opC 5 (.move (icC 0)),
opC 6 (.move (.c (.bool false)))] (some [4, 5, 6]))
.ret)
.skip))
(.seq (.opsr [mvC 19 0,
opC 20 (.nilCheck (.t 19)),
opC 21 (.fieldAddr 0 (.t 20)),
opC 22 (.load false 1 (.t 21)),
mvC 23 0,
opC 24 (.nilCheck (.t 23)),
opC 25 (.fieldAddr 2 (.t 24)),
opC 26 (.load false 1 (.t 25)),
opC 27 (.indexAddr 3 (.t 22) (.t 26)),
mvC 7 27] (some [0, 1, 7]))
(.seq (.block 0
(.loop
(.seq (.seq (.ops [mvC 28 7,
opC 29 (clC 205 [(.t 28)]),
opC 30 (.un .not (.t 29))] (some [0, 1, 7, 30]))
(.cond (.t 30)
.skip
(.exit 0)))
(.block 1
(.opsd [(0, 0, mvC 31 0),
(1, 1, opC 32 (.nilCheck (.t 31))),
(2, 3, opC 33 (.fieldAddr 0 (.t 32))),
(3, 7, opC 34 (.load false 1 (.t 33))),
(4, 0, mvC 35 7),
(5, 16, opC 36 (.nilCheck (.t 35))),
(6, 48, opC 37 (.fieldAddr 2 (.t 36))),
(7, 112, opC 38 (.load false 1 (.t 37))),
(8, 0, mvC 39 7),
(9, 0, mvC 40 1),
(10, 768, opC 41 (clC 268 [(.t 39), (.t 40)])),
(11, 2032, opC 42 (.indexAddr 1 (.t 38) (.t 41))),
(12, 4080, opC 43 (.load false 1 (.t 42))),
(13, 8191, opC 44 (.indexAddr 3 (.t 34) (.t 43))),
(14, 16383, mvC 7 44)] (some [0, 1, 7]))))))
(.seq (.ops [mvC 46 7,
opC 47 (.nilCheck (.t 46)),
opC 48 (.fieldAddr 0 (.t 47)),
opC 49 (.load false 1 (.t 48)),
mvC 50 1,
opC 51 (clC 269 [(.t 49), (.t 50)]),
mvC 45 51,
opC 52 (.extract (.t 45) 0),
opC 53 (.extract (.t 45) 1),
mvC 8 52,
mvC 9 53] (some [7, 8, 9]))
(.seq (.ops [mvC 54 7,
mvC 55 8,
mvC 56 9,
mvC 4 54,
mvC 5 55,
mvC 6 56] (some [4, 5, 6]))
.ret)))))), [.tmp 4, .tmp 5, .tmp 6]⟩

theorem is198 : FnIs Tryz.prog 198 x198 := ⟨Tryz.f198, _, Tryz.func198, by kernel_rfl, rfl, by kernel_rfl, by decide, by kernel_rfl⟩

/-- cloisonne/chain.right -/
def x199 : XDecl := .code ⟨1, 
(.seq (.ops [opC 1 (.box (.t 0)),
opC 2 (.move (.c (.bool false)))] (some [1]))
(.seq (.ops [opC 3 (.fieldAddr 0 (.t 1)),
opC 4 (.load false 1 (.t 3)),
opC 5 (.bin .geq 3 (.t 4) (icC 1)),
mvC 6 5,
⟨some 7, some (6, true), .fieldAddr 0 (.t 1)⟩,
⟨some 8, some (6, true), .load false 1 (.t 7)⟩,
⟨some 9, some (6, true), .bin .leq 3 (.t 8) (icC 1073741824)⟩,
opC 10 (.pick (.t 6) (.t 9) (.c (.bool false))),
mvC 11 10,
⟨some 12, some (11, true), .fieldAddr 2 (.t 1)⟩,
⟨some 13, some (11, true), .load true 3 (.t 12)⟩,
⟨some 14, some (11, true), clC 116 [(.t 13)]⟩,
opC 15 (.pick (.t 11) (.t 14) (.c (.bool false))),
mvC 16 15,
⟨some 17, some (16, true), .fieldAddr 1 (.t 1)⟩,
⟨some 18, some (16, true), .load false 1 (.t 17)⟩,
⟨some 19, some (16, true), .un .not (.t 18)⟩,
⟨some 20, some (16, true), .move (.t 19)⟩,
⟨some 21, some (20, false), .fieldAddr 2 (.t 1)⟩,
⟨some 22, some (20, false), .load true 3 (.t 21)⟩,
⟨some 23, some (20, false), .build [(.bool false), (.string .empty), (.int .u64 0)] [(0, 1), (1, 1), (2, 1)] []⟩,
⟨some 24, some (20, false), .bin .eql 79 (.t 22) (.t 23)⟩,
⟨some 25, some (16, true), .pick (.t 20) (.c (.bool true)) (.t 24)⟩,
opC 26 (.pick (.t 16) (.t 25) (.c (.bool false))),
mvC 2 26] (some [2]))
.ret)), [.tmp 2]⟩

theorem is199 : FnIs Tryz.prog 199 x199 := ⟨Tryz.f199, _, Tryz.func199, by kernel_rfl, rfl, by kernel_rfl, by decide, by kernel_rfl⟩

/-- slices.BinarySearchFunc[[]cloisonne/api.Version,cloisonne/api.Version,int] -/
def x200 : XDecl := .code ⟨3, 
(.seq (.ops [opC 6 (.move (icC 0)),
opC 7 (.move (.c (.bool false)))] (some [0, 1, 2]))
(.seq (.ops [mvC 12 0,
opC 13 (.len (.t 12)),
mvC 8 13] (some [0, 1, 2, 8]))
(.seq (.ops [mvC 14 8,
opC 9 (.move (icC 0)),
mvC 10 14] (some [0, 1, 2, 8, 9, 10]))
(.seq (.block 0
(.loop
(.seq (.seq (.ops [mvC 15 9,
mvC 16 10,
opC 17 (.bin .lss 3 (.t 15) (.t 16))] (some [0, 1, 2, 8, 9, 10, 17]))
(.cond (.t 17)
.skip
(.exit 0)))
(.block 1
(.seq (.ops [mvC 18 9,
mvC 19 10,
opC 20 (.bin .add 3 (.t 18) (.t 19)),
opC 21 (.conv 3 356 (.t 20)),
opC 22 (.bin .shr 356 (.t 21) (.c (.int .u64 1))),
opC 23 (.conv 356 3 (.t 22)),
mvC 11 23] (some [0, 1, 2, 8, 9, 10, 11]))
(.seq (.ops [mvC 24 2,
mvC 25 0,
mvC 26 11,
opC 27 (.indexAddr 5 (.t 25) (.t 26)),
opC 28 (.load true 5 (.t 27)),
mvC 29 1,
opC 30 (.call (.t 24) [(.t 28), (.t 29)]),
opC 31 (.bin .lss 3 (.t 30) (icC 0))] (some [0, 1, 2, 8, 9, 10, 11, 31]))
(.cond (.t 31)
(.ops [mvC 32 11,
opC 33 (.bin .add 3 (.t 32) (icC 1)),
mvC 9 33] (some [0, 1, 2, 8, 9, 10]))
(.ops [mvC 34 11,
mvC 10 34] (some [0, 1, 2, 8, 9, 10])))))))))
(.seq (.ops [mvC 35 9,
mvC 36 9,
mvC 37 8,
opC 38 (.bin .lss 3 (.t 36) (.t 37)),
mvC 39 38,
⟨some 40, some (39, true), .move (.t 2)⟩,
⟨some 41, some (39, true), .move (.t 0)⟩,
⟨some 42, some (39, true), .move (.t 9)⟩,
⟨some 43, some (39, true), .indexAddr 5 (.t 41) (.t 42)⟩,
⟨some 44, some (39, true), .load true 5 (.t 43)⟩,
⟨some 45, some (39, true), .move (.t 1)⟩,
⟨some 46, some (39, true), .call (.t 40) [(.t 44), (.t 45)]⟩,
⟨some 47, some (39, true), .bin .eql 3 (.t 46) (icC 0)⟩,
opC 48 (.pick (.t 39) (.t 47) (.c (.bool false))),
mvC 6 35,
mvC 7 48] (some [6, 7]))
.ret))))), [.tmp 6, .tmp 7]⟩

theorem is200 : FnIs Tryz.prog 200 x200 := ⟨Tryz.f200, _, Tryz.func200, by kernel_rfl, rfl, by kernel_rfl, by decide, by kernel_rfl⟩

/-- cloisonne/chain.behind$1 -/
def x201 : XDecl := .code ⟨2, 
(.seq (.ops [opC 2 (.box (.t 0)),
opC 4 (.move (icC 0))] (some [1, 2]))
(.seq (.ops [opC 5 (.fieldAddr 0 (.t 2)),
opC 6 (.load false 1 (.t 5)),
mvC 7 1,
opC 8 (.bin .sub 3 (.t 6) (.t 7)),
mvC 4 8] (some [4]))
.ret)), [.tmp 4]⟩

theorem is201 : FnIs Tryz.prog 201 x201 := ⟨Tryz.f201, _, Tryz.func201, by kernel_rfl, rfl, by kernel_rfl, by decide, by kernel_rfl⟩

/-- cloisonne/chain.Weight -/
def x202 : XDecl := .code ⟨1, 
(.seq (.ops [opC 2 (.move (icC 0))] (some [0]))
(.seq (.ops [mvC 6 0,
opC 7 (clC 270 [(.t 6)]),
mvC 5 7,
opC 8 (.extract (.t 5) 0),
opC 9 (.extract (.t 5) 1),
opC 3 (.alloc [(.int .i64 0), (.bool false), (.bool false), (.string .empty), (.int .u64 0)]),
⟨none, none, .store 5 (.t 3) (.t 8)⟩,
mvC 4 9] (some [3, 4]))
(.seq (.seq (.ops [mvC 10 4,
opC 11 (.un .not (.t 10)),
mvC 12 11,
⟨some 13, some (12, false), .fieldAddr 1 (.t 3)⟩,
⟨some 14, some (12, false), .load false 1 (.t 13)⟩,
opC 15 (.pick (.t 12) (.c (.bool true)) (.t 14))] (some [3, 15]))
(.cond (.t 15)
(.seq (.ops [opC 2 (.move (icC 0))] (some [2]))
.ret)
.skip))
(.seq (.ops [opC 16 (.fieldAddr 2 (.t 3)),
opC 17 (.load true 3 (.t 16)),
opC 18 (clC 271 [(.t 17)]),
mvC 2 18] (some [2]))
.ret)))), [.tmp 2]⟩

theorem is202 : FnIs Tryz.prog 202 x202 := ⟨Tryz.f202, _, Tryz.func202, by kernel_rfl, rfl, by kernel_rfl, by decide, by kernel_rfl⟩

/-- (*cloisonne/tree.node).leaf -/
def x205 : XDecl := .code ⟨1, 
(.seq (.ops [opC 2 (.move (.c (.bool false)))] (some [0]))
(.seq (.ops [mvC 3 0,
opC 4 (.nilCheck (.t 3)),
opC 5 (.fieldAddr 2 (.t 4)),
opC 6 (.load false 1 (.t 5)),
opC 7 (.len (.t 6)),
opC 8 (.bin .eql 3 (.t 7) (icC 0)),
mvC 2 8] (some [2]))
.ret)), [.tmp 2]⟩

theorem is205 : FnIs Tryz.prog 205 x205 := ⟨Tryz.f205, _, Tryz.func205, by kernel_rfl, rfl, by kernel_rfl, by decide, by kernel_rfl⟩

/-- (*cloisonne/tree.Tree).add -/
def x206 : XDecl := .code ⟨2, 
(.seq (.ops [opC 3 (.box (.t 1)),
opC 4 (.move (icC 0))] (some [0, 3]))
(.seq (.seq (.ops [mvC 7 0,
opC 8 (.nilCheck (.t 7)),
opC 9 (.fieldAddr 1 (.t 8)),
opC 10 (.load false 1 (.t 9)),
opC 11 (.len (.t 10)),
mvC 5 11] (some [0, 3, 5]))
(.seq (.ops [mvC 12 5,
opC 13 (.bin .gtr 3 (.t 12) (icC 0))] (some [0, 3, 5, 13]))
(.cond (.t 13)
(.seq (.ops [mvC 14 0,
opC 15 (.nilCheck (.t 14)),
opC 16 (.fieldAddr 1 (.t 15)),
opC 17 (.load false 1 (.t 16)),
mvC 18 5,
opC 19 (.bin .sub 3 (.t 18) (icC 1)),
opC 20 (.indexAddr 1 (.t 17) (.t 19)),
opC 21 (.load false 1 (.t 20)),
mvC 6 21] (some [0, 3, 5, 6]))
(.seq (.ops [mvC 22 0,
mvC 23 0,
opC 24 (.nilCheck (.t 23)),
opC 25 (.fieldAddr 1 (.t 24)),
opC 26 (.load false 1 (.t 25)),
mvC 27 5,
opC 28 (.bin .sub 3 (.t 27) (icC 1)),
opC 29 (.slice 1 (.t 26) none (some (.t 28)) none),
opC 30 (.nilCheck (.t 22)),
opC 31 (.fieldAddr 1 (.t 30)),
⟨none, none, .store 1 (.t 31) (.t 29)⟩] (some [0, 3, 6]))
(.seq (.opsd [(0, 0, mvC 32 0),
(1, 1, opC 33 (.nilCheck (.t 32))),
(2, 3, opC 34 (.fieldAddr 0 (.t 33))),
(3, 7, opC 35 (.load false 1 (.t 34))),
(4, 0, mvC 36 6),
(5, 0, opC 37 (.load true 3 (.t 3))),
(6, 63, opC 38 (.indexAddr 3 (.t 35) (.t 36))),
(7, 127, ⟨none, none, .store 3 (.t 38) (.t 37)⟩)] (some [6]))
(.seq (.ops [mvC 39 6,
mvC 4 39] (some [4]))
.ret))))
.skip)))
(.seq (.opsd [(0, 0, mvC 40 0),
(1, 0, mvC 41 0),
(2, 2, opC 42 (.nilCheck (.t 41))),
(3, 6, opC 43 (.fieldAddr 0 (.t 42))),
(4, 14, opC 44 (.load false 1 (.t 43))),
(5, 0, opC 45 (.load true 3 (.t 3))),
(6, 32, opC 46 (.buildSlice [(.slice none 0 0), (.slice none 0 0), (.slice none 0 0)] 3 1 [(0, (.t 45))])),
(7, 126, opC 47 (.append 3 72 [(.slice none 0 0), (.slice none 0 0), (.slice none 0 0)] (.t 44) (.t 46))),
(8, 255, opC 48 (.nilCheck (.t 40))),
(9, 511, opC 49 (.fieldAddr 0 (.t 48))),
(10, 1023, ⟨none, none, .store 1 (.t 49) (.t 47)⟩)] (some [0]))
(.seq (.ops [mvC 50 0,
opC 51 (.nilCheck (.t 50)),
opC 52 (.fieldAddr 0 (.t 51)),
opC 53 (.load false 1 (.t 52)),
opC 54 (.len (.t 53)),
opC 55 (.bin .sub 3 (.t 54) (icC 1)),
mvC 4 55] (some [4]))
.ret)))), [.tmp 4]⟩

theorem is206 : FnIs Tryz.prog 206 x206 := ⟨Tryz.f206, _, Tryz.func206, by kernel_rfl, rfl, by kernel_rfl, by decide, by kernel_rfl⟩

/-- (*cloisonne/vault.Vault).there -/
def x210 : XDecl := .code ⟨2, 
(.seq (.ops [opC 4 (.move (.c (.bool false)))] (some [0, 1]))
(.seq (.ops [mvC 5 0,
opC 6 (.isNil .ptr true (.t 5)),
mvC 7 6,
⟨some 8, some (7, true), .move (.t 1)⟩,
⟨some 9, some (7, true), .move (.t 0)⟩,
⟨some 10, some (7, true), .nilCheck (.t 9)⟩,
⟨some 11, some (7, true), .fieldAddr 6 (.t 10)⟩,
⟨some 12, some (7, true), .load false 1 (.t 11)⟩,
⟨some 13, some (7, true), .len (.t 12)⟩,
⟨some 14, some (7, true), .bin .sub 3 (.t 13) (icC 1)⟩,
⟨some 15, some (7, true), clC 86 [(.t 8), (icC (-1)), (.t 14)]⟩,
opC 16 (.pick (.t 7) (.t 15) (.c (.bool false))),
mvC 4 16] (some [4]))
.ret)), [.tmp 4]⟩

theorem is210 : FnIs Tryz.prog 210 x210 := ⟨Tryz.f210, _, Tryz.func210, by kernel_rfl, rfl, by kernel_rfl, by decide, by kernel_rfl⟩

/-- (*cloisonne/vault.Vault).Hold -/
def x211 : XDecl := .code ⟨3, 
(.seq (.ops [opC 6 (.move (.c (.bool false)))] (some [0, 1, 2]))
(.seq (.seq (.ops [mvC 9 0,
mvC 10 1,
opC 11 (clC 210 [(.t 9), (.t 10)]),
opC 12 (.un .not (.t 11))] (some [0, 1, 2, 12]))
(.cond (.t 12)
(.seq (.ops [opC 6 (.move (.c (.bool false)))] (some [6]))
.ret)
.skip))
(.seq (.seq (.ops [mvC 14 0,
opC 15 (.nilCheck (.t 14)),
opC 16 (.fieldAddr 8 (.t 15)),
opC 17 (.load false 1 (.t 16)),
mvC 18 1,
opC 19 (.lookup true (.int .i64 0) true (.t 17) (.t 18)),
mvC 13 19,
opC 20 (.extract (.t 13) 0),
opC 21 (.extract (.t 13) 1),
mvC 7 20,
mvC 8 21] (some [0, 1, 2, 8]))
(.seq (.ops [mvC 22 8] (some [0, 1, 2, 22]))
(.cond (.t 22)
(.seq (.ops [opC 6 (.move (.c (.bool false)))] (some [6]))
.ret)
.skip)))
(.seq (.ops [mvC 23 0,
opC 24 (.nilCheck (.t 23)),
opC 25 (.fieldAddr 8 (.t 24)),
opC 26 (.load false 1 (.t 25)),
mvC 27 1,
mvC 28 2,
⟨none, none, .mapUpdate true (.t 26) (.t 27) (.t 28)⟩] (some []))
(.seq (.ops [opC 6 (.move (.c (.bool true)))] (some [6]))
.ret))))), [.tmp 6]⟩

theorem is211 : FnIs Tryz.prog 211 x211 := ⟨Tryz.f211, _, Tryz.func211, by kernel_rfl, rfl, by kernel_rfl, by decide, by kernel_rfl⟩

/-- (*cloisonne/job.Job).end -/
def x212 : XDecl := .code ⟨3, 
(.seq (.ops [opC 6 (.move (icC 0)),
opC 7 (.move (icC 0))] (some [0, 1, 2]))
(.seq (.opsd [(0, 0, mvC 8 0),
(1, 1, opC 9 (.nilCheck (.t 8))),
(2, 3, opC 10 (.fieldAddr 0 (.t 9))),
(3, 7, opC 11 (.load false 1 (.t 10))),
(4, 0, mvC 12 0),
(5, 16, opC 13 (.nilCheck (.t 12))),
(6, 48, opC 14 (.fieldAddr 2 (.t 13))),
(7, 112, opC 15 (.load false 1 (.t 14))),
(8, 255, opC 16 (clC 279 [(.t 11), (.t 15)]))] (some [0, 1, 2]))
(.seq (.ops [mvC 17 0,
mvC 18 0,
mvC 19 2,
opC 20 (.nilCheck (.t 17)),
opC 21 (.fieldAddr 4 (.t 20)),
⟨none, none, .store 1 (.t 21) (icC 3)⟩,
opC 22 (.nilCheck (.t 18)),
opC 23 (.fieldAddr 7 (.t 22)),
⟨none, none, .store 1 (.t 23) (.t 19)⟩] (some [0, 1, 2]))
(.seq (.seq (.ops [mvC 24 2,
opC 25 (.bin .eql 32 (.t 24) (icC 0))] (some [0, 1, 25]))
(.cond (.t 25)
(.ops [mvC 26 0,
mvC 27 1,
opC 28 (.nilCheck (.t 26)),
opC 29 (.fieldAddr 6 (.t 28)),
⟨none, none, .store 1 (.t 29) (.t 27)⟩] (some []))
.skip))
(.seq (.ops [opC 6 (.move (icC 2)),
opC 7 (.move (icC 0))] (some [6, 7]))
.ret))))), [.tmp 6, .tmp 7]⟩

theorem is212 : FnIs Tryz.prog 212 x212 := ⟨Tryz.f212, _, Tryz.func212, by kernel_rfl, rfl, by kernel_rfl, by decide, by kernel_rfl⟩

/-- (*cloisonne/seglog.Writer).Move -/
def x213 : XDecl := .code ⟨1, 
(.seq (.ops [opC 2 (.move (icC 0)),
opC 3 (.move (icC 0))] (some [0]))
(.seq (.ops [opC 4 (.move (icC 0))] (some [0]))
(.seq (.block 0
(.seq (.ops [mvC 8 0,
opC 9 (.isNil .ptr false (.t 8)),
mvC 7 9] (some [0, 7]))
(.cond (.t 7)
(.seq (.ops [opC 2 (.move (icC 0)),
opC 3 (.move (icC 2))] (some [2, 3]))
.ret)
(.seq (.ops [mvC 11 0,
opC 12 (.nilCheck (.t 11)),
opC 13 (.fieldAddr 6 (.t 12)),
opC 14 (.load false 1 (.t 13)),
mvC 10 14] (some [0, 10]))
(.cond (.t 10)
(.seq (.ops [opC 2 (.move (icC 2)),
opC 3 (.move (icC 0))] (some [2, 3]))
.ret)
(.seq (.opsr [mvC 16 0,
opC 17 (.nilCheck (.t 16)),
opC 18 (.fieldAddr 5 (.t 17)),
opC 19 (.load false 1 (.t 18)),
mvC 20 0,
opC 21 (.nilCheck (.t 20)),
opC 22 (.fieldAddr 4 (.t 21)),
opC 23 (.load false 1 (.t 22)),
opC 24 (.len (.t 23)),
opC 25 (.bin .lss 3 (.t 19) (.t 24)),
mvC 15 25] (some [0, 15]))
(.cond (.t 15)
(.ops [mvC 26 0,
opC 27 (clC 280 [(.t 26)]),
mvC 4 27] (some [0, 4]))
(.seq (.opsr [mvC 29 0,
opC 30 (.nilCheck (.t 29)),
opC 31 (.fieldAddr 5 (.t 30)),
opC 32 (.load false 1 (.t 31)),
mvC 33 0,
opC 34 (.nilCheck (.t 33)),
opC 35 (.fieldAddr 4 (.t 34)),
opC 36 (.load false 1 (.t 35)),
opC 37 (.len (.t 36)),
opC 38 (.bin .eql 3 (.t 32) (.t 37)),
mvC 28 38] (some [0, 28]))
(.cond (.t 28)
(.opsd [(0, 0, mvC 39 0),
(1, 1, opC 40 (.nilCheck (.t 39))),
(2, 3, opC 41 (.fieldAddr 0 (.t 40))),
(3, 7, opC 42 (.load false 1 (.t 41))),
(4, 15, opC 43 (.nilCheck (.t 42))),
(5, 31, opC 44 (.fieldAddr 0 (.t 43))),
(6, 63, opC 45 (.load false 1 (.t 44))),
(7, 0, mvC 46 0),
(8, 128, opC 47 (.nilCheck (.t 46))),
(9, 384, opC 48 (.fieldAddr 1 (.t 47))),
(10, 896, opC 49 (.load false 1 (.t 48))),
(11, 2047, opC 50 (clC 281 [(.t 45), (.t 49)])),
(12, 4095, mvC 4 50)] (some [0, 4]))
(.seq (.ops [mvC 5 0,
opC 6 (clC 282 [(.t 5)])] (some []))
(.seq (.ops [opC 2 (.move (icC 2)),
opC 3 (.move (icC 0))] (some [2, 3]))
.ret)))))))))))
(.seq (.seq (.ops [mvC 51 4,
opC 52 (.bin .neq 32 (.t 51) (icC 0))] (some [0, 4, 52]))
(.cond (.t 52)
(.seq (.ops [mvC 53 4,
opC 2 (.move (icC 0)),
mvC 3 53] (some [2, 3]))
.ret)
.skip))
(.seq (.ops [mvC 54 0,
opC 55 (.nilCheck (.t 54)),
opC 56 (.fieldAddr 5 (.t 55)),
opC 57 (.load false 1 (.t 56)),
opC 58 (.bin .add 3 (.t 57) (icC 1)),
opC 59 (.nilCheck (.t 54)),
opC 60 (.fieldAddr 5 (.t 59)),
⟨none, none, .store 1 (.t 60) (.t 58)⟩] (some []))
(.seq (.ops [opC 2 (.move (icC 1)),
opC 3 (.move (icC 0))] (some [2, 3]))
.ret)))))), [.tmp 2, .tmp 3]⟩

theorem is213 : FnIs Tryz.prog 213 x213 := ⟨Tryz.f213, _, Tryz.func213, by kernel_rfl, rfl, by kernel_rfl, by decide, by kernel_rfl⟩

/-- (*cloisonne/extent.World).there -/
def x214 : XDecl := .code ⟨2, 
(.seq (.ops [opC 4 (.move (.c (.bool false)))] (some [0, 1]))
(.seq (.ops [mvC 5 0,
opC 6 (.isNil .ptr true (.t 5)),
mvC 7 6,
⟨some 8, some (7, true), .move (.t 1)⟩,
⟨some 9, some (7, true), .bin .geq 3 (.t 8) (icC 0)⟩,
opC 10 (.pick (.t 7) (.t 9) (.c (.bool false))),
mvC 11 10,
⟨some 12, some (11, true), .move (.t 1)⟩,
⟨some 13, some (11, true), .move (.t 0)⟩,
⟨some 14, some (11, true), .nilCheck (.t 13)⟩,
⟨some 15, some (11, true), .fieldAddr 2 (.t 14)⟩,
⟨some 16, some (11, true), .load false 1 (.t 15)⟩,
⟨some 17, some (11, true), .len (.t 16)⟩,
⟨some 18, some (11, true), .bin .lss 3 (.t 12) (.t 17)⟩,
opC 19 (.pick (.t 11) (.t 18) (.c (.bool false))),
mvC 4 19] (some [4]))
.ret)), [.tmp 4]⟩

theorem is214 : FnIs Tryz.prog 214 x214 := ⟨Tryz.f214, _, Tryz.func214, by kernel_rfl, rfl, by kernel_rfl, by decide, by kernel_rfl⟩

/-- cloisonne/vault.Right$1 -/
def x215 : XDecl := .code ⟨2, 
(.seq (.ops [opC 2 (.box (.t 0)),
opC 3 (.move (.c (.bool false)))] (some [1, 2]))
(.seq (.ops [opC 4 (.fieldAddr 0 (.t 2)),
opC 5 (.load false 1 (.t 4)),
opC 6 (.fieldAddr 0 (.t 1)),
opC 7 (.load false 1 (.t 6)),
opC 8 (clC 216 [(.t 5), (.t 7)]),
opC 9 (.bin .eql 3 (.t 8) (icC 0)),
mvC 3 9] (some [3]))
.ret)), [.tmp 3]⟩

theorem is215 : FnIs Tryz.prog 215 x215 := ⟨Tryz.f215, _, Tryz.func215, by kernel_rfl, rfl, by kernel_rfl, by decide, by kernel_rfl⟩

/-- cloisonne/label.Compare -/
def x216 : XDecl := .code ⟨2, 
(.seq (.ops [opC 4 (.move (icC 0))] (some [0, 1]))
(.seq (.ops [mvC 5 0,
opC 6 (.len (.t 5)),
mvC 7 1,
opC 8 (.len (.t 7)),
opC 9 (clC 62 [(.t 6), (.t 8)]),
mvC 10 0,
mvC 11 1,
opC 12 (clC 284 [(.t 10), (.t 11)]),
opC 13 (.buildSlice [(.int .i64 0)] 1 2 [(0, (.t 9)), (1, (.t 12))]),
opC 14 (clC 283 [(.t 13)]),
mvC 4 14] (some [4]))
.ret)), [.tmp 4]⟩

theorem is216 : FnIs Tryz.prog 216 x216 := ⟨Tryz.f216, _, Tryz.func216, by kernel_rfl, rfl, by kernel_rfl, by decide, by kernel_rfl⟩

/-- cloisonne/room.Right -/
def x217 : XDecl := .code ⟨1, 
(.seq (.ops [opC 1 (.box (.t 0)),
opC 2 (.move (.c (.bool false)))] (some [1]))
(.seq (.ops [opC 3 (.fieldAddr 0 (.t 1)),
opC 4 (.load false 1 (.t 3)),
opC 5 (clC 175 [(.t 4)]),
mvC 6 5,
⟨some 7, some (6, true), .fieldAddr 1 (.t 1)⟩,
⟨some 8, some (6, true), .load false 1 (.t 7)⟩,
⟨some 9, some (6, true), clC 285 [(.t 8), (icC 1), (icC 16)]⟩,
opC 10 (.pick (.t 6) (.t 9) (.c (.bool false))),
mvC 11 10,
⟨some 12, some (11, true), .fieldAddr 2 (.t 1)⟩,
⟨some 13, some (11, true), .load false 1 (.t 12)⟩,
⟨some 14, some (11, true), clC 285 [(.t 13), (icC 0), (icC 1048576)]⟩,
opC 15 (.pick (.t 11) (.t 14) (.c (.bool false))),
mvC 16 15,
⟨some 17, some (16, true), .fieldAddr 3 (.t 1)⟩,
⟨some 18, some (16, true), .load false 1 (.t 17)⟩,
⟨some 19, some (16, true), clC 285 [(.t 18), (icC 1), (icC 1073741824)]⟩,
opC 20 (.pick (.t 16) (.t 19) (.c (.bool false))),
mvC 2 20] (some [2]))
.ret)), [.tmp 2]⟩

theorem is217 : FnIs Tryz.prog 217 x217 := ⟨Tryz.f217, _, Tryz.func217, by kernel_rfl, rfl, by kernel_rfl, by decide, by kernel_rfl⟩

/-- slices.ContainsFunc[[]cloisonne/api.Room,cloisonne/api.Room] -/
def x218 : XDecl := .code ⟨2, 
(.seq (.ops [opC 4 (.move (.c (.bool false)))] (some [0, 1]))
(.seq (.ops [mvC 5 0,
mvC 6 1,
opC 7 (clC 286 [(.t 5), (.t 6)]),
opC 8 (.bin .geq 3 (.t 7) (icC 0)),
mvC 4 8] (some [4]))
.ret)), [.tmp 4]⟩

theorem is218 : FnIs Tryz.prog 218 x218 := ⟨Tryz.f218, _, Tryz.func218, by kernel_rfl, rfl, by kernel_rfl, by decide, by kernel_rfl⟩

/-- cloisonne/seglog.Open -/
def x219 : XDecl := .code ⟨2, 
(.seq (.ops [opC 4 (.move (.c (.pointer none))),
opC 5 (.move (.c (.slice none 0 0))),
opC 6 (.move (icC 0))] (some [0, 1]))
(.seq (.block 0
(.seq (.ops [mvC 14 0,
opC 15 (.isNil .ptr false (.t 14)),
mvC 13 15] (some [0, 1, 13]))
(.cond (.t 13)
(.seq (.ops [opC 4 (.move (.c (.pointer none))),
opC 5 (.move (.c (.slice none 0 0))),
opC 6 (.move (icC 2))] (some [4, 5, 6]))
.ret)
(.seq (.ops [mvC 17 0,
opC 18 (clC 97 [(.t 17)]),
opC 19 (.un .not (.t 18)),
mvC 16 19] (some [0, 1, 16]))
(.cond (.t 16)
(.seq (.ops [opC 4 (.move (.c (.pointer none))),
opC 5 (.move (.c (.slice none 0 0))),
opC 6 (.move (icC 6))] (some [4, 5, 6]))
.ret)
(.seq (.ops [mvC 21 1,
opC 22 (.bin .lss 3 (.t 21) (icC 0)),
mvC 23 22,
⟨some 24, some (23, false), .move (.t 1)⟩,
⟨some 25, some (23, false), .move (.t 0)⟩,
⟨some 26, some (23, false), clC 155 [(.t 25)]⟩,
⟨some 27, some (23, false), .bin .sub 3 (.t 26) (icC 1)⟩,
⟨some 28, some (23, false), .bin .geq 3 (.t 24) (.t 27)⟩,
opC 29 (.pick (.t 23) (.c (.bool true)) (.t 28)),
mvC 20 29] (some [0, 1, 20]))
(.cond (.t 20)
(.seq (.ops [opC 4 (.move (.c (.pointer none))),
opC 5 (.move (.c (.slice none 0 0))),
opC 6 (.move (icC 1))] (some [4, 5, 6]))
.ret)
.skip)))))))
(.seq (.ops [mvC 30 0,
mvC 31 1,
mvC 32 1,
opC 33 (.bin .add 3 (.t 32) (icC 1)),
opC 34 (.build [(.pointer none), (.int .i64 0), (.int .i64 0), (.int .i64 0), (.int .i64 0), (.int .i64 0), (.pointer none)] [(0, 1), (1, 1), (2, 1), (3, 1), (4, 1), (5, 1), (6, 1)] [(0, (.t 30)), (1, (.t 31)), (2, (.t 33))]),
opC 35 (.box (.t 34)),
mvC 7 35] (some [0, 1, 7]))
(.seq (.ops [opC 8 (.move (.c (.slice none 0 0)))] (some [0, 1, 7, 8]))
(.seq (.seq (.ops [mvC 36 1,
mvC 9 36] (some [0, 1, 7, 8, 9]))
(.block 1
(.loop
(.seq (.seq (.ops [mvC 37 9,
mvC 38 1,
opC 39 (.bin .add 3 (.t 38) (icC 1)),
opC 40 (.bin .leq 3 (.t 37) (.t 39))] (some [0, 1, 7, 8, 9, 40]))
(.cond (.t 40)
.skip
(.exit 1)))
(.seq (.block 2
(.seq (.ops [mvC 43 0,
mvC 44 9,
opC 45 (clC 287 [(.t 43), (.t 44)]),
opC 10 (.alloc [(.slice none 0 0), (.slice none 0 0), (.slice none 0 0), (.int .i64 0)]),
⟨none, none, .store 4 (.t 10) (.t 45)⟩] (some [0, 1, 7, 8, 9, 10]))
(.seq (.opsd [(0, 0, mvC 46 7),
(1, 0, mvC 47 7),
(2, 2, opC 48 (.nilCheck (.t 47))),
(3, 6, opC 49 (.fieldAddr 5 (.t 48))),
(4, 14, opC 50 (.load false 1 (.t 49))),
(5, 0, opC 51 (.fieldAddr 3 (.t 10))),
(6, 32, opC 52 (.load false 1 (.t 51))),
(7, 126, opC 53 (.calcB .max [3, 3] 3 [(.t 50), (.t 52)])),
(8, 255, opC 54 (.nilCheck (.t 46))),
(9, 511, opC 55 (.fieldAddr 5 (.t 54))),
(10, 1023, ⟨none, none, .store 1 (.t 55) (.t 53)⟩)] (some [0, 1, 7, 8, 9, 10]))
(.seq (.seq (.opsr [opC 56 (.fieldAddr 2 (.t 10)),
opC 57 (.load false 1 (.t 56)),
opC 58 (.indexAddr 1 (.t 57) (icC 0)),
opC 59 (.load false 1 (.t 58)),
opC 60 (.un .not (.t 59)),
mvC 61 60,
⟨some 62, some (61, false), .fieldAddr 0 (.t 10)⟩,
⟨some 63, some (61, false), .load false 1 (.t 62)⟩,
⟨some 64, some (61, false), .indexAddr 5 (.t 63) (icC 0)⟩,
⟨some 65, some (61, false), .fieldAddr 0 (.t 64)⟩,
⟨some 66, some (61, false), .load false 1 (.t 65)⟩,
⟨some 67, some (61, false), .move (.t 7)⟩,
⟨some 68, some (61, false), .nilCheck (.t 67)⟩,
⟨some 69, some (61, false), .fieldAddr 3 (.t 68)⟩,
⟨some 70, some (61, false), .load false 1 (.t 69)⟩,
⟨some 71, some (61, false), .bin .leq 3 (.t 66) (.t 70)⟩,
opC 72 (.pick (.t 61) (.c (.bool true)) (.t 71))] (some [0, 1, 7, 8, 9, 10, 72]))
(.cond (.t 72)
(.exit 2)
.skip))
(.seq (.ops [opC 74 (.load true 4 (.t 10)),
opC 75 (clC 288 [(.t 74)]),
mvC 73 75,
opC 76 (.extract (.t 73) 0),
opC 77 (.extract (.t 73) 1),
mvC 11 76,
mvC 12 77] (some [0, 1, 7, 8, 9, 10, 11, 12]))
(.seq (.ops [mvC 78 12,
opC 79 (.bin .gtr 3 (.t 78) (icC 0))] (some [0, 1, 7, 8, 9, 10, 11, 12, 79]))
(.cond (.t 79)
(.ops [mvC 80 7,
mvC 81 7,
mvC 82 7,
mvC 83 9,
opC 84 (.fieldAddr 0 (.t 10)),
opC 85 (.load false 1 (.t 84)),
opC 86 (.indexAddr 5 (.t 85) (icC 0)),
opC 87 (.fieldAddr 0 (.t 86)),
opC 88 (.load false 1 (.t 87)),
mvC 89 12,
mvC 90 11,
opC 91 (.nilCheck (.t 80)),
opC 92 (.fieldAddr 2 (.t 91)),
⟨none, none, .store 1 (.t 92) (.t 83)⟩,
opC 93 (.nilCheck (.t 81)),
opC 94 (.fieldAddr 3 (.t 93)),
⟨none, none, .store 1 (.t 94) (.t 88)⟩,
opC 95 (.nilCheck (.t 82)),
opC 96 (.fieldAddr 4 (.t 95)),
⟨none, none, .store 1 (.t 96) (.t 89)⟩,
mvC 8 90] (some [0, 1, 7, 8, 9]))
.skip)))))))
(.ops [mvC 41 9,
opC 42 (.bin .add 3 (.t 41) (icC 1)),
mvC 9 42] (some [0, 1, 7, 8, 9])))))))
(.seq (.ops [mvC 97 7,
opC 98 (.nilCheck (.t 97)),
opC 99 (.fieldAddr 5 (.t 98)),
opC 100 (.load false 1 (.t 99)),
opC 101 (.bin .add 3 (.t 100) (icC 1)),
opC 102 (.nilCheck (.t 97)),
opC 103 (.fieldAddr 5 (.t 102)),
⟨none, none, .store 1 (.t 103) (.t 101)⟩] (some [7, 8]))
(.seq (.ops [mvC 104 7,
mvC 105 8,
mvC 4 104,
mvC 5 105,
opC 6 (.move (icC 0))] (some [4, 5, 6]))
.ret))))))), [.tmp 4, .tmp 5, .tmp 6]⟩

theorem is219 : FnIs Tryz.prog 219 x219 := ⟨Tryz.f219, _, Tryz.func219, by kernel_rfl, rfl, by kernel_rfl, by decide, by kernel_rfl⟩

/-- (*cloisonne/seglog.Log).Gen -/
def x220 : XDecl := .code ⟨1, 
(.seq (.ops [opC 2 (.move (icC 0))] (some [0]))
(.seq (.seq (.ops [mvC 3 0,
opC 4 (.isNil .ptr false (.t 3))] (some [0, 4]))
(.cond (.t 4)
(.seq (.ops [opC 2 (.move (icC 0))] (some [2]))
.ret)
.skip))
(.seq (.ops [mvC 5 0,
opC 6 (.nilCheck (.t 5)),
opC 7 (.fieldAddr 3 (.t 6)),
opC 8 (.load false 1 (.t 7)),
mvC 2 8] (some [2]))
.ret))), [.tmp 2]⟩

theorem is220 : FnIs Tryz.prog 220 x220 := ⟨Tryz.f220, _, Tryz.func220, by kernel_rfl, rfl, by kernel_rfl, by decide, by kernel_rfl⟩

/-- cloisonne/caps.New -/
def x221 : XDecl := .code ⟨1, 
(.seq (.ops [opC 2 (.move (.c (.pointer none))),
opC 3 (.move (icC 0))] (some [0]))
(.seq (.seq (.ops [mvC 4 0,
opC 5 (.bin .lss 3 (.t 4) (icC 1)),
mvC 6 5,
⟨some 7, some (6, false), .move (.t 0)⟩,
⟨some 8, some (6, false), .bin .gtr 3 (.t 7) (icC 8)⟩,
opC 9 (.pick (.t 6) (.c (.bool true)) (.t 8))] (some [0, 9]))
(.cond (.t 9)
(.seq (.ops [opC 2 (.move (.c (.pointer none))),
opC 3 (.move (icC 1))] (some [2, 3]))
.ret)
.skip))
(.seq (.ops [mvC 10 0,
opC 11 (.makeSlice [(.int .u64 0), (.int .u64 0)] 16 (.t 10) (.t 10)),
opC 12 (.build [(.int .i64 0), (.slice none 0 0)] [(0, 1), (1, 1)] [(1, (.t 11))]),
opC 13 (.box (.t 12)),
mvC 2 13,
opC 3 (.move (icC 0))] (some [2, 3]))
.ret))), [.tmp 2, .tmp 3]⟩

theorem is221 : FnIs Tryz.prog 221 x221 := ⟨Tryz.f221, _, Tryz.func221, by kernel_rfl, rfl, by kernel_rfl, by decide, by kernel_rfl⟩

/-- cloisonne/record.Rights -/
def x222 : XDecl := .code ⟨1, 
(.seq (.ops [opC 2 (.move (.c (.string .empty))),
opC 3 (.alloc [(.int .i64 0)])] (some [0, 3]))
(.seq (.seq (.ops [mvC 8 0,
opC 9 (.isNil .ptr false (.t 8))] (some [0, 3, 9]))
(.cond (.t 9)
(.seq (.ops [opC 2 (.move (.c (.string .empty))),
⟨none, none, .store 1 (.t 3) (icC 2)⟩] (some [2, 3]))
.ret)
.skip))
(.seq (.ops [⟨none, none, .dfr [(.t 3), (icC 1)]⟩] (some [0, 3]))
(.seq (.ops [opC 10 (clC 291 [(icC 5)]),
mvC 11 0,
opC 12 (clC 292 [(.t 11)]),
opC 13 (clC 291 [(.t 12)]),
opC 14 (.buildSlice [(.int .u64 0), (.string .empty), (.slice none 0 0), (.slice none 0 0)] 4 2 [(0, (.t 10)), (1, (.t 13))]),
opC 15 (clC 290 [(.c (.string ⟨#[98, 110]⟩)), (.t 14)]),
mvC 4 15] (some [0, 3, 4]))
(.seq (.ops [mvC 17 0,
opC 18 (clC 293 [(.t 17)]),
mvC 16 18,
opC 19 (.extract (.t 16) 0),
opC 20 (.extract (.t 16) 1),
mvC 5 19,
mvC 6 20] (some [3, 4, 5, 6]))
(.seq (.seq (.ops [mvC 21 5,
opC 22 (.len (.t 21)),
opC 23 (.move (icC 0))] (some [3, 4, 5, 6, 22, 23]))
(.block 0
(.loop
(.seq (.ops [opC 24 (.bin .lss 3 (.t 23) (.t 22))] (some [3, 4, 5, 6, 22, 23, 24]))
(.seq (.cond (.t 24)
.skip
(.exit 0))
(.seq (.block 1
(.seq (.ops [mvC 25 23,
mvC 7 25] (some [3, 4, 5, 6, 7, 22, 23]))
(.opsd [(0, 0, mvC 26 4),
(1, 0, mvC 27 5),
(2, 0, mvC 28 7),
(3, 6, opC 29 (.indexAddr 1 (.t 27) (.t 28))),
(4, 14, opC 30 (.load false 1 (.t 29))),
(5, 30, opC 31 (.build [(.int .u64 0), (.string .empty), (.slice none 0 0), (.slice none 0 0)] [(0, 1), (1, 1), (2, 1), (3, 1)] [(0, (.t 30))])),
(6, 0, mvC 32 6),
(7, 0, mvC 33 7),
(8, 192, opC 34 (.indexAddr 1 (.t 32) (.t 33))),
(9, 448, opC 35 (.load false 1 (.t 34))),
(10, 960, opC 36 (.build [(.int .u64 0), (.string .empty), (.slice none 0 0), (.slice none 0 0)] [(0, 1), (1, 1), (2, 1), (3, 1)] [(0, (.t 35))])),
(11, 2046, opC 37 (.buildSlice [(.int .u64 0), (.string .empty), (.slice none 0 0), (.slice none 0 0)] 4 2 [(0, (.t 31)), (1, (.t 36))])),
(12, 4094, opC 38 (clC 290 [(.c (.string ⟨#[110, 110]⟩)), (.t 37)])),
(13, 8191, opC 39 (.bin .add 9 (.t 26) (.t 38))),
(14, 16383, mvC 4 39)] (some [3, 4, 5, 6, 22, 23]))))
(.ops [opC 40 (.bin .add 3 (.t 23) (icC 1)),
mvC 23 40] (some [3, 4, 5, 6, 22, 23]))))))))
(.seq (.ops [mvC 41 4,
mvC 2 41,
⟨none, none, .store 1 (.t 3) (icC 0)⟩] (some [2, 3]))
.ret))))))), [.tmp 2, .cell false 1 3]⟩

theorem is222 : FnIs Tryz.prog 222 x222 := ⟨Tryz.f222, _, Tryz.func222, by kernel_rfl, rfl, by kernel_rfl, by decide, by kernel_rfl⟩

/-- cloisonne/vault.found -/
def x223 : XDecl := .code ⟨2, 
(.seq (.ops [opC 4 (.move (icC 0))] (some [0, 1]))
(.seq (.ops [mvC 9 0,
mvC 10 1,
opC 11 (clC 294 [(.t 9), (.t 10)]),
mvC 8 11,
opC 12 (.extract (.t 8) 0),
opC 13 (.extract (.t 8) 1),
mvC 5 12,
mvC 6 13] (some [5, 6]))
(.seq (.seq (.ops [opC 7 (.move (icC 1))] (some [5, 6, 7]))
(.block 0
(.loop
(.seq (.seq (.ops [mvC 14 6,
opC 15 (.bin .eql 32 (.t 14) (icC 0)),
mvC 16 15,
⟨some 17, some (16, true), .move (.t 7)⟩,
⟨some 18, some (16, true), .bin .eql 3 (.t 17) (icC 1)⟩,
opC 19 (.pick (.t 16) (.t 18) (.c (.bool false)))] (some [5, 6, 19]))
(.cond (.t 19)
.skip
(.exit 0)))
(.block 1
(.ops [mvC 21 5,
opC 22 (clC 213 [(.t 21)]),
mvC 20 22,
opC 23 (.extract (.t 20) 0),
opC 24 (.extract (.t 20) 1),
mvC 7 23,
mvC 6 24] (some [5, 6, 7])))))))
(.seq (.seq (.ops [mvC 25 6,
opC 26 (.bin .neq 32 (.t 25) (icC 0))] (some [26]))
(.cond (.t 26)
(.seq (.ops [opC 4 (.move (icC 19))] (some [4]))
.ret)
.skip))
(.seq (.ops [opC 4 (.move (icC 0))] (some [4]))
.ret))))), [.tmp 4]⟩

theorem is223 : FnIs Tryz.prog 223 x223 := ⟨Tryz.f223, _, Tryz.func223, by kernel_rfl, rfl, by kernel_rfl, by decide, by kernel_rfl⟩

/-- cloisonne/room.New -/
def x225 : XDecl := .code ⟨1, 
(.seq (.ops [opC 1 (.box (.t 0)),
opC 2 (.move (.c (.pointer none))),
opC 3 (.move (icC 0))] (some [1]))
(.seq (.ops [opC 4 (.load true 4 (.t 1)),
opC 5 (clC 299 [(.t 4), (icC 0)]),
opC 6 (.extract (.t 5) 0),
opC 7 (.extract (.t 5) 1),
mvC 2 6,
mvC 3 7] (some [2, 3]))
.ret)), [.tmp 2, .tmp 3]⟩

theorem is225 : FnIs Tryz.prog 225 x225 := ⟨Tryz.f225, _, Tryz.func225, by kernel_rfl, rfl, by kernel_rfl, by decide, by kernel_rfl⟩

/-- cloisonne/record.Base -/
def x226 : XDecl := .code ⟨2, 
(.seq (.ops [opC 4 (.move (.c (.string .empty))),
opC 5 (.alloc [(.int .i64 0)])] (some [0, 1, 5]))
(.seq (.ops [⟨none, none, .dfr [(.t 5), (icC 1)]⟩] (some [0, 1, 5]))
(.seq (.ops [mvC 9 0,
mvC 10 1,
opC 11 (clC 301 [(.t 9), (.t 10)]),
opC 12 (clC 300 [(.t 11)])] (some [0, 1, 5]))
(.seq (.ops [opC 13 (clC 291 [(icC 2)]),
mvC 14 0,
opC 15 (clC 291 [(.t 14)]),
opC 16 (.buildSlice [(.int .u64 0), (.string .empty), (.slice none 0 0), (.slice none 0 0)] 4 2 [(0, (.t 13)), (1, (.t 15))]),
opC 17 (clC 290 [(.c (.string ⟨#[98, 110]⟩)), (.t 16)]),
mvC 6 17] (some [1, 5, 6]))
(.seq (.seq (.ops [mvC 18 1,
opC 19 (.len (.t 18)),
opC 20 (.move (icC 0))] (some [5, 6, 18, 19, 20]))
(.block 0
(.loop
(.seq (.ops [opC 21 (.bin .lss 3 (.t 20) (.t 19))] (some [5, 6, 18, 19, 20, 21]))
(.seq (.cond (.t 21)
.skip
(.exit 0))
(.seq (.block 1
(.seq (.ops [opC 22 (.indexAddr 5 (.t 18) (.t 20)),
opC 23 (.load true 5 (.t 22)),
opC 8 (.alloc [(.string .empty), (.int .i64 0), (.bool false), (.string .empty), (.int .u64 0)]),
⟨none, none, .store 5 (.t 8) (.t 23)⟩] (some [5, 6, 8, 18, 19, 20]))
(.opsd [(0, 0, mvC 24 6),
(1, 0, opC 25 (.fieldAddr 1 (.t 8))),
(2, 2, opC 26 (.load false 1 (.t 25))),
(4, 0, opC 28 (.fieldAddr 0 (.t 8))),
(5, 16, opC 29 (.load false 1 (.t 28))),
(6, 48, opC 30 (.build [(.int .u64 0), (.string .empty), (.slice none 0 0), (.slice none 0 0)] [(0, 1), (1, 1), (2, 1), (3, 1)] [(1, (.t 29))])),
(7, 0, opC 31 (.fieldAddr 2 (.t 8))),
(8, 128, opC 32 (.load true 3 (.t 31))),
(3, 6, opC 27 (clC 291 [(.t 26)])),
(9, 398, opC 33 (clC 302 [(.t 32), (.c (.bool false))])),
(10, 910, opC 34 (.build [(.int .u64 0), (.string .empty), (.slice none 0 0), (.slice none 0 0)] [(0, 1), (1, 1), (2, 1), (3, 1)] [(1, (.t 33))])),
(11, 2046, opC 35 (.buildSlice [(.int .u64 0), (.string .empty), (.slice none 0 0), (.slice none 0 0)] 4 3 [(0, (.t 27)), (1, (.t 30)), (2, (.t 34))])),
(12, 4094, opC 36 (clC 290 [(.c (.string ⟨#[110, 116, 116]⟩)), (.t 35)])),
(13, 8191, opC 37 (.bin .add 9 (.t 24) (.t 36))),
(14, 16383, mvC 6 37)] (some [5, 6, 18, 19, 20]))))
(.ops [opC 38 (.bin .add 3 (.t 20) (icC 1)),
mvC 20 38] (some [5, 6, 18, 19, 20]))))))))
(.seq (.ops [mvC 39 6,
mvC 4 39,
⟨none, none, .store 1 (.t 5) (icC 0)⟩] (some [4, 5]))
.ret)))))), [.tmp 4, .cell false 1 5]⟩

theorem is226 : FnIs Tryz.prog 226 x226 := ⟨Tryz.f226, _, Tryz.func226, by kernel_rfl, rfl, by kernel_rfl, by decide, by kernel_rfl⟩

/-- (*cloisonne/room.Room).Setting -/
def x230 : XDecl := .code ⟨1, 
(.seq (.ops [opC 2 (.alloc [(.slice none 0 0), (.int .i64 0), (.int .i64 0), (.int .i64 0)])] (some [0, 2]))
(.seq (.seq (.ops [mvC 4 0,
opC 5 (.isNil .ptr false (.t 4))] (some [0, 2, 5]))
(.cond (.t 5)
(.seq (.ops [opC 6 (.build [(.slice none 0 0), (.int .i64 0), (.int .i64 0), (.int .i64 0)] [(0, 1), (1, 1), (2, 1), (3, 1)] []),
⟨none, none, .store 4 (.t 2) (.t 6)⟩] (some [2]))
.ret)
.skip))
(.seq (.ops [mvC 7 0,
opC 8 (.nilCheck (.t 7)),
opC 9 (.fieldAddr 0 (.t 8)),
opC 10 (.load true 4 (.t 9)),
opC 3 (.alloc [(.slice none 0 0), (.int .i64 0), (.int .i64 0), (.int .i64 0)]),
⟨none, none, .store 4 (.t 3) (.t 10)⟩] (some [2, 3]))
(.seq (.ops [opC 11 (.fieldAddr 0 (.t 3)),
opC 12 (.load false 1 (.t 11)),
opC 13 (clC 136 [(.t 12)]),
opC 14 (.fieldAddr 0 (.t 3)),
⟨none, none, .store 1 (.t 14) (.t 13)⟩] (some [2, 3]))
(.seq (.ops [opC 15 (.load true 4 (.t 3)),
⟨none, none, .store 4 (.t 2) (.t 15)⟩] (some [2]))
.ret))))), [.cell true 4 2]⟩

theorem is230 : FnIs Tryz.prog 230 x230 := ⟨Tryz.f230, _, Tryz.func230, by kernel_rfl, rfl, by kernel_rfl, by decide, by kernel_rfl⟩

/-- math.IsNaN -/
def x231 : XDecl := .code ⟨1, 
 (.seq (.ops [⟨(some 2), none, .move (.c (.bool false))⟩] (some [0]))
 (.seq (.ops [⟨(some 3), none, .move (.t 0)⟩,
   ⟨(some 4), none, .move (.t 0)⟩,
   ⟨(some 5), none, .bin .neq 273 (.t 3) (.t 4)⟩,
   ⟨(some 2), none, .move (.t 5)⟩] (some [2]))
 .ret)), [.tmp 2]⟩

theorem is231 : FnIs Tryz.prog 231 x231 := ⟨Tryz.f231, _, Tryz.func231, by kernel_rfl, rfl, by kernel_rfl, by decide, by kernel_rfl⟩

-- 232 math.Float64bits: no body
def x232 : XDecl := .ext 232

theorem is232 : FnIs Tryz.prog 232 x232 := rfl

/-- slices.pdqsortOrdered[string] -/
def x233 : XDecl := .code ⟨4, 
(.seq (.ops [opC 8 (.move (.c (.bool true)))] (some [0, 1, 2, 3, 8]))
(.seq (.ops [opC 9 (.move (.c (.bool true)))] (some [0, 1, 2, 3, 8, 9]))
(.block 0
(.loop
(.block 1
(.seq (.ops [mvC 19 2,
mvC 20 1,
opC 21 (.bin .sub 3 (.t 19) (.t 20)),
mvC 10 21] (some [0, 1, 2, 3, 8, 9, 10]))
(.seq (.seq (.ops [mvC 22 10,
opC 23 (.bin .leq 3 (.t 22) (icC 12))] (some [0, 1, 2, 3, 8, 9, 10, 23]))
(.cond (.t 23)
(.seq (.ops [mvC 24 0,
mvC 25 1,
mvC 26 2,
opC 27 (clC 312 [(.t 24), (.t 25), (.t 26)])] (some []))
.ret)
.skip))
(.seq (.seq (.ops [mvC 28 3,
opC 29 (.bin .eql 3 (.t 28) (icC 0))] (some [0, 1, 2, 3, 8, 9, 10, 29]))
(.cond (.t 29)
(.seq (.ops [mvC 30 0,
mvC 31 1,
mvC 32 2,
opC 33 (clC 313 [(.t 30), (.t 31), (.t 32)])] (some []))
.ret)
.skip))
(.seq (.seq (.ops [mvC 34 8,
opC 35 (.un .not (.t 34))] (some [0, 1, 2, 3, 8, 9, 10, 35]))
(.cond (.t 35)
(.seq (.ops [mvC 36 0,
mvC 37 1,
mvC 38 2,
opC 39 (clC 314 [(.t 36), (.t 37), (.t 38)])] (some [0, 1, 2, 3, 8, 9, 10]))
(.ops [mvC 40 3,
opC 41 (.bin .sub 3 (.t 40) (icC 1)),
mvC 3 41] (some [0, 1, 2, 3, 8, 9, 10])))
.skip))
(.seq (.ops [mvC 43 0,
mvC 44 1,
mvC 45 2,
opC 46 (clC 315 [(.t 43), (.t 44), (.t 45)]),
mvC 42 46,
opC 47 (.extract (.t 42) 0),
opC 48 (.extract (.t 42) 1),
mvC 11 47,
mvC 12 48] (some [0, 1, 2, 3, 8, 9, 10, 11, 12]))
(.seq (.seq (.ops [mvC 49 12,
opC 50 (.bin .eql 446 (.t 49) (icC 2))] (some [0, 1, 2, 3, 8, 9, 10, 11, 12, 50]))
(.cond (.t 50)
(.seq (.ops [mvC 51 0,
mvC 52 1,
mvC 53 2,
opC 54 (clC 316 [(.t 51), (.t 52), (.t 53)])] (some [0, 1, 2, 3, 8, 9, 10, 11]))
(.seq (.ops [mvC 55 2,
opC 56 (.bin .sub 3 (.t 55) (icC 1)),
mvC 57 11,
mvC 58 1,
opC 59 (.bin .sub 3 (.t 57) (.t 58)),
opC 60 (.bin .sub 3 (.t 56) (.t 59)),
mvC 11 60] (some [0, 1, 2, 3, 8, 9, 10, 11]))
(.ops [opC 12 (.move (icC 1))] (some [0, 1, 2, 3, 8, 9, 10, 11, 12]))))
.skip))
(.seq (.seq (.ops [mvC 61 8,
mvC 62 61,
⟨some 63, some (62, true), .move (.t 9)⟩,
opC 64 (.pick (.t 62) (.t 63) (.c (.bool false))),
mvC 65 64,
⟨some 66, some (65, true), .move (.t 12)⟩,
⟨some 67, some (65, true), .bin .eql 446 (.t 66) (icC 1)⟩,
opC 68 (.pick (.t 65) (.t 67) (.c (.bool false)))] (some [0, 1, 2, 3, 8, 9, 10, 11, 68]))
(.cond (.t 68)
(.seq (.ops [mvC 69 0,
mvC 70 1,
mvC 71 2,
opC 72 (clC 317 [(.t 69), (.t 70), (.t 71)])] (some [0, 1, 2, 3, 8, 9, 10, 11, 72]))
(.cond (.t 72)
.ret
.skip))
.skip))
(.seq (.seq (.opsd [(0, 0, mvC 73 1),
(1, 1, opC 74 (.bin .gtr 3 (.t 73) (icC 0))),
(2, 3, mvC 75 74),
(3, 7, ⟨some 76, some (75, true), .move (.t 0)⟩),
(4, 7, ⟨some 77, some (75, true), .move (.t 1)⟩),
(5, 23, ⟨some 78, some (75, true), .bin .sub 3 (.t 77) (icC 1)⟩),
(6, 63, ⟨some 79, some (75, true), .indexAddr 1 (.t 76) (.t 78)⟩),
(7, 127, ⟨some 80, some (75, true), .load false 1 (.t 79)⟩),
(8, 7, ⟨some 81, some (75, true), .move (.t 0)⟩),
(9, 7, ⟨some 82, some (75, true), .move (.t 11)⟩),
(10, 775, ⟨some 83, some (75, true), .indexAddr 1 (.t 81) (.t 82)⟩),
(11, 1799, ⟨some 84, some (75, true), .load false 1 (.t 83)⟩),
(12, 4095, ⟨some 85, some (75, true), clC 318 [(.t 80), (.t 84)]⟩),
(13, 8191, ⟨some 86, some (75, true), .un .not (.t 85)⟩),
(14, 16383, opC 87 (.pick (.t 75) (.t 86) (.c (.bool false))))] (some [0, 1, 2, 3, 8, 9, 10, 11, 87]))
(.cond (.t 87)
(.seq (.ops [mvC 88 0,
mvC 89 1,
mvC 90 2,
mvC 91 11,
opC 92 (clC 319 [(.t 88), (.t 89), (.t 90), (.t 91)]),
mvC 13 92] (some [0, 2, 3, 8, 9, 13]))
(.seq (.ops [mvC 93 13,
mvC 1 93] (some [0, 1, 2, 3, 8, 9]))
(.exit 1)))
.skip))
(.seq (.ops [mvC 95 0,
mvC 96 1,
mvC 97 2,
mvC 98 11,
opC 99 (clC 320 [(.t 95), (.t 96), (.t 97), (.t 98)]),
mvC 94 99,
opC 100 (.extract (.t 94) 0),
opC 101 (.extract (.t 94) 1),
mvC 14 100,
mvC 15 101] (some [0, 1, 2, 3, 10, 14, 15]))
(.seq (.ops [mvC 102 15,
mvC 9 102] (some [0, 1, 2, 3, 9, 10, 14]))
(.seq (.ops [mvC 103 14,
mvC 104 1,
opC 105 (.bin .sub 3 (.t 103) (.t 104)),
mvC 106 2,
mvC 107 14,
opC 108 (.bin .sub 3 (.t 106) (.t 107)),
mvC 16 105,
mvC 17 108] (some [0, 1, 2, 3, 9, 10, 14, 16, 17]))
(.seq (.ops [mvC 109 10,
opC 110 (.bin .quo 3 (.t 109) (icC 8)),
mvC 18 110] (some [0, 1, 2, 3, 9, 14, 16, 17, 18]))
(.seq (.ops [mvC 111 16,
mvC 112 17,
opC 113 (.bin .lss 3 (.t 111) (.t 112))] (some [0, 1, 2, 3, 9, 14, 16, 17, 18, 113]))
(.cond (.t 113)
(.seq (.ops [mvC 114 16,
mvC 115 18,
opC 116 (.bin .geq 3 (.t 114) (.t 115)),
mvC 8 116] (some [0, 1, 2, 3, 8, 9, 14]))
(.seq (.ops [mvC 117 0,
mvC 118 1,
mvC 119 14,
mvC 120 3,
opC 121 (clC 233 [(.t 117), (.t 118), (.t 119), (.t 120)])] (some [0, 2, 3, 8, 9, 14]))
(.ops [mvC 122 14,
opC 123 (.bin .add 3 (.t 122) (icC 1)),
mvC 1 123] (some [0, 1, 2, 3, 8, 9]))))
(.seq (.ops [mvC 124 17,
mvC 125 18,
opC 126 (.bin .geq 3 (.t 124) (.t 125)),
mvC 8 126] (some [0, 1, 2, 3, 8, 9, 14]))
(.seq (.ops [mvC 127 0,
mvC 128 14,
opC 129 (.bin .add 3 (.t 128) (icC 1)),
mvC 130 2,
mvC 131 3,
opC 132 (clC 233 [(.t 127), (.t 129), (.t 130), (.t 131)])] (some [0, 1, 3, 8, 9, 14]))
(.ops [mvC 133 14,
mvC 2 133] (some [0, 1, 2, 3, 8, 9]))))))))))))))))))))))), []⟩

theorem is233 : FnIs Tryz.prog 233 x233 := ⟨Tryz.f233, _, Tryz.func233, by kernel_rfl, rfl, by kernel_rfl, by decide, by kernel_rfl⟩

/-- math/bits.Len -/
def x234 : XDecl := .code ⟨1, 
(.seq (.ops [opC 2 (.move (icC 0))] (some [0]))
(.seq (.cond (.c (.bool false))
(.seq (.ops [mvC 3 0,
opC 4 (.conv 356 454 (.t 3)),
opC 5 (clC 321 [(.t 4)]),
mvC 2 5] (some [2]))
.ret)
.skip)
(.seq (.ops [mvC 6 0,
opC 7 (clC 322 [(.t 6)]),
mvC 2 7] (some [2]))
.ret))), [.tmp 2]⟩

theorem is234 : FnIs Tryz.prog 234 x234 := ⟨Tryz.f234, _, Tryz.func234, by kernel_rfl, rfl, by kernel_rfl, by decide, by kernel_rfl⟩

/-- slices.BinarySearchFunc[[]cloisonne/api.Entry,cloisonne/api.Entry,string] -/
def x235 : XDecl := .code ⟨3, 
(.seq (.ops [opC 6 (.move (icC 0)),
opC 7 (.move (.c (.bool false)))] (some [0, 1, 2]))
(.seq (.ops [mvC 12 0,
opC 13 (.len (.t 12)),
mvC 8 13] (some [0, 1, 2, 8]))
(.seq (.ops [mvC 14 8,
opC 9 (.move (icC 0)),
mvC 10 14] (some [0, 1, 2, 8, 9, 10]))
(.seq (.block 0
(.loop
(.seq (.seq (.ops [mvC 15 9,
mvC 16 10,
opC 17 (.bin .lss 3 (.t 15) (.t 16))] (some [0, 1, 2, 8, 9, 10, 17]))
(.cond (.t 17)
.skip
(.exit 0)))
(.block 1
(.seq (.ops [mvC 18 9,
mvC 19 10,
opC 20 (.bin .add 3 (.t 18) (.t 19)),
opC 21 (.conv 3 356 (.t 20)),
opC 22 (.bin .shr 356 (.t 21) (.c (.int .u64 1))),
opC 23 (.conv 356 3 (.t 22)),
mvC 11 23] (some [0, 1, 2, 8, 9, 10, 11]))
(.seq (.ops [mvC 24 2,
mvC 25 0,
mvC 26 11,
opC 27 (.indexAddr 5 (.t 25) (.t 26)),
opC 28 (.load true 5 (.t 27)),
mvC 29 1,
opC 30 (.call (.t 24) [(.t 28), (.t 29)]),
opC 31 (.bin .lss 3 (.t 30) (icC 0))] (some [0, 1, 2, 8, 9, 10, 11, 31]))
(.cond (.t 31)
(.ops [mvC 32 11,
opC 33 (.bin .add 3 (.t 32) (icC 1)),
mvC 9 33] (some [0, 1, 2, 8, 9, 10]))
(.ops [mvC 34 11,
mvC 10 34] (some [0, 1, 2, 8, 9, 10])))))))))
(.seq (.ops [mvC 35 9,
mvC 36 9,
mvC 37 8,
opC 38 (.bin .lss 3 (.t 36) (.t 37)),
mvC 39 38,
⟨some 40, some (39, true), .move (.t 2)⟩,
⟨some 41, some (39, true), .move (.t 0)⟩,
⟨some 42, some (39, true), .move (.t 9)⟩,
⟨some 43, some (39, true), .indexAddr 5 (.t 41) (.t 42)⟩,
⟨some 44, some (39, true), .load true 5 (.t 43)⟩,
⟨some 45, some (39, true), .move (.t 1)⟩,
⟨some 46, some (39, true), .call (.t 40) [(.t 44), (.t 45)]⟩,
⟨some 47, some (39, true), .bin .eql 3 (.t 46) (icC 0)⟩,
opC 48 (.pick (.t 39) (.t 47) (.c (.bool false))),
mvC 6 35,
mvC 7 48] (some [6, 7]))
.ret))))), [.tmp 6, .tmp 7]⟩

theorem is235 : FnIs Tryz.prog 235 x235 := ⟨Tryz.f235, _, Tryz.func235, by kernel_rfl, rfl, by kernel_rfl, by decide, by kernel_rfl⟩

/-- cloisonne/diff.find$1 -/
def x236 : XDecl := .code ⟨2, 
(.seq (.ops [opC 2 (.box (.t 0)),
opC 4 (.move (icC 0))] (some [1, 2]))
(.seq (.ops [opC 5 (.fieldAddr 0 (.t 2)),
opC 6 (.load false 1 (.t 5)),
mvC 7 1,
opC 8 (clC 237 [(.t 6), (.t 7)]),
mvC 4 8] (some [4]))
.ret)), [.tmp 4]⟩

theorem is236 : FnIs Tryz.prog 236 x236 := ⟨Tryz.f236, _, Tryz.func236, by kernel_rfl, rfl, by kernel_rfl, by decide, by kernel_rfl⟩

/-- strings.Compare -/
def x237 : XDecl := .code ⟨2, 
(.seq (.ops [opC 4 (.move (icC 0))] (some [0, 1]))
(.seq (.ops [mvC 5 0,
mvC 6 1,
opC 7 (clC 323 [(.t 5), (.t 6)]),
mvC 4 7] (some [4]))
.ret)), [.tmp 4]⟩

theorem is237 : FnIs Tryz.prog 237 x237 := ⟨Tryz.f237, _, Tryz.func237, by kernel_rfl, rfl, by kernel_rfl, by decide, by kernel_rfl⟩

/-- cloisonne/wire.letter -/
def x239 : XDecl := .code ⟨1, 
(.seq (.ops [opC 2 (.move (.c (.bool false)))] (some [0]))
(.seq (.ops [mvC 3 0,
opC 4 (clC 324 [(.c (.string ⟨#[98, 110, 116, 102, 108]⟩)), (.t 3)]),
opC 5 (.bin .geq 3 (.t 4) (icC 0)),
mvC 2 5] (some [2]))
.ret)), [.tmp 2]⟩

theorem is239 : FnIs Tryz.prog 239 x239 := ⟨Tryz.f239, _, Tryz.func239, by kernel_rfl, rfl, by kernel_rfl, by decide, by kernel_rfl⟩

/-- cloisonne/wire.empty -/
def x240 : XDecl := .code ⟨4, 
(.seq (.ops [opC 4 (.box (.t 0)),
opC 8 (.move (.c (.bool false)))] (some [1, 2, 3, 4]))
(.seq (.ops [mvC 9 1,
mvC 10 9,
⟨some 11, some (10, false), .fieldAddr 0 (.t 4)⟩,
⟨some 12, some (10, false), .load false 1 (.t 11)⟩,
⟨some 13, some (10, false), .bin .eql 77 (.t 12) (.c (.int .u64 0))⟩,
opC 14 (.pick (.t 10) (.c (.bool true)) (.t 13)),
mvC 15 14,
⟨some 16, some (15, true), .move (.t 2)⟩,
⟨some 17, some (15, true), .move (.t 16)⟩,
⟨some 18, some (17, false), .fieldAddr 1 (.t 4)⟩,
⟨some 19, some (17, false), .load false 1 (.t 18)⟩,
⟨some 20, some (17, false), .bin .eql 9 (.t 19) (.c (.string .empty))⟩,
⟨some 21, some (15, true), .pick (.t 17) (.c (.bool true)) (.t 20)⟩,
opC 22 (.pick (.t 15) (.t 21) (.c (.bool false))),
mvC 23 22,
⟨some 24, some (23, true), .move (.t 3)⟩,
⟨some 25, some (23, true), .move (.t 24)⟩,
⟨some 26, some (25, false), .fieldAddr 2 (.t 4)⟩,
⟨some 27, some (25, false), .load false 1 (.t 26)⟩,
⟨some 28, some (25, false), .len (.t 27)⟩,
⟨some 29, some (25, false), .bin .eql 3 (.t 28) (icC 0)⟩,
⟨some 30, some (23, true), .pick (.t 25) (.c (.bool true)) (.t 29)⟩,
opC 31 (.pick (.t 23) (.t 30) (.c (.bool false))),
mvC 8 31] (some [8]))
.ret)), [.tmp 8]⟩

theorem is240 : FnIs Tryz.prog 240 x240 := ⟨Tryz.f240, _, Tryz.func240, by kernel_rfl, rfl, by kernel_rfl, by decide, by kernel_rfl⟩

def tabC : FuncId → Option XDecl
  | 166 => some x166
  | 167 => some x167
  | 168 => some x168
  | 169 => some x169
  | 170 => some x170
  | 171 => some x171
  | 172 => some x172
  | 173 => some x173
  | 174 => some x174
  | 175 => some x175
  | 176 => some x176
  | 179 => some x179
  | 180 => some x180
  | 182 => some x182
  | 183 => some x183
  | 184 => some x184
  | 185 => some x185
  | 186 => some x186
  | 188 => some x188
  | 189 => some x189
  | 190 => some x190
  | 191 => some x191
  | 192 => some x192
  | 193 => some x193
  | 194 => some x194
  | 195 => some x195
  | 196 => some x196
  | 198 => some x198
  | 199 => some x199
  | 200 => some x200
  | 201 => some x201
  | 202 => some x202
  | 205 => some x205
  | 206 => some x206
  | 210 => some x210
  | 211 => some x211
  | 212 => some x212
  | 213 => some x213
  | 214 => some x214
  | 215 => some x215
  | 216 => some x216
  | 217 => some x217
  | 218 => some x218
  | 219 => some x219
  | 220 => some x220
  | 221 => some x221
  | 222 => some x222
  | 223 => some x223
  | 225 => some x225
  | 226 => some x226
  | 230 => some x230
  | 231 => some x231
  | 232 => some x232
  | 233 => some x233
  | 234 => some x234
  | 235 => some x235
  | 236 => some x236
  | 237 => some x237
  | 239 => some x239
  | 240 => some x240
  | _ => none
theorem tabC_is : ∀ f d, tabC f = some d → FnIs Tryz.prog f d := by
  intro f d h
  unfold tabC at h
  split at h
  · cases h; exact is166
  · cases h; exact is167
  · cases h; exact is168
  · cases h; exact is169
  · cases h; exact is170
  · cases h; exact is171
  · cases h; exact is172
  · cases h; exact is173
  · cases h; exact is174
  · cases h; exact is175
  · cases h; exact is176
  · cases h; exact is179
  · cases h; exact is180
  · cases h; exact is182
  · cases h; exact is183
  · cases h; exact is184
  · cases h; exact is185
  · cases h; exact is186
  · cases h; exact is188
  · cases h; exact is189
  · cases h; exact is190
  · cases h; exact is191
  · cases h; exact is192
  · cases h; exact is193
  · cases h; exact is194
  · cases h; exact is195
  · cases h; exact is196
  · cases h; exact is198
  · cases h; exact is199
  · cases h; exact is200
  · cases h; exact is201
  · cases h; exact is202
  · cases h; exact is205
  · cases h; exact is206
  · cases h; exact is210
  · cases h; exact is211
  · cases h; exact is212
  · cases h; exact is213
  · cases h; exact is214
  · cases h; exact is215
  · cases h; exact is216
  · cases h; exact is217
  · cases h; exact is218
  · cases h; exact is219
  · cases h; exact is220
  · cases h; exact is221
  · cases h; exact is222
  · cases h; exact is223
  · cases h; exact is225
  · cases h; exact is226
  · cases h; exact is230
  · cases h; exact is231
  · cases h; exact is232
  · cases h; exact is233
  · cases h; exact is234
  · cases h; exact is235
  · cases h; exact is236
  · cases h; exact is237
  · cases h; exact is239
  · cases h; exact is240
  · cases h

end Go.Proofs.YtglefgcnafoafaaGreatDoor.X
