/-
  Own work, printed by a program of ours (mkprog.py): the functions of this seat as code of the abstract run, and that each is the model's.
-/
import Derived.Test.YtnlmnejellipdaaXN
import Derived.Test.YtnlmnejellipdaaXLaw
import Derived.Test.YtnlmnejellipdaaChecked
set_option maxRecDepth 100000
namespace Go.Proofs.Ytnlmnejellipdaa.X
open Go

def x3 : XDecl := .code ⟨2,  (.seq (.ops [op 2 (.box (.t 0)),op 4 (.move (.c (.bool false)))] (some [1, 2])) (.seq (.seq (.ops [op 17 (cl 4 []),op 18 (.un .not (.t 17))] (some [1, 2, 18])) (.cond (.t 18) (.seq (.ops [op 4 (.move (.c (.bool false)))] (some [4])) .ret) .skip)) (.seq (.seq (.ops [fa 19 0 2,ld 20 1 19,op 21 (.len (.t 20)),op 22 (.bin .gtr 3 (.t 21) (ic 60))] (some [1, 2, 22])) (.cond (.t 22) (.seq (.ops [op 4 (.move (.c (.bool true)))] (some [4])) .ret) .skip)) (.seq (.ops [op 24 (.load true 4 (.t 2)),op 25 (cl 5 [(.t 24)]),mv 23 25,ex 26 23 0,ex 27 23 1,mv 5 26,mv 6 27] (some [1, 2, 5, 6])) (.seq (.seq (.ops [mv 28 6,op 29 (.bin .neq 28 (.t 28) (ic 0))] (some [1, 2, 5, 29])) (.cond (.t 29) (.seq (.ops [op 4 (.move (.c (.bool true)))] (some [4])) .ret) .skip)) (.seq (.ops [op 7 (.move (.c (.int .u64 0)))] (some [1, 2, 5, 7])) (.seq (.ops [op 30 (.buildSlice [(.int .i64 0)] 1 0 []),mv 8 30] (some [1, 2, 5, 7, 8])) (.seq (.ops [op 9 (.move (ic 0)),op 10 (.move (ic 0))] (some [1, 2, 5, 7, 8, 9, 10])) (.seq (.seq (.ops [op 11 (.move (ic 0))] (some [1, 2, 5, 7, 8, 9, 10, 11])) (.block 0 (.loop (.seq (.seq (.ops [mv 31 11,mv 32 1,op 33 (.len (.t 32)),ib 34 .lss 3 31 33,mv 35 34,og 36 35 (.move (.t 11)),og 37 35 (.bin .lss 3 (.t 36) (ic 120)),op 38 (.pick (.t 35) (.t 37) (.c (.bool false)))] (some [1, 2, 5, 7, 8, 9, 10, 11, 38])) (.cond (.t 38) .skip (.exit 0))) (.seq (.block 1 (.seq (.ops [mv 41 1,mv 42 11,op 43 (.indexAddr 5 (.t 41) (.t 42)),op 44 (.load true 5 (.t 43)),op 12 (.alloc [(.int .i64 0), (.slice none 0 0), (.int .u8 0), (.int .i64 0), (.string .empty)]),st 5 12 44] (some [1, 2, 5, 7, 8, 9, 10, 11, 12])) (.seq (.seq (.ops [fa 45 1 12,ld 46 1 45,op 47 (cl 6 [(.t 46)])] (some [1, 2, 5, 7, 8, 9, 10, 11, 12, 47])) (.cond (.t 47) (.exit 1) .skip)) (.seq (.seq (.ops [fa 48 0 12,ld 49 1 48,op 50 (.bin .eql 3 (.t 49) (ic 1))] (some [1, 2, 5, 7, 8, 9, 10, 11, 12, 50])) (.cond (.t 50) (.seq (.ops [mv 52 5,fa 53 1 12,ld 54 1 53,mv 55 7,op 56 (.bin .add 31 (.t 55) (.c (.int .u64 1))),fa 57 2 12,ld 58 1 57,op 59 (.conv 5 31 (.t 58)),ib 60 .add 31 56 59,op 61 (cl 7 [(.t 52), (.t 54), (.t 60)]),mv 51 61,ex 62 51 0,ex 63 51 1,mv 13 62,mv 14 63] (some [1, 2, 5, 7, 8, 9, 10, 11, 12, 14])) (.seq (.ops [mv 64 14,op 65 (.bin .eql 28 (.t 64) (ic 0))] (some [1, 2, 5, 7, 8, 9, 10, 11, 12, 65])) (.cond (.t 65) (.seq (.ops [mv 66 7,op 67 (.bin .add 31 (.t 66) (.c (.int .u64 1))),fa 68 2 12,ld 69 1 68,op 70 (.conv 5 31 (.t 69)),ib 71 .add 31 67 70,mv 7 71] (some [1, 2, 5, 7, 8, 9, 10, 11, 12])) (.seq (.ops [mv 72 8,fa 73 1 12,ld 74 1 73,op 75 (.len (.t 74)),op 76 (.buildSlice [(.int .i64 0)] 1 1 [(0, (.t 75))]),op 77 (.append 1 8 [(.int .i64 0)] (.t 72) (.t 76)),mv 8 77] (some [1, 2, 5, 7, 8, 9, 10, 11, 12])) (.ops [mv 78 10,fa 79 1 12,ld 80 1 79,op 81 (.len (.t 80)),ib 82 .add 3 78 81,mv 10 82] (some [1, 2, 5, 7, 8, 9, 10, 11, 12])))) .skip))) .skip)) (.seq (.seq (.ops [fa 83 0 12,ld 84 1 83,op 85 (.bin .eql 3 (.t 84) (ic 2))] (some [1, 2, 5, 7, 8, 9, 10, 11, 85])) (.cond (.t 85) (.seq (.ops [mv 86 5,op 87 (cl 8 [(.t 86)])] (some [1, 2, 5, 7, 8, 11])) (.seq (.ops [mv 88 5,op 89 (cl 9 [(.t 88)]),mv 9 89] (some [1, 2, 5, 7, 8, 9, 11])) (.seq (.ops [op 10 (.move (ic 0))] (some [1, 2, 5, 7, 8, 9, 10, 11])) (.seq (.ops [mv 90 5,op 91 (cl 10 [(.t 90)]),mv 15 91] (some [1, 2, 5, 7, 8, 9, 10, 11, 15])) (.seq (.seq (.ops [op 16 (.move (ic 1))] (some [1, 2, 5, 7, 8, 9, 10, 11, 15, 16])) (.block 2 (.loop (.seq (.seq (.ops [mv 92 16,fa 93 1 2,ld 94 1 93,ib 95 .lss 3 92 94,mv 96 95,og 97 96 (.move (.t 16)),og 98 96 (.move (.t 8)),og 99 96 (.len (.t 98)),og 100 96 (.bin .leq 3 (.t 97) (.t 99)),op 101 (.pick (.t 96) (.t 100) (.c (.bool false)))] (some [1, 2, 5, 7, 8, 9, 10, 11, 15, 16, 101])) (.cond (.t 101) .skip (.exit 2))) (.seq (.block 3 (.ops [mv 104 15,mv 105 8,mv 106 8,op 107 (.len (.t 106)),mv 108 16,ib 109 .sub 3 107 108,op 110 (.indexAddr 1 (.t 105) (.t 109)),ld 111 1 110,op 112 (.bin .mul 3 (ic 2) (.t 111)),ib 113 .add 3 104 112,mv 15 113] (some [1, 2, 5, 7, 8, 9, 10, 11, 15, 16]))) (.ops [mv 102 16,op 103 (.bin .add 3 (.t 102) (ic 1)),mv 16 103] (some [1, 2, 5, 7, 8, 9, 10, 11, 15, 16]))))))) (.seq (.ops [mv 114 9,mv 115 15,ib 116 .gtr 3 114 115] (some [1, 2, 5, 7, 8, 9, 10, 11, 116])) (.cond (.t 116) (.seq (.ops [op 4 (.move (.c (.bool false)))] (some [4])) .ret) .skip))))))) .skip)) (.seq (.ops [mv 117 5,op 118 (cl 9 [(.t 117)]),mv 119 9,mv 120 10,ib 121 .add 3 119 120,ib 122 .gtr 3 118 121] (some [1, 2, 5, 7, 8, 9, 10, 11, 122])) (.cond (.t 122) (.seq (.ops [op 4 (.move (.c (.bool false)))] (some [4])) .ret) .skip))))))) (.ops [mv 39 11,op 40 (.bin .add 3 (.t 39) (ic 1)),mv 11 40] (some [1, 2, 5, 7, 8, 9, 10, 11]))))))) (.seq (.ops [op 4 (.move (.c (.bool true)))] (some [4])) .ret)))))))))), [.tmp 4]⟩

theorem is3 : FnIs Try.prog 3 x3 := ⟨Try.f3, _, Try.func3, by kernel_rfl, rfl, by kernel_rfl, by decide, by kernel_rfl⟩

def x4 : XDecl := .code ⟨0,  (.seq (.ops [op 0 (.move (.c (.bool false)))] (some [])) (.seq (.ops [op 6 (.build [(.slice none 0 0), (.int .i64 0), (.int .i64 0), (.int .i64 0)] [(0, 1), (1, 1), (2, 1), (3, 1)] [(1, (ic 1)), (2, (ic 3)), (3, (ic 9))]),op 7 (cl 5 [(.t 6)]),mv 5 7,ex 8 5 0,ex 9 5 1,mv 1 8,mv 2 9] (some [1, 2])) (.seq (.ops [mv 10 1,op 11 (.build [(.bool false), (.string .empty), (.int .u64 0)] [(0, 1), (1, 1), (2, 1)] [(1, (.c (.string ⟨#[120]⟩)))]),op 12 (.build [(.string .empty), (.bool false), (.bool false), (.string .empty), (.int .u64 0)] [(0, 1), (1, 1), (2, 3)] [(0, (.c (.string ⟨#[107]⟩))), (2, (.t 11))]),op 13 (.buildSlice [(.string .empty), (.bool false), (.bool false), (.string .empty), (.int .u64 0)] 5 1 [(0, (.t 12))]),op 14 (cl 11 [(.t 10), (.t 13), (ic 0)]),mv 3 14] (some [1, 2, 3])) (.seq (.ops [mv 15 1,op 16 (.build [(.bool false), (.string .empty), (.int .u64 0)] [(0, 1), (1, 1), (2, 1)] [(1, (.c (.string ⟨#[120, 121]⟩)))]),op 17 (.build [(.string .empty), (.bool false), (.bool false), (.string .empty), (.int .u64 0)] [(0, 1), (1, 1), (2, 3)] [(0, (.c (.string ⟨#[107]⟩))), (2, (.t 16))]),op 18 (.buildSlice [(.string .empty), (.bool false), (.bool false), (.string .empty), (.int .u64 0)] 5 1 [(0, (.t 17))]),op 19 (cl 11 [(.t 15), (.t 18), (ic 0)]),mv 4 19] (some [2, 3, 4])) (.seq (.ops [mv 20 2,op 21 (.bin .eql 28 (.t 20) (ic 0)),mv 22 21,og 23 22 (.move (.t 3)),og 24 22 (.bin .eql 28 (.t 23) (ic 0)),op 25 (.pick (.t 22) (.t 24) (.c (.bool false))),mv 26 25,og 27 26 (.move (.t 4)),og 28 26 (.bin .eql 28 (.t 27) (ic 15)),op 29 (.pick (.t 26) (.t 28) (.c (.bool false))),mv 0 29] (some [0])) .ret))))), [.tmp 0]⟩

theorem is4 : FnIs Try.prog 4 x4 := ⟨Try.f4, _, Try.func4, by kernel_rfl, rfl, by kernel_rfl, by decide, by kernel_rfl⟩

def x5 : XDecl := .code ⟨1,  (.seq (.ops [op 1 (.box (.t 0)),op 2 (.move (.c (.pointer none))),op 3 (.move (ic 0))] (some [1])) (.seq (.ops [op 4 (.load true 4 (.t 1)),op 5 (cl 12 [(.t 4), (ic 0)]),ex 6 5 0,ex 7 5 1,mv 2 6,mv 3 7] (some [2, 3])) .ret)), [.tmp 2, .tmp 3]⟩

theorem is5 : FnIs Try.prog 5 x5 := ⟨Try.f5, _, Try.func5, by kernel_rfl, rfl, by kernel_rfl, by decide, by kernel_rfl⟩

def x6 : XDecl := .code ⟨1,  (.seq (.ops [op 2 (.move (.c (.bool false)))] (some [0])) (.seq (.seq (.ops [mv 4 0,op 5 (.len (.t 4)),op 6 (.bin .gtr 3 (.t 5) (ic 30))] (some [0, 6])) (.cond (.t 6) (.seq (.ops [op 2 (.move (.c (.bool true)))] (some [2])) .ret) .skip)) (.seq (.seq (.ops [op 3 (.move (ic 0))] (some [0, 3])) (.block 0 (.loop (.seq (.seq (.ops [mv 7 3,mv 8 0,op 9 (.len (.t 8)),ib 10 .lss 3 7 9] (some [0, 3, 10])) (.cond (.t 10) .skip (.exit 0))) (.seq (.block 1 (.seq (.ops [mv 13 0,mv 14 3,op 15 (.indexAddr 5 (.t 13) (.t 14)),fa 16 0 15,ld 17 1 16,op 18 (.calcB .len [9] 3 [(.t 17)]),op 19 (.bin .gtr 3 (.t 18) (ic 200)),mv 20 19,on 21 20 (.move (.t 0)),on 22 20 (.move (.t 3)),on 23 20 (.indexAddr 5 (.t 21) (.t 22)),on 24 20 (.fieldAddr 2 (.t 23)),on 25 20 (.fieldAddr 1 (.t 24)),on 26 20 (.load false 1 (.t 25)),on 27 20 (.calcB .len [9] 3 [(.t 26)]),on 28 20 (.bin .gtr 3 (.t 27) (ic 200)),op 29 (.pick (.t 20) (.c (.bool true)) (.t 28))] (some [0, 3, 29])) (.cond (.t 29) (.seq (.ops [op 2 (.move (.c (.bool true)))] (some [2])) .ret) .skip))) (.ops [mv 11 3,op 12 (.bin .add 3 (.t 11) (ic 1)),mv 3 12] (some [0, 3]))))))) (.seq (.ops [op 2 (.move (.c (.bool false)))] (some [2])) .ret)))), [.tmp 2]⟩

theorem is6 : FnIs Try.prog 6 x6 := ⟨Try.f6, _, Try.func6, by kernel_rfl, rfl, by kernel_rfl, by decide, by kernel_rfl⟩

def x7 : XDecl := .code ⟨3,  (.seq (.ops [op 6 (.move (ic 0)),op 7 (.move (ic 0))] (some [0, 1, 2])) (.seq (.block 0 (.seq (.ops [mv 15 0,op 16 (.isNil .ptr false (.t 15)),mv 14 16] (some [0, 1, 2, 14])) (.cond (.t 14) (.seq (.ops [op 6 (.move (ic 0)),op 7 (.move (ic 2))] (some [6, 7])) .ret) (.seq (.ops [mv 18 1,op 19 (cl 13 [(.t 18)]),op 20 (.un .not (.t 19)),mv 17 20] (some [0, 1, 2, 17])) (.cond (.t 17) (.seq (.ops [op 6 (.move (ic 0)),op 7 (.move (ic 1))] (some [6, 7])) .ret) .skip))))) (.seq (.seq (.ops [mv 21 0,mv 22 1,op 23 (cl 14 [(.t 21), (.t 22)]),mv 8 23] (some [0, 1, 2, 8])) (.seq (.ops [mv 24 8,op 25 (.bin .neq 28 (.t 24) (ic 0))] (some [0, 1, 2, 8, 25])) (.cond (.t 25) (.seq (.ops [mv 26 8,op 6 (.move (ic 0)),mv 7 26] (some [6, 7])) .ret) .skip))) (.seq (.ops [mv 28 0,nc 29 28,fa 30 4 29,ld 31 1 30,mv 32 2,op 33 (cl 15 [(.t 31), (.t 32)]),mv 27 33,ex 34 27 0,ex 35 27 1,mv 9 34,mv 10 35] (some [0, 1, 9, 10])) (.seq (.seq (.ops [mv 36 10,op 37 (.bin .neq 28 (.t 36) (ic 0))] (some [0, 1, 9, 10, 37])) (.cond (.t 37) (.seq (.ops [mv 38 10,op 6 (.move (ic 0)),mv 7 38] (some [6, 7])) .ret) .skip)) (.seq (.seq (.ops [mv 39 1,op 40 (.len (.t 39)),op 41 (.move (ic 0))] (some [0, 9, 39, 40, 41])) (.block 1 (.loop (.seq (.ops [ib 42 .lss 3 41 40] (some [0, 9, 39, 40, 41, 42])) (.seq (.cond (.t 42) .skip (.exit 1)) (.seq (.block 2 (.seq (.ops [op 43 (.indexAddr 5 (.t 39) (.t 41)),op 44 (.load true 5 (.t 43)),op 12 (.alloc [(.string .empty), (.bool false), (.bool false), (.string .empty), (.int .u64 0)]),st 5 12 44] (some [0, 9, 12, 39, 40, 41])) (.seq (.ops [mv 45 0,fa 46 0 12,ld 47 1 46,mv 48 9,fa 49 1 12,ld 50 1 49,fa 51 2 12,op 52 (.load true 3 (.t 51)),op 53 (.build [(.int .i64 0), (.bool false), (.bool false), (.string .empty), (.int .u64 0)] [(0, 1), (1, 1), (2, 3)] [(0, (.t 48)), (1, (.t 50)), (2, (.t 52))]),op 54 (cl 16 [(.t 45), (.t 47), (.t 53)]),mv 13 54] (some [0, 9, 13, 39, 40, 41])) (.seq (.ops [mv 55 13,op 56 (.bin .neq 28 (.t 55) (ic 0))] (some [0, 9, 13, 39, 40, 41, 56])) (.cond (.t 56) (.seq (.ops [mv 57 13,op 6 (.move (ic 0)),mv 7 57] (some [6, 7])) .ret) .skip))))) (.ops [op 58 (.bin .add 3 (.t 41) (ic 1)),mv 41 58] (some [0, 9, 39, 40, 41])))))))) (.seq (.ops [mv 59 9,mv 6 59,op 7 (.move (ic 0))] (some [6, 7])) .ret))))))), [.tmp 6, .tmp 7]⟩

theorem is7 : FnIs Try.prog 7 x7 := ⟨Try.f7, _, Try.func7, by kernel_rfl, rfl, by kernel_rfl, by decide, by kernel_rfl⟩

def x8 : XDecl := .code ⟨1,  (.seq (.ops [op 2 (.move (ic 0))] (some [0])) (.seq (.ops [op 3 (.move (ic 0))] (some [0, 3])) (.seq (.seq (.ops [mv 8 0,op 9 (cl 17 [(.t 8)]),op 10 (.len (.t 9)),op 11 (.move (ic 0))] (some [0, 3, 9, 10, 11])) (.block 0 (.loop (.seq (.ops [ib 12 .lss 3 11 10] (some [0, 3, 9, 10, 11, 12])) (.seq (.cond (.t 12) .skip (.exit 0)) (.seq (.block 1 (.seq (.ops [op 13 (.indexAddr 1 (.t 9) (.t 11)),ld 14 1 13,mv 5 14] (some [0, 3, 5, 9, 10, 11])) (.seq (.ops [mv 15 0,mv 16 5,op 17 (cl 18 [(.t 15), (.t 16)]),mv 6 17] (some [0, 3, 5, 6, 9, 10, 11])) (.seq (.ops [mv 18 6,mv 19 0,op 20 (cl 20 [(.t 19)]),op 21 (cl 19 [(.t 18), (.t 20)]),mv 7 21] (some [0, 3, 5, 6, 7, 9, 10, 11])) (.seq (.seq (.ops [mv 22 7,op 23 (.bin .gtr 3 (.t 22) (ic 0))] (some [0, 3, 5, 6, 7, 9, 10, 11, 23])) (.cond (.t 23) (.ops [mv 24 0,mv 25 5,mv 26 6,mv 27 0,op 28 (cl 20 [(.t 27)]),op 29 (cl 22 [(.t 26), (.t 28)]),op 30 (cl 21 [(.t 24), (.t 25), (.t 29)])] (some [0, 3, 7, 9, 10, 11])) .skip)) (.ops [mv 31 3,mv 32 7,ib 33 .add 3 31 32,mv 3 33] (some [0, 3, 9, 10, 11]))))))) (.ops [op 34 (.bin .add 3 (.t 11) (ic 1)),mv 11 34] (some [0, 3, 9, 10, 11])))))))) (.seq (.ops [mv 35 3,mv 2 35] (some [2])) .ret)))), [.tmp 2]⟩

theorem is8 : FnIs Try.prog 8 x8 := ⟨Try.f8, _, Try.func8, by kernel_rfl, rfl, by kernel_rfl, by decide, by kernel_rfl⟩

def x9 : XDecl := .code ⟨1,  (.seq (.ops [op 2 (.move (ic 0))] (some [0])) (.seq (.seq (.ops [mv 3 0,op 4 (.isNil .ptr false (.t 3))] (some [0, 4])) (.cond (.t 4) (.seq (.ops [op 2 (.move (ic 0))] (some [2])) .ret) .skip)) (.seq (.ops [mv 5 0,nc 6 5,fa 7 10 6,ld 8 1 7,mv 2 8] (some [2])) .ret))), [.tmp 2]⟩

theorem is9 : FnIs Try.prog 9 x9 := ⟨Try.f9, _, Try.func9, by kernel_rfl, rfl, by kernel_rfl, by decide, by kernel_rfl⟩

def x10 : XDecl := .code ⟨1,  (.seq (.ops [op 2 (.move (ic 0))] (some [0])) (.seq (.seq (.ops [mv 3 0,op 4 (.isNil .ptr false (.t 3))] (some [0, 4])) (.cond (.t 4) (.seq (.ops [op 2 (.move (ic 0))] (some [2])) .ret) .skip)) (.seq (.ops [mv 5 0,nc 6 5,fa 7 9 6,ld 8 1 7,mv 2 8] (some [2])) .ret))), [.tmp 2]⟩

theorem is10 : FnIs Try.prog 10 x10 := ⟨Try.f10, _, Try.func10, by kernel_rfl, rfl, by kernel_rfl, by decide, by kernel_rfl⟩

def x11 : XDecl := .code ⟨3,  (.seq (.ops [op 6 (.move (ic 0))] (some [0, 1, 2])) (.seq (.block 0 (.seq (.ops [mv 12 0,op 13 (.isNil .ptr false (.t 12)),mv 11 13] (some [0, 1, 2, 11])) (.cond (.t 11) (.seq (.ops [op 6 (.move (ic 2))] (some [6])) .ret) (.seq (.ops [mv 15 1,op 16 (cl 13 [(.t 15)]),op 17 (.un .not (.t 16)),mv 14 17] (some [0, 1, 2, 14])) (.cond (.t 14) (.seq (.ops [op 6 (.move (ic 1))] (some [6])) .ret) (.seq (.ops [mv 19 2,mv 20 0,op 21 (cl 20 [(.t 20)]),mv 22 0,op 23 (cl 24 [(.t 22)]),op 24 (cl 23 [(.t 19), (.t 21), (.t 23)]),op 25 (.un .not (.t 24)),mv 18 25] (some [0, 1, 2, 18])) (.cond (.t 18) (.seq (.ops [op 6 (.move (ic 14))] (some [6])) .ret) .skip))))))) (.seq (.seq (.ops [mv 26 1,op 27 (.len (.t 26)),op 28 (.move (ic 0))] (some [0, 1, 2, 26, 27, 28])) (.block 1 (.loop (.seq (.ops [ib 29 .lss 3 28 27] (some [0, 1, 2, 26, 27, 28, 29])) (.seq (.cond (.t 29) .skip (.exit 1)) (.seq (.block 2 (.seq (.ops [op 30 (.indexAddr 5 (.t 26) (.t 28)),op 31 (.load true 5 (.t 30)),op 8 (.alloc [(.string .empty), (.bool false), (.bool false), (.string .empty), (.int .u64 0)]),st 5 8 31] (some [0, 1, 2, 8, 26, 27, 28])) (.seq (.ops [mv 33 0,fa 34 0 8,ld 35 1 34,op 36 (cl 18 [(.t 33), (.t 35)]),op 37 (cl 25 [(.t 36)]),mv 32 37,ex 38 32 0,ex 39 32 1,op 9 (.alloc [(.int .i64 0), (.bool false), (.bool false), (.string .empty), (.int .u64 0)]),st 5 9 38,mv 10 39] (some [0, 1, 2, 9, 10, 26, 27, 28])) (.seq (.ops [mv 40 10,mv 41 40,og 42 41 (.fieldAddr 0 (.t 9)),og 43 41 (.load false 1 (.t 42)),og 44 41 (.move (.t 2)),og 45 41 (.bin .gtr 3 (.t 43) (.t 44)),op 46 (.pick (.t 41) (.t 45) (.c (.bool false)))] (some [0, 1, 2, 26, 27, 28, 46])) (.cond (.t 46) (.seq (.ops [op 6 (.move (ic 13))] (some [6])) .ret) .skip))))) (.ops [op 47 (.bin .add 3 (.t 28) (ic 1)),mv 28 47] (some [0, 1, 2, 26, 27, 28])))))))) (.seq (.ops [mv 48 0,mv 49 1,op 50 (cl 14 [(.t 48), (.t 49)]),mv 6 50] (some [6])) .ret)))), [.tmp 6]⟩

theorem is11 : FnIs Try.prog 11 x11 := ⟨Try.f11, _, Try.func11, by kernel_rfl, rfl, by kernel_rfl, by decide, by kernel_rfl⟩

def x12 : XDecl := .code ⟨2,  (.seq (.ops [op 2 (.box (.t 0)),op 4 (.move (.c (.pointer none))),op 5 (.move (ic 0))] (some [1, 2])) (.seq (.seq (.ops [op 8 (.load true 4 (.t 2)),op 9 (cl 26 [(.t 8)]),op 10 (.un .not (.t 9)),mv 11 10,on 12 11 (.move (.t 1)),on 13 11 (.fieldAddr 3 (.t 2)),on 14 11 (.load false 1 (.t 13)),on 15 11 (cl 23 [(.t 12), (ic 0), (.t 14)]),on 16 11 (.un .not (.t 15)),op 17 (.pick (.t 11) (.c (.bool true)) (.t 16))] (some [1, 2, 17])) (.cond (.t 17) (.seq (.ops [op 4 (.move (.c (.pointer none))),op 5 (.move (ic 1))] (some [4, 5])) .ret) .skip)) (.seq (.ops [fa 19 1 2,ld 20 1 19,mv 21 1,op 22 (cl 27 [(.t 20), (.t 21)]),mv 18 22,ex 23 18 0,ex 24 18 1,mv 6 23,mv 7 24] (some [2, 6, 7])) (.seq (.seq (.ops [mv 25 7,op 26 (.bin .neq 28 (.t 25) (ic 0))] (some [2, 6, 7, 26])) (.cond (.t 26) (.seq (.ops [mv 27 7,op 4 (.move (.c (.pointer none))),mv 5 27] (some [4, 5])) .ret) .skip)) (.seq (.ops [fa 28 0 2,ld 29 1 28,op 30 (cl 28 [(.t 29)]),fa 31 0 2,st 1 31 30] (some [2, 6])) (.seq (.opsd [(0, 0, op 32 (.load true 4 (.t 2))),(1, 0, mv 33 6),(2, 0, op 34 (cl 29 [])),(3, 7, op 35 (.build [(.slice none 0 0), (.int .i64 0), (.int .i64 0), (.int .i64 0), (.pointer none), (.pointer none), (.slice none 0 0), (.slice none 0 0), (.int .i64 0), (.int .i64 0), (.int .i64 0)] [(0, 4), (4, 1), (5, 1), (6, 1), (7, 1), (8, 1), (9, 1), (10, 1)] [(0, (.t 32)), (1, (.t 33)), (2, (.t 34))])),(4, 15, op 36 (.box (.t 35))),(5, 31, mv 4 36),(6, 63, op 5 (.move (ic 0)))] (some [4, 5])) .ret)))))), [.tmp 4, .tmp 5]⟩

theorem is12 : FnIs Try.prog 12 x12 := ⟨Try.f12, _, Try.func12, by kernel_rfl, rfl, by kernel_rfl, by decide, by kernel_rfl⟩

def x13 : XDecl := .code ⟨1,  (.seq (.ops [op 2 (.move (.c (.bool false)))] (some [0])) (.seq (.seq (.ops [mv 5 0,op 6 (.len (.t 5)),op 7 (.move (ic 0))] (some [0, 5, 6, 7])) (.block 0 (.loop (.seq (.ops [ib 8 .lss 3 7 6] (some [0, 5, 6, 7, 8])) (.seq (.cond (.t 8) .skip (.exit 0)) (.seq (.block 1 (.seq (.ops [mv 9 7,op 10 (.indexAddr 5 (.t 5) (.t 7)),op 11 (.load true 5 (.t 10)),op 4 (.alloc [(.string .empty), (.bool false), (.bool false), (.string .empty), (.int .u64 0)]),mv 3 9,st 5 4 11] (some [0, 3, 4, 5, 6, 7])) (.seq (.opsd [(0, 0, fa 12 0 4),(1, 1, ld 13 1 12),(2, 3, op 14 (cl 30 [(.t 13)])),(3, 7, op 15 (.un .not (.t 14))),(4, 15, mv 16 15),(5, 31, on 17 16 (.fieldAddr 2 (.t 4))),(6, 63, on 18 16 (.load true 3 (.t 17))),(7, 127, on 19 16 (cl 31 [(.t 18)])),(8, 255, on 20 16 (.un .not (.t 19))),(9, 511, op 21 (.pick (.t 16) (.c (.bool true)) (.t 20))),(10, 1023, mv 22 21),(11, 2047, on 23 22 (.fieldAddr 1 (.t 4))),(12, 4095, on 24 22 (.load false 1 (.t 23))),(13, 8191, on 25 22 (.move (.t 24))),(14, 16383, og 26 25 (.fieldAddr 2 (.t 4))),(15, 32767, og 27 25 (.load true 3 (.t 26))),(16, 16383, og 28 25 (.build [(.bool false), (.string .empty), (.int .u64 0)] [(0, 1), (1, 1), (2, 1)] [])),(17, 131071, og 29 25 (.bin .neq 43 (.t 27) (.t 28))),(18, 262143, on 30 22 (.pick (.t 25) (.t 29) (.c (.bool false)))),(19, 524287, op 31 (.pick (.t 22) (.c (.bool true)) (.t 30))),(20, 1048575, mv 32 31),(21, 2097151, on 33 32 (.move (.t 3))),(22, 4194303, on 34 32 (.bin .gtr 3 (.t 33) (ic 0))),(23, 8388607, on 35 32 (.move (.t 34))),(24, 16777215, og 36 35 (.move (.t 0))),(25, 16777215, og 37 35 (.move (.t 3))),(26, 50331647, og 38 35 (.bin .sub 3 (.t 37) (ic 1))),(27, 134217727, og 39 35 (.indexAddr 5 (.t 36) (.t 38))),(28, 268435455, og 40 35 (.fieldAddr 0 (.t 39))),(29, 536870911, og 41 35 (.load false 1 (.t 40))),(30, 16777215, og 42 35 (.fieldAddr 0 (.t 4))),(31, 1090519039, og 43 35 (.load false 1 (.t 42))),(32, 4294967295, og 44 35 (.bin .geq 9 (.t 41) (.t 43))),(33, 8589934591, on 45 32 (.pick (.t 35) (.t 44) (.c (.bool false)))),(34, 17179869183, op 46 (.pick (.t 32) (.c (.bool true)) (.t 45)))] (some [0, 5, 6, 7, 46])) (.cond (.t 46) (.seq (.ops [op 2 (.move (.c (.bool false)))] (some [2])) .ret) .skip)))) (.ops [op 47 (.bin .add 3 (.t 7) (ic 1)),mv 7 47] (some [0, 5, 6, 7])))))))) (.seq (.ops [mv 48 0,op 49 (.len (.t 48)),op 50 (cl 23 [(.t 49), (ic 1), (ic 16)]),mv 2 50] (some [2])) .ret))), [.tmp 2]⟩

theorem is13 : FnIs Try.prog 13 x13 := ⟨Try.f13, _, Try.func13, by kernel_rfl, rfl, by kernel_rfl, by decide, by kernel_rfl⟩

def x14 : XDecl := .code ⟨2,  (.seq (.ops [op 4 (.move (ic 0))] (some [0, 1])) (.seq (.seq (.opsd [(0, 0, mv 8 0),(2, 0, mv 10 0),(3, 4, nc 11 10),(4, 12, fa 12 0 11),(5, 28, fa 13 3 12),(6, 60, ld 14 1 13),(1, 1, op 9 (cl 24 [(.t 8)])),(7, 127, ib 15 .geq 3 9 14)] (some [0, 1, 15])) (.cond (.t 15) (.seq (.ops [op 4 (.move (ic 17))] (some [4])) .ret) .skip)) (.seq (.ops [mv 16 0,nc 17 16,fa 18 8 17,ld 19 1 18,mv 5 19] (some [0, 1, 5])) (.seq (.seq (.ops [mv 20 1,op 21 (.len (.t 20)),op 22 (.move (ic 0))] (some [0, 5, 20, 21, 22])) (.block 0 (.loop (.seq (.ops [ib 23 .lss 3 22 21] (some [0, 5, 20, 21, 22, 23])) (.seq (.cond (.t 23) .skip (.exit 0)) (.seq (.block 1 (.seq (.ops [op 24 (.indexAddr 5 (.t 20) (.t 22)),op 25 (.load true 5 (.t 24)),op 7 (.alloc [(.string .empty), (.bool false), (.bool false), (.string .empty), (.int .u64 0)]),st 5 7 25] (some [0, 5, 7, 20, 21, 22])) (.seq (.opsd [(0, 0, mv 26 5),(1, 0, fa 27 0 7),(2, 2, ld 28 1 27),(3, 0, mv 29 0),(4, 0, fa 30 0 7),(5, 16, ld 31 1 30),(6, 56, op 32 (cl 18 [(.t 29), (.t 31)])),(7, 126, op 33 (cl 32 [(.t 28), (.t 32)])),(8, 255, ib 34 .sub 3 26 33),(9, 511, mv 5 34)] (some [0, 5, 7, 20, 21, 22])) (.seq (.ops [fa 35 1 7,ld 36 1 35,op 37 (.un .not (.t 36))] (some [0, 5, 7, 20, 21, 22, 37])) (.cond (.t 37) (.opsd [(0, 0, mv 38 5),(1, 0, fa 39 0 7),(2, 2, ld 40 1 39),(3, 6, op 41 (.calcB .len [9] 3 [(.t 40)])),(4, 0, fa 42 2 7),(5, 16, op 43 (.load true 3 (.t 42))),(6, 48, op 44 (cl 33 [(.t 43)])),(7, 126, ib 45 .add 3 41 44),(8, 255, ib 46 .add 3 38 45),(9, 511, mv 5 46)] (some [0, 5, 20, 21, 22])) .skip))))) (.ops [op 47 (.bin .add 3 (.t 22) (ic 1)),mv 22 47] (some [0, 5, 20, 21, 22])))))))) (.seq (.seq (.ops [mv 48 5,mv 49 0,nc 50 49,fa 51 0 50,fa 52 2 51,ld 53 1 52,ib 54 .gtr 3 48 53] (some [54])) (.cond (.t 54) (.seq (.ops [op 4 (.move (ic 15))] (some [4])) .ret) .skip)) (.seq (.ops [op 4 (.move (ic 0))] (some [4])) .ret)))))), [.tmp 4]⟩

theorem is14 : FnIs Try.prog 14 x14 := ⟨Try.f14, _, Try.func14, by kernel_rfl, rfl, by kernel_rfl, by decide, by kernel_rfl⟩

def x15 : XDecl := .code ⟨2,  (.seq (.ops [op 4 (.move (ic 0)),op 5 (.move (ic 0))] (some [0, 1])) (.seq (.block 0 (.seq (.ops [mv 8 0,op 9 (.isNil .ptr false (.t 8)),mv 7 9] (some [0, 1, 7])) (.cond (.t 7) (.seq (.ops [op 4 (.move (ic 0)),op 5 (.move (ic 2))] (some [4, 5])) .ret) (.seq (.ops [mv 11 1,mv 12 0,op 13 (cl 34 [(.t 12)]),ib 14 .leq 31 11 13,mv 10 14] (some [0, 1, 10])) (.cond (.t 10) (.seq (.ops [op 4 (.move (ic 0)),op 5 (.move (ic 1))] (some [4, 5])) .ret) (.seq (.ops [mv 16 0,nc 17 16,fa 18 2 17,ld 19 1 18,op 20 (.bin .geq 3 (.t 19) (ic 1073741824)),mv 15 20] (some [0, 1, 15])) (.cond (.t 15) (.seq (.ops [op 4 (.move (ic 0)),op 5 (.move (ic 17))] (some [4, 5])) .ret) .skip))))))) (.seq (.ops [mv 21 0,nc 22 21,fa 23 2 22,ld 24 1 23,op 25 (.bin .add 3 (.t 24) (ic 1)),nc 26 21,fa 27 2 26,st 1 27 25] (some [0, 1])) (.seq (.ops [mv 28 0,mv 29 0,nc 30 29,fa 31 3 30,ld 32 1 31,mv 33 1,op 34 (.buildSlice [(.int .u64 0)] 1 1 [(0, (.t 33))]),op 35 (.append 1 8 [(.int .u64 0)] (.t 32) (.t 34)),nc 36 28,fa 37 3 36,st 1 37 35] (some [0])) (.seq (.seq (.opsr [mv 38 0,nc 39 38,fa 40 3 39,ld 41 1 40,op 42 (.len (.t 41)),mv 43 0,nc 44 43,fa 45 0 44,ld 46 1 45,ib 47 .sub 3 42 46,mv 6 47] (some [0, 6])) (.seq (.ops [mv 48 6,op 49 (.bin .gtr 3 (.t 48) (ic 0))] (some [0, 6, 49])) (.cond (.t 49) (.ops [mv 50 0,mv 51 0,nc 52 51,fa 53 3 52,ld 54 1 53,mv 55 6,op 56 (cl 35 [(.t 54), (ic 0), (.t 55)]),nc 57 50,fa 58 3 57,st 1 58 56] (some [0])) .skip))) (.seq (.ops [mv 59 0,nc 60 59,fa 61 2 60,ld 62 1 61,mv 4 62,op 5 (.move (ic 0))] (some [4, 5])) .ret)))))), [.tmp 4, .tmp 5]⟩

theorem is15 : FnIs Try.prog 15 x15 := ⟨Try.f15, _, Try.func15, by kernel_rfl, rfl, by kernel_rfl, by decide, by kernel_rfl⟩

def x16 : XDecl := .code ⟨3,  (.seq (.ops [op 5 (.box (.t 2)),op 6 (.move (ic 0))] (some [0, 1, 5])) (.seq (.opsd [(0, 0, mv 10 0),(1, 0, mv 11 1),(3, 0, op 13 (.load true 5 (.t 5))),(2, 3, op 12 (cl 18 [(.t 10), (.t 11)])),(4, 15, op 14 (cl 36 [(.t 12), (.t 13)])),(5, 31, mv 9 14),(6, 63, ex 15 9 0),(7, 63, ex 16 9 1),(8, 127, mv 7 15),(9, 511, mv 8 16)] (some [0, 1, 7, 8])) (.seq (.seq (.ops [mv 17 8,op 18 (.bin .neq 28 (.t 17) (ic 0))] (some [0, 1, 7, 8, 18])) (.cond (.t 18) (.seq (.ops [mv 19 8,mv 6 19] (some [6])) .ret) .skip)) (.seq (.ops [mv 20 0,mv 21 1,mv 22 7,op 23 (cl 21 [(.t 20), (.t 21), (.t 22)])] (some [])) (.seq (.ops [op 6 (.move (ic 0))] (some [6])) .ret))))), [.tmp 6]⟩

theorem is16 : FnIs Try.prog 16 x16 := ⟨Try.f16, _, Try.func16, by kernel_rfl, rfl, by kernel_rfl, by decide, by kernel_rfl⟩

def x17 : XDecl := .code ⟨1,  (.seq (.ops [op 2 (.move (.c (.slice none 0 0)))] (some [0])) (.seq (.seq (.ops [mv 3 0,op 4 (.isNil .ptr false (.t 3))] (some [0, 4])) (.cond (.t 4) (.seq (.ops [op 2 (.move (.c (.slice none 0 0)))] (some [2])) .ret) .skip)) (.seq (.opsd [(0, 0, mv 5 0),(1, 1, nc 6 5),(2, 3, fa 7 5 6),(3, 7, ld 8 1 7),(4, 0, mv 9 0),(5, 16, nc 10 9),(6, 48, fa 11 5 10),(7, 112, ld 12 1 11),(8, 240, op 13 (cl 38 [(.t 12)])),(9, 511, op 14 (cl 37 [(.t 8), (.c (.string .empty)), (.t 13)])),(10, 1023, mv 2 14)] (some [2])) .ret))), [.tmp 2]⟩

theorem is17 : FnIs Try.prog 17 x17 := ⟨Try.f17, _, Try.func17, by kernel_rfl, rfl, by kernel_rfl, by decide, by kernel_rfl⟩

def x18 : XDecl := .code ⟨2,  (.seq (.ops [op 4 (.move (.c (.slice none 0 0)))] (some [0, 1])) (.seq (.seq (.ops [mv 7 0,op 8 (.isNil .ptr false (.t 7))] (some [0, 1, 8])) (.cond (.t 8) (.seq (.ops [op 4 (.move (.c (.slice none 0 0)))] (some [4])) .ret) .skip)) (.seq (.ops [mv 10 0,nc 11 10,fa 12 5 11,ld 13 1 12,mv 14 1,op 15 (cl 39 [(.t 13), (.t 14)]),mv 9 15,ex 16 9 0,ex 17 9 1,mv 5 16,mv 6 17] (some [0, 5, 6])) (.seq (.seq (.ops [mv 18 6,op 19 (.un .not (.t 18))] (some [0, 5, 19])) (.cond (.t 19) (.seq (.ops [op 4 (.move (.c (.slice none 0 0)))] (some [4])) .ret) .skip)) (.seq (.ops [mv 20 0,nc 21 20,fa 22 6 21,ld 23 1 22,mv 24 5,op 25 (.indexAddr 1 (.t 23) (.t 24)),ld 26 1 25,mv 4 26] (some [4])) .ret))))), [.tmp 4]⟩

theorem is18 : FnIs Try.prog 18 x18 := ⟨Try.f18, _, Try.func18, by kernel_rfl, rfl, by kernel_rfl, by decide, by kernel_rfl⟩

def x19 : XDecl := .code ⟨2,  (.seq (.ops [op 4 (.move (ic 0))] (some [0, 1])) (.seq (.seq (.ops [mv 6 0,op 7 (cl 40 [(.t 6)]),op 8 (.un .not (.t 7)),mv 9 8,on 10 9 (.move (.t 1)),on 11 9 (.bin .lss 3 (.t 10) (ic 1)),op 12 (.pick (.t 9) (.c (.bool true)) (.t 11))] (some [0, 1, 12])) (.cond (.t 12) (.seq (.ops [op 4 (.move (ic 0))] (some [4])) .ret) .skip)) (.seq (.ops [mv 13 0,mv 14 1,op 15 (cl 41 [(.t 13), (.t 14)]),mv 5 15] (some [0, 5])) (.seq (.seq (.ops [mv 16 5,op 17 (.bin .gtr 3 (.t 16) (ic 0)),mv 18 17,og 19 18 (.move (.t 0)),og 20 18 (.move (.t 5)),og 21 18 (.bin .sub 3 (.t 20) (ic 1)),og 22 18 (.indexAddr 5 (.t 19) (.t 21)),og 23 18 (.fieldAddr 1 (.t 22)),og 24 18 (.load false 1 (.t 23)),og 25 18 (.un .not (.t 24)),op 26 (.pick (.t 18) (.t 25) (.c (.bool false)))] (some [5, 26])) (.cond (.t 26) (.ops [mv 27 5,op 28 (.bin .sub 3 (.t 27) (ic 1)),mv 5 28] (some [5])) .skip)) (.seq (.ops [mv 29 5,mv 4 29] (some [4])) .ret))))), [.tmp 4]⟩

theorem is19 : FnIs Try.prog 19 x19 := ⟨Try.f19, _, Try.func19, by kernel_rfl, rfl, by kernel_rfl, by decide, by kernel_rfl⟩

def x20 : XDecl := .code ⟨1,  (.seq (.ops [op 2 (.move (ic 0))] (some [0])) (.seq (.seq (.ops [mv 3 0,op 4 (.isNil .ptr false (.t 3))] (some [0, 4])) (.cond (.t 4) (.seq (.ops [op 2 (.move (ic 0))] (some [2])) .ret) .skip)) (.seq (.ops [mv 5 0,nc 6 5,fa 7 4 6,ld 8 1 7,op 9 (cl 42 [(.t 8)]),mv 2 9] (some [2])) .ret))), [.tmp 2]⟩

theorem is20 : FnIs Try.prog 20 x20 := ⟨Try.f20, _, Try.func20, by kernel_rfl, rfl, by kernel_rfl, by decide, by kernel_rfl⟩

def x21 : XDecl := .code ⟨3,  (.seq (.ops [mv 11 0,mv 12 1,op 13 (cl 18 [(.t 11), (.t 12)]),mv 6 13] (some [0, 1, 2, 6])) (.seq (.ops [mv 14 0,nc 15 14,fa 16 10 15,ld 17 1 16,mv 18 2,op 19 (.len (.t 18)),mv 20 6,op 21 (.len (.t 20)),ib 22 .sub 3 19 21,ib 23 .add 3 17 22,nc 24 14,fa 25 10 24,st 1 25 23] (some [0, 1, 2, 6])) (.seq (.ops [mv 26 1,mv 27 6,op 28 (cl 32 [(.t 26), (.t 27)]),mv 29 1,mv 30 2,op 31 (cl 32 [(.t 29), (.t 30)]),mv 7 28,mv 8 31] (some [0, 1, 2, 7, 8])) (.seq (.ops [mv 32 0,nc 33 32,fa 34 8 33,ld 35 1 34,mv 36 8,mv 37 7,ib 38 .sub 3 36 37,ib 39 .add 3 35 38,nc 40 32,fa 41 8 40,st 1 41 39] (some [0, 1, 2, 7, 8])) (.seq (.ops [mv 42 0,nc 43 42,fa 44 9 43,ld 45 1 44,mv 46 8,op 47 (.calcB .min [3, 3] 3 [(.t 46), (ic 1)]),mv 48 7,op 49 (.calcB .min [3, 3] 3 [(.t 48), (ic 1)]),ib 50 .sub 3 47 49,ib 51 .add 3 45 50,nc 52 42,fa 53 9 52,st 1 53 51] (some [0, 1, 2])) (.seq (.ops [mv 55 0,nc 56 55,fa 57 5 56,ld 58 1 57,mv 59 1,op 60 (cl 39 [(.t 58), (.t 59)]),mv 54 60,ex 61 54 0,ex 62 54 1,mv 9 61,mv 10 62] (some [0, 1, 2, 9, 10])) (.block 0 (.seq (.ops [mv 64 10,mv 65 64,og 66 65 (.move (.t 2)),og 67 65 (.len (.t 66)),og 68 65 (.bin .eql 3 (.t 67) (ic 0)),op 69 (.pick (.t 65) (.t 68) (.c (.bool false))),mv 63 69] (some [0, 1, 2, 9, 10, 63])) (.cond (.t 63) (.seq (.ops [mv 70 0,nc 71 70,fa 72 5 71,ld 73 1 72,mv 74 1,op 75 (cl 43 [(.t 73), (.t 74)])] (some [0, 9])) (.seq (.ops [mv 76 0,nc 77 76,fa 78 6 77,ld 79 1 78,mv 80 9,op 81 (.indexAddr 1 (.t 79) (.t 80)),sd (.store 1 (.t 81) (.c (.slice none 0 0)))] (some [0, 9])) (.ops [mv 82 0,mv 83 0,nc 84 83,fa 85 7 84,ld 86 1 85,mv 87 9,op 88 (.buildSlice [(.int .i64 0)] 1 1 [(0, (.t 87))]),op 89 (.append 1 8 [(.int .i64 0)] (.t 86) (.t 88)),nc 90 82,fa 91 7 90,st 1 91 89] (some [])))) (.seq (.ops [mv 93 10,mv 92 93] (some [0, 1, 2, 9, 92])) (.cond (.t 92) (.ops [mv 94 0,nc 95 94,fa 96 6 95,ld 97 1 96,mv 98 9,mv 99 2,op 100 (.indexAddr 1 (.t 97) (.t 98)),st 1 100 99] (some [])) (.seq (.ops [mv 102 2,op 103 (.len (.t 102)),op 104 (.bin .gtr 3 (.t 103) (ic 0)),mv 105 104,og 106 105 (.move (.t 0)),og 107 105 (.nilCheck (.t 106)),og 108 105 (.fieldAddr 7 (.t 107)),og 109 105 (.load false 1 (.t 108)),og 110 105 (.len (.t 109)),og 111 105 (.bin .gtr 3 (.t 110) (ic 0)),op 112 (.pick (.t 105) (.t 111) (.c (.bool false))),mv 101 112] (some [0, 1, 2, 101])) (.cond (.t 101) (.seq (.opsr [mv 113 0,nc 114 113,fa 115 7 114,ld 116 1 115,mv 117 0,nc 118 117,fa 119 7 118,ld 120 1 119,op 121 (.len (.t 120)),op 122 (.bin .sub 3 (.t 121) (ic 1)),op 123 (.indexAddr 1 (.t 116) (.t 122)),ld 124 1 123,mv 9 124] (some [0, 1, 2, 9])) (.seq (.opsd [(0, 0, mv 125 0),(1, 0, mv 126 0),(2, 2, nc 127 126),(3, 6, fa 128 7 127),(4, 14, ld 129 1 128),(5, 0, mv 130 0),(6, 32, nc 131 130),(7, 96, fa 132 7 131),(8, 224, ld 133 1 132),(9, 480, op 134 (.len (.t 133))),(10, 992, op 135 (.bin .sub 3 (.t 134) (ic 1))),(11, 2046, op 136 (.slice 1 (.t 129) none (some (.t 135)) none)),(12, 4095, nc 137 125),(13, 8191, fa 138 7 137),(14, 16383, st 1 138 136)] (some [0, 1, 2, 9])) (.seq (.ops [mv 139 0,nc 140 139,fa 141 6 140,ld 142 1 141,mv 143 9,mv 144 2,op 145 (.indexAddr 1 (.t 142) (.t 143)),st 1 145 144] (some [0, 1, 9])) (.ops [mv 146 0,nc 147 146,fa 148 5 147,ld 149 1 148,mv 150 1,mv 151 9,op 152 (cl 44 [(.t 149), (.t 150), (.t 151)])] (some []))))) (.seq (.ops [mv 154 2,op 155 (.len (.t 154)),op 156 (.bin .gtr 3 (.t 155) (ic 0)),mv 153 156] (some [0, 1, 2, 153])) (.cond (.t 153) (.seq (.opsd [(0, 0, mv 157 0),(1, 1, nc 158 157),(2, 3, fa 159 5 158),(3, 7, ld 160 1 159),(4, 0, mv 161 1),(5, 0, mv 162 0),(6, 32, nc 163 162),(7, 96, fa 164 6 163),(8, 224, ld 165 1 164),(9, 480, op 166 (.len (.t 165))),(10, 1023, op 167 (cl 44 [(.t 160), (.t 161), (.t 166)]))] (some [0, 2])) (.ops [mv 168 0,mv 169 0,nc 170 169,fa 171 6 170,ld 172 1 171,mv 173 2,op 174 (.buildSlice [(.slice none 0 0)] 1 1 [(0, (.t 173))]),op 175 (.append 1 24 [(.slice none 0 0)] (.t 172) (.t 174)),nc 176 168,fa 177 6 176,st 1 177 175] (some []))) .skip))))))))))))))), []⟩

theorem is21 : FnIs Try.prog 21 x21 := ⟨Try.f21, _, Try.func21, by kernel_rfl, rfl, by kernel_rfl, by decide, by kernel_rfl⟩

def x22 : XDecl := .code ⟨2,  (.seq (.ops [op 4 (.move (.c (.slice none 0 0)))] (some [0, 1])) (.seq (.seq (.ops [mv 5 0,op 6 (cl 40 [(.t 5)]),op 7 (.un .not (.t 6))] (some [0, 1, 7])) (.cond (.t 7) (.seq (.ops [op 4 (.move (.c (.slice none 0 0)))] (some [4])) .ret) .skip)) (.seq (.ops [mv 8 0,mv 9 0,mv 10 1,op 11 (cl 19 [(.t 9), (.t 10)]),op 12 (.slice 5 (.t 8) (some (.t 11)) none none),op 13 (cl 45 [(.t 12)]),mv 4 13] (some [4])) .ret))), [.tmp 4]⟩

theorem is22 : FnIs Try.prog 22 x22 := ⟨Try.f22, _, Try.func22, by kernel_rfl, rfl, by kernel_rfl, by decide, by kernel_rfl⟩

def x23 : XDecl := .code ⟨3,  (.seq (.ops [op 6 (.move (.c (.bool false)))] (some [0, 1, 2])) (.seq (.ops [mv 7 0,mv 8 1,ib 9 .geq 3 7 8,mv 10 9,og 11 10 (.move (.t 0)),og 12 10 (.move (.t 2)),og 13 10 (.bin .leq 3 (.t 11) (.t 12)),op 14 (.pick (.t 10) (.t 13) (.c (.bool false))),mv 6 14] (some [6])) .ret)), [.tmp 6]⟩

theorem is23 : FnIs Try.prog 23 x23 := ⟨Try.f23, _, Try.func23, by kernel_rfl, rfl, by kernel_rfl, by decide, by kernel_rfl⟩

def x24 : XDecl := .code ⟨1,  (.seq (.ops [op 2 (.move (ic 0))] (some [0])) (.seq (.seq (.ops [mv 3 0,op 4 (.isNil .ptr false (.t 3))] (some [0, 4])) (.cond (.t 4) (.seq (.ops [op 2 (.move (ic 0))] (some [2])) .ret) .skip)) (.seq (.ops [mv 5 0,nc 6 5,fa 7 4 6,ld 8 1 7,op 9 (cl 46 [(.t 8)]),mv 2 9] (some [2])) .ret))), [.tmp 2]⟩

theorem is24 : FnIs Try.prog 24 x24 := ⟨Try.f24, _, Try.func24, by kernel_rfl, rfl, by kernel_rfl, by decide, by kernel_rfl⟩

def x25 : XDecl := .code ⟨1,  (.seq (.ops [op 2 (.alloc [(.int .i64 0), (.bool false), (.bool false), (.string .empty), (.int .u64 0)]),op 3 (.move (.c (.bool false)))] (some [0, 2])) (.seq (.seq (.ops [mv 4 0,op 5 (cl 40 [(.t 4)]),op 6 (.un .not (.t 5)),mv 7 6,on 8 7 (.move (.t 0)),on 9 7 (.len (.t 8)),on 10 7 (.bin .eql 3 (.t 9) (ic 0)),op 11 (.pick (.t 7) (.c (.bool true)) (.t 10))] (some [0, 2, 11])) (.cond (.t 11) (.seq (.ops [op 12 (.build [(.int .i64 0), (.bool false), (.bool false), (.string .empty), (.int .u64 0)] [(0, 1), (1, 1), (2, 3)] []),st 5 2 12,op 3 (.move (.c (.bool false)))] (some [2, 3])) .ret) .skip)) (.seq (.ops [mv 13 0,mv 14 0,op 15 (.len (.t 14)),op 16 (.bin .sub 3 (.t 15) (ic 1)),op 17 (.indexAddr 5 (.t 13) (.t 16)),op 18 (.load true 5 (.t 17)),st 5 2 18,op 3 (.move (.c (.bool true)))] (some [2, 3])) .ret))), [.cell true 5 2, .tmp 3]⟩

theorem is25 : FnIs Try.prog 25 x25 := ⟨Try.f25, _, Try.func25, by kernel_rfl, rfl, by kernel_rfl, by decide, by kernel_rfl⟩

def x26 : XDecl := .code ⟨1,  (.seq (.ops [op 1 (.box (.t 0)),op 2 (.move (.c (.bool false)))] (some [1])) (.seq (.ops [fa 3 0 1,ld 4 1 3,op 5 (cl 47 [(.t 4)]),mv 6 5,og 7 6 (.fieldAddr 1 (.t 1)),og 8 6 (.load false 1 (.t 7)),og 9 6 (cl 23 [(.t 8), (ic 1), (ic 16)]),op 10 (.pick (.t 6) (.t 9) (.c (.bool false))),mv 11 10,og 12 11 (.fieldAddr 2 (.t 1)),og 13 11 (.load false 1 (.t 12)),og 14 11 (cl 23 [(.t 13), (ic 0), (ic 1048576)]),op 15 (.pick (.t 11) (.t 14) (.c (.bool false))),mv 16 15,og 17 16 (.fieldAddr 3 (.t 1)),og 18 16 (.load false 1 (.t 17)),og 19 16 (cl 23 [(.t 18), (ic 1), (ic 1073741824)]),op 20 (.pick (.t 16) (.t 19) (.c (.bool false))),mv 2 20] (some [2])) .ret)), [.tmp 2]⟩

theorem is26 : FnIs Try.prog 26 x26 := ⟨Try.f26, _, Try.func26, by kernel_rfl, rfl, by kernel_rfl, by decide, by kernel_rfl⟩

def x27 : XDecl := .code ⟨2,  (.seq (.ops [op 4 (.move (.c (.pointer none))),op 5 (.move (ic 0))] (some [0, 1])) (.seq (.seq (.ops [mv 6 0,op 7 (.bin .lss 3 (.t 6) (ic 1)),mv 8 7,on 9 8 (.move (.t 0)),on 10 8 (.bin .gtr 3 (.t 9) (ic 16)),op 11 (.pick (.t 8) (.c (.bool true)) (.t 10)),mv 12 11,on 13 12 (.move (.t 1)),on 14 12 (.bin .lss 3 (.t 13) (ic 0)),op 15 (.pick (.t 12) (.c (.bool true)) (.t 14)),mv 16 15,on 17 16 (.move (.t 1)),on 18 16 (.bin .gtr 3 (.t 17) (ic 1073741824)),op 19 (.pick (.t 16) (.c (.bool true)) (.t 18))] (some [0, 1, 19])) (.cond (.t 19) (.seq (.ops [op 4 (.move (.c (.pointer none))),op 5 (.move (ic 1))] (some [4, 5])) .ret) .skip)) (.seq (.ops [mv 20 0,mv 21 1,mv 22 1,op 23 (.build [(.int .i64 0), (.int .i64 0), (.int .i64 0), (.slice none 0 0)] [(0, 1), (1, 1), (2, 1), (3, 1)] [(0, (.t 20)), (1, (.t 21)), (2, (.t 22))]),op 24 (.box (.t 23)),mv 4 24,op 5 (.move (ic 0))] (some [4, 5])) .ret))), [.tmp 4, .tmp 5]⟩

theorem is27 : FnIs Try.prog 27 x27 := ⟨Try.f27, _, Try.func27, by kernel_rfl, rfl, by kernel_rfl, by decide, by kernel_rfl⟩

def x28 : XDecl := .code ⟨1,  (.seq (.ops [op 2 (.move (.c (.slice none 0 0)))] (some [0])) (.seq (.seq (.ops [mv 3 0,op 4 (.isNil .slice false (.t 3))] (some [0, 4])) (.cond (.t 4) (.seq (.ops [op 2 (.move (.c (.slice none 0 0)))] (some [2])) .ret) .skip)) (.seq (.ops [op 5 (.buildSlice [(.int .u64 0)] 1 0 []),mv 6 0,op 7 (.append 1 8 [(.int .u64 0)] (.t 5) (.t 6)),mv 2 7] (some [2])) .ret))), [.tmp 2]⟩

theorem is28 : FnIs Try.prog 28 x28 := ⟨Try.f28, _, Try.func28, by kernel_rfl, rfl, by kernel_rfl, by decide, by kernel_rfl⟩

def x29 : XDecl := .code ⟨0,  (.seq (.ops [op 0 (.move (.c (.pointer none)))] (some [])) (.seq (.ops [op 1 (.build [(.slice none 0 0), (.slice none 0 0), (.int .i64 0), (.int .i64 0)] [(0, 1), (1, 1), (2, 1), (3, 1)] [(2, (ic (-1)))]),op 2 (.box (.t 1)),mv 0 2] (some [0])) .ret)), [.tmp 0]⟩

theorem is29 : FnIs Try.prog 29 x29 := ⟨Try.f29, _, Try.func29, by kernel_rfl, rfl, by kernel_rfl, by decide, by kernel_rfl⟩

def x30 : XDecl := .code ⟨1,  (.seq (.ops [op 2 (.move (.c (.bool false)))] (some [0])) (.seq (.ops [mv 3 0,op 4 (.calcB .len [9] 3 [(.t 3)]),op 5 (cl 23 [(.t 4), (ic 1), (ic 32)]),mv 2 5] (some [2])) .ret)), [.tmp 2]⟩

theorem is30 : FnIs Try.prog 30 x30 := ⟨Try.f30, _, Try.func30, by kernel_rfl, rfl, by kernel_rfl, by decide, by kernel_rfl⟩

def x31 : XDecl := .code ⟨1,  (.seq (.ops [op 1 (.box (.t 0)),op 2 (.move (.c (.bool false)))] (some [1])) (.seq (.seq (.ops [fa 3 0 1,ld 4 1 3] (some [1, 4])) (.cond (.t 4) (.seq (.opsd [(0, 0, fa 5 1 1),(1, 1, ld 6 1 5),(2, 3, op 7 (.bin .eql 9 (.t 6) (.c (.string .empty)))),(3, 7, mv 8 7),(4, 15, og 9 8 (.fieldAddr 2 (.t 1))),(5, 31, og 10 8 (.load false 1 (.t 9))),(8, 15, og 13 8 (.fieldAddr 2 (.t 1))),(9, 271, og 14 8 (.load false 1 (.t 13))),(6, 63, og 11 8 (cl 49 [(.t 10)])),(7, 127, og 12 8 (cl 48 [(.t 11)])),(10, 1023, og 15 8 (.bin .eql 31 (.t 12) (.t 14))),(11, 2047, op 16 (.pick (.t 8) (.t 15) (.c (.bool false)))),(12, 4095, mv 2 16)] (some [2])) .ret) .skip)) (.seq (.ops [fa 17 2 1,ld 18 1 17,op 19 (.bin .eql 31 (.t 18) (.c (.int .u64 0))),mv 20 19,og 21 20 (.fieldAddr 1 (.t 1)),og 22 20 (.load false 1 (.t 21)),og 23 20 (.calcB .len [9] 3 [(.t 22)]),og 24 20 (.bin .leq 3 (.t 23) (ic 64)),op 25 (.pick (.t 20) (.t 24) (.c (.bool false))),mv 2 25] (some [2])) .ret))), [.tmp 2]⟩

theorem is31 : FnIs Try.prog 31 x31 := ⟨Try.f31, _, Try.func31, by kernel_rfl, rfl, by kernel_rfl, by decide, by kernel_rfl⟩

def x32 : XDecl := .code ⟨2,  (.seq (.ops [op 4 (.move (ic 0))] (some [0, 1])) (.seq (.ops [mv 6 1,op 7 (cl 50 [(.t 6)]),mv 5 7] (some [0, 5])) (.seq (.seq (.ops [mv 8 5,op 9 (.bin .eql 3 (.t 8) (ic 0))] (some [0, 5, 9])) (.cond (.t 9) (.seq (.ops [op 4 (.move (ic 0))] (some [4])) .ret) .skip)) (.seq (.ops [mv 10 0,op 11 (.calcB .len [9] 3 [(.t 10)]),mv 12 5,ib 13 .add 3 11 12,mv 4 13] (some [4])) .ret)))), [.tmp 4]⟩

theorem is32 : FnIs Try.prog 32 x32 := ⟨Try.f32, _, Try.func32, by kernel_rfl, rfl, by kernel_rfl, by decide, by kernel_rfl⟩

def x33 : XDecl := .code ⟨1,  (.seq (.ops [op 1 (.box (.t 0)),op 2 (.move (ic 0))] (some [1])) (.seq (.ops [op 6 (.load true 3 (.t 1)),op 7 (cl 51 [(.t 6)]),mv 5 7,ex 8 5 0,ex 9 5 1,mv 3 8,mv 4 9] (some [3])) (.seq (.ops [mv 10 3,op 11 (.calcB .len [9] 3 [(.t 10)]),mv 2 11] (some [2])) .ret))), [.tmp 2]⟩

theorem is33 : FnIs Try.prog 33 x33 := ⟨Try.f33, _, Try.func33, by kernel_rfl, rfl, by kernel_rfl, by decide, by kernel_rfl⟩

def x34 : XDecl := .code ⟨1,  (.seq (.ops [op 2 (.move (.c (.int .u64 0)))] (some [0])) (.seq (.seq (.ops [mv 3 0,nc 4 3,fa 5 3 4,ld 6 1 5,op 7 (.len (.t 6)),op 8 (.bin .eql 3 (.t 7) (ic 0))] (some [0, 8])) (.cond (.t 8) (.seq (.ops [op 2 (.move (.c (.int .u64 0)))] (some [2])) .ret) .skip)) (.seq (.opsr [mv 9 0,nc 10 9,fa 11 3 10,ld 12 1 11,mv 13 0,nc 14 13,fa 15 3 14,ld 16 1 15,op 17 (.len (.t 16)),op 18 (.bin .sub 3 (.t 17) (ic 1)),op 19 (.indexAddr 1 (.t 12) (.t 18)),ld 20 1 19,mv 2 20] (some [2])) .ret))), [.tmp 2]⟩

theorem is34 : FnIs Try.prog 34 x34 := ⟨Try.f34, _, Try.func34, by kernel_rfl, rfl, by kernel_rfl, by decide, by kernel_rfl⟩

def x35 : XDecl := .code ⟨3,  (.seq (.ops [op 6 (.move (.c (.slice none 0 0)))] (some [0, 1, 2])) (.seq (.ops [mv 8 0,mv 9 1,mv 10 2,mv 11 0,op 12 (.len (.t 11)),op 13 (.slice 1 (.t 8) (some (.t 9)) (some (.t 10)) (some (.t 12)))] (some [0, 1, 2])) (.seq (.seq (.ops [mv 14 1,mv 15 2,ib 16 .eql 3 14 15] (some [0, 1, 2, 16])) (.cond (.t 16) (.seq (.ops [mv 17 0,mv 6 17] (some [6])) .ret) .skip)) (.seq (.ops [mv 18 0,op 19 (.len (.t 18)),mv 7 19] (some [0, 1, 2, 7])) (.seq (.opsd [(0, 0, mv 20 0),(1, 0, mv 21 1),(2, 3, op 22 (.slice 1 (.t 20) none (some (.t 21)) none)),(3, 0, mv 23 0),(4, 0, mv 24 2),(5, 24, op 25 (.slice 1 (.t 23) (some (.t 24)) none none)),(6, 63, op 26 (.append 1 8 [(.int .u64 0)] (.t 22) (.t 25))),(7, 127, mv 0 26)] (some [0, 7])) (.seq (.ops [mv 27 0,mv 28 0,op 29 (.len (.t 28)),mv 30 7,op 31 (.slice 1 (.t 27) (some (.t 29)) (some (.t 30)) none),sd (.clear [(.int .u64 0)] (.t 31))] (some [0])) (.seq (.ops [mv 32 0,mv 6 32] (some [6])) .ret))))))), [.tmp 6]⟩

theorem is35 : FnIs Try.prog 35 x35 := ⟨Try.f35, _, Try.func35, by kernel_rfl, rfl, by kernel_rfl, by decide, by kernel_rfl⟩

def x36 : XDecl := .code ⟨2,  (.seq (.ops [op 3 (.box (.t 1)),op 4 (.move (.c (.slice none 0 0))),op 5 (.move (ic 0))] (some [0, 3])) (.seq (.opsd [(0, 0, mv 7 0),(2, 0, op 9 (.load true 5 (.t 3))),(3, 4, op 10 (.buildSlice [(.int .i64 0), (.bool false), (.bool false), (.string .empty), (.int .u64 0)] 5 1 [(0, (.t 9))])),(1, 1, op 8 (cl 45 [(.t 7)])),(4, 15, op 11 (.append 5 48 [(.int .i64 0), (.bool false), (.bool false), (.string .empty), (.int .u64 0)] (.t 8) (.t 10))),(5, 31, mv 6 11)] (some [6])) (.seq (.seq (.ops [mv 12 6,op 13 (cl 40 [(.t 12)]),op 14 (.un .not (.t 13))] (some [6, 14])) (.cond (.t 14) (.seq (.ops [op 4 (.move (.c (.slice none 0 0))),op 5 (.move (ic 1))] (some [4, 5])) .ret) .skip)) (.seq (.ops [mv 15 6,mv 4 15,op 5 (.move (ic 0))] (some [4, 5])) .ret)))), [.tmp 4, .tmp 5]⟩

theorem is36 : FnIs Try.prog 36 x36 := ⟨Try.f36, _, Try.func36, by kernel_rfl, rfl, by kernel_rfl, by decide, by kernel_rfl⟩

def x37 : XDecl := .code ⟨3,  (.seq (.ops [op 6 (.move (.c (.slice none 0 0)))] (some [0, 1, 2])) (.seq (.ops [op 7 (.move (.c (.slice none 0 0)))] (some [0, 1, 2, 7])) (.seq (.ops [mv 12 0,mv 13 1,op 14 (cl 52 [(.t 12), (.t 13)]),mv 11 14,ex 15 11 0,ex 16 11 1,ex 17 11 2,mv 8 15,mv 9 16,mv 10 17] (some [0, 2, 7, 8, 10])) (.seq (.block 0 (.loop (.seq (.seq (.ops [mv 18 10,mv 19 18,og 20 19 (.move (.t 7)),og 21 19 (.len (.t 20)),og 22 19 (.move (.t 2)),og 23 19 (.bin .lss 3 (.t 21) (.t 22)),op 24 (.pick (.t 19) (.t 23) (.c (.bool false)))] (some [0, 2, 7, 8, 24])) (.cond (.t 24) .skip (.exit 0))) (.block 1 (.seq (.ops [mv 25 7,mv 26 8,op 27 (.buildSlice [(.string .empty)] 1 1 [(0, (.t 26))]),op 28 (.append 1 16 [(.string .empty)] (.t 25) (.t 27)),mv 7 28] (some [0, 2, 7, 8])) (.ops [mv 30 0,mv 31 8,op 32 (cl 53 [(.t 30), (.t 31)]),mv 29 32,ex 33 29 0,ex 34 29 1,ex 35 29 2,mv 8 33,mv 10 35] (some [0, 2, 7, 8, 10]))))))) (.seq (.ops [mv 36 7,mv 6 36] (some [6])) .ret))))), [.tmp 6]⟩

theorem is37 : FnIs Try.prog 37 x37 := ⟨Try.f37, _, Try.func37, by kernel_rfl, rfl, by kernel_rfl, by decide, by kernel_rfl⟩

def x38 : XDecl := .code ⟨1,  (.seq (.ops [op 2 (.move (ic 0))] (some [0])) (.seq (.seq (.ops [mv 3 0,op 4 (.isNil .ptr false (.t 3))] (some [0, 4])) (.cond (.t 4) (.seq (.ops [op 2 (.move (ic 0))] (some [2])) .ret) .skip)) (.seq (.ops [mv 5 0,nc 6 5,fa 7 3 6,ld 8 1 7,mv 2 8] (some [2])) .ret))), [.tmp 2]⟩

theorem is38 : FnIs Try.prog 38 x38 := ⟨Try.f38, _, Try.func38, by kernel_rfl, rfl, by kernel_rfl, by decide, by kernel_rfl⟩

def x39 : XDecl := .code ⟨2,  (.seq (.ops [op 4 (.move (ic 0)),op 5 (.move (.c (.bool false)))] (some [0, 1])) (.seq (.ops [mv 10 0,mv 11 1,op 12 (cl 54 [(.t 10), (.t 11)]),mv 9 12,ex 13 9 0,ex 14 9 1,ex 15 9 2,mv 6 13,mv 7 14,mv 8 15] (some [6, 7, 8])) (.seq (.seq (.ops [mv 16 8,op 17 (.un .not (.t 16))] (some [6, 7, 17])) (.cond (.t 17) (.seq (.ops [op 4 (.move (ic 0)),op 5 (.move (.c (.bool false)))] (some [4, 5])) .ret) .skip)) (.seq (.ops [mv 18 6,nc 19 18,fa 20 1 19,ld 21 1 20,mv 22 7,op 23 (.indexAddr 1 (.t 21) (.t 22)),ld 24 1 23,mv 4 24,op 5 (.move (.c (.bool true)))] (some [4, 5])) .ret)))), [.tmp 4, .tmp 5]⟩

theorem is39 : FnIs Try.prog 39 x39 := ⟨Try.f39, _, Try.func39, by kernel_rfl, rfl, by kernel_rfl, by decide, by kernel_rfl⟩

def x40 : XDecl := .code ⟨1,  (.seq (.ops [op 2 (.move (.c (.bool false)))] (some [0])) (.seq (.seq (.ops [mv 5 0,op 6 (.len (.t 5)),op 7 (.move (ic 0))] (some [0, 5, 6, 7])) (.block 0 (.loop (.seq (.ops [ib 8 .lss 3 7 6] (some [0, 5, 6, 7, 8])) (.seq (.cond (.t 8) .skip (.exit 0)) (.seq (.block 1 (.seq (.ops [mv 9 7,op 10 (.indexAddr 5 (.t 5) (.t 7)),op 11 (.load true 5 (.t 10)),op 4 (.alloc [(.int .i64 0), (.bool false), (.bool false), (.string .empty), (.int .u64 0)]),mv 3 9,st 5 4 11] (some [0, 3, 4, 5, 6, 7])) (.seq (.opsd [(0, 0, op 12 (.load true 5 (.t 4))),(1, 1, op 13 (cl 55 [(.t 12)])),(2, 3, op 14 (.un .not (.t 13))),(3, 7, mv 15 14),(4, 15, on 16 15 (.move (.t 3))),(5, 31, on 17 15 (.bin .gtr 3 (.t 16) (ic 0))),(6, 63, on 18 15 (.move (.t 17))),(7, 127, og 19 18 (.move (.t 0))),(8, 127, og 20 18 (.move (.t 3))),(9, 383, og 21 18 (.bin .sub 3 (.t 20) (ic 1))),(10, 1023, og 22 18 (.indexAddr 5 (.t 19) (.t 21))),(11, 2047, og 23 18 (.fieldAddr 0 (.t 22))),(12, 4095, og 24 18 (.load false 1 (.t 23))),(13, 127, og 25 18 (.fieldAddr 0 (.t 4))),(14, 8319, og 26 18 (.load false 1 (.t 25))),(15, 32767, og 27 18 (.bin .geq 3 (.t 24) (.t 26))),(16, 65535, on 28 15 (.pick (.t 18) (.t 27) (.c (.bool false)))),(17, 131071, op 29 (.pick (.t 15) (.c (.bool true)) (.t 28)))] (some [0, 5, 6, 7, 29])) (.cond (.t 29) (.seq (.ops [op 2 (.move (.c (.bool false)))] (some [2])) .ret) .skip)))) (.ops [op 30 (.bin .add 3 (.t 7) (ic 1)),mv 7 30] (some [0, 5, 6, 7])))))))) (.seq (.ops [op 2 (.move (.c (.bool true)))] (some [2])) .ret))), [.tmp 2]⟩

theorem is40 : FnIs Try.prog 40 x40 := ⟨Try.f40, _, Try.func40, by kernel_rfl, rfl, by kernel_rfl, by decide, by kernel_rfl⟩

def x41 : XDecl := .code ⟨2,  (.seq (.ops [op 4 (.move (ic 0))] (some [0, 1])) (.seq (.ops [mv 8 0,mv 9 1,op 10 (cl 56 [(.t 8), (.t 9), (.c (.func (.func 57) #[] #[]))]),mv 7 10,ex 11 7 0,ex 12 7 1,mv 5 11,mv 6 12] (some [5, 6])) (.seq (.seq (.ops [mv 13 6] (some [5, 13])) (.cond (.t 13) (.ops [mv 14 5,op 15 (.bin .add 3 (.t 14) (ic 1)),mv 5 15] (some [5])) .skip)) (.seq (.ops [mv 16 5,mv 4 16] (some [4])) .ret)))), [.tmp 4]⟩

theorem is41 : FnIs Try.prog 41 x41 := ⟨Try.f41, _, Try.func41, by kernel_rfl, rfl, by kernel_rfl, by decide, by kernel_rfl⟩

def x42 : XDecl := .code ⟨1,  (.seq (.ops [op 2 (.move (ic 0))] (some [0])) (.seq (.seq (.ops [mv 3 0,op 4 (.isNil .ptr false (.t 3))] (some [0, 4])) (.cond (.t 4) (.seq (.ops [op 2 (.move (ic 0))] (some [2])) .ret) .skip)) (.seq (.opsr [mv 5 0,nc 6 5,fa 7 2 6,ld 8 1 7,mv 9 0,nc 10 9,fa 11 0 10,ld 12 1 11,ib 13 .sub 3 8 12,op 14 (.bin .add 3 (.t 13) (ic 1)),mv 15 0,nc 16 15,fa 17 1 16,ld 18 1 17,op 19 (.calcB .max [3, 3] 3 [(.t 14), (.t 18)]),mv 2 19] (some [2])) .ret))), [.tmp 2]⟩

theorem is42 : FnIs Try.prog 42 x42 := ⟨Try.f42, _, Try.func42, by kernel_rfl, rfl, by kernel_rfl, by decide, by kernel_rfl⟩

def x43 : XDecl := .code ⟨2,  (.seq (.ops [op 4 (.move (ic 0)),op 5 (.move (.c (.bool false)))] (some [0, 1])) (.seq (.ops [mv 10 0,mv 11 1,op 12 (cl 39 [(.t 10), (.t 11)]),mv 9 12,ex 13 9 0,ex 14 9 1,mv 6 13,mv 7 14] (some [0, 1, 6, 7])) (.seq (.seq (.ops [mv 15 7,op 16 (.un .not (.t 15))] (some [0, 1, 6, 16])) (.cond (.t 16) (.seq (.ops [op 4 (.move (ic 0)),op 5 (.move (.c (.bool false)))] (some [4, 5])) .ret) .skip)) (.seq (.ops [mv 17 0,nc 18 17,fa 19 3 18,ld 20 1 19,op 21 (.bin .sub 3 (.t 20) (ic 1)),nc 22 17,fa 23 3 22,st 1 23 21] (some [0, 1, 6])) (.seq (.ops [mv 24 0,mv 25 0,nc 26 25,fa 27 2 26,ld 28 1 27,mv 29 1,op 30 (cl 58 [(.t 24), (.t 28), (.t 29)])] (some [0, 6])) (.seq (.seq (.opsd [(0, 0, mv 31 0),(1, 1, nc 32 31),(2, 3, fa 33 0 32),(3, 7, ld 34 1 33),(4, 0, mv 35 0),(5, 16, nc 36 35),(6, 48, fa 37 2 36),(7, 112, ld 38 1 37),(8, 255, op 39 (.indexAddr 3 (.t 34) (.t 38))),(9, 511, op 40 (.load true 3 (.t 39))),(10, 0, op 8 (.alloc [(.slice none 0 0), (.slice none 0 0), (.slice none 0 0)])),(11, 2047, st 3 8 40)] (some [0, 6, 8])) (.block 0 (.seq (.ops [fa 42 2 8,ld 43 1 42,op 44 (.len (.t 43)),op 45 (.bin .eql 3 (.t 44) (ic 1)),mv 41 45] (some [0, 6, 8, 41])) (.cond (.t 41) (.seq (.ops [mv 46 0,mv 47 0,nc 48 47,fa 49 2 48,ld 50 1 49,op 51 (cl 59 [(.t 46), (.t 50)])] (some [0, 6, 8])) (.ops [mv 52 0,fa 53 2 8,ld 54 1 53,op 55 (.indexAddr 1 (.t 54) (ic 0)),ld 56 1 55,nc 57 52,fa 58 2 57,st 1 58 56] (some [6]))) (.seq (.ops [op 60 (cl 60 [(.t 8)]),mv 61 60,og 62 61 (.fieldAddr 0 (.t 8)),og 63 61 (.load false 1 (.t 62)),og 64 61 (.len (.t 63)),og 65 61 (.bin .eql 3 (.t 64) (ic 0)),op 66 (.pick (.t 61) (.t 65) (.c (.bool false))),mv 59 66] (some [0, 6, 59])) (.cond (.t 59) (.seq (.ops [mv 67 0,mv 68 0,nc 69 68,fa 70 2 69,ld 71 1 70,op 72 (cl 59 [(.t 67), (.t 71)])] (some [0, 6])) (.ops [mv 73 0,nc 74 73,fa 75 2 74,sd (.store 1 (.t 75) (ic (-1)))] (some [6]))) .skip)))))) (.seq (.ops [mv 76 6,mv 4 76,op 5 (.move (.c (.bool true)))] (some [4, 5])) .ret))))))), [.tmp 4, .tmp 5]⟩

theorem is43 : FnIs Try.prog 43 x43 := ⟨Try.f43, _, Try.func43, by kernel_rfl, rfl, by kernel_rfl, by decide, by kernel_rfl⟩

def x44 : XDecl := .code ⟨3,  (.seq (.ops [op 6 (.move (ic 0)),op 7 (.move (.c (.bool false))),op 8 (.move (ic 0))] (some [0, 1, 2])) (.seq (.seq (.ops [mv 16 0,op 17 (.isNil .ptr false (.t 16))] (some [0, 1, 2, 17])) (.cond (.t 17) (.seq (.ops [op 6 (.move (ic 0)),op 7 (.move (.c (.bool false))),op 8 (.move (ic 2))] (some [6, 7, 8])) .ret) .skip)) (.seq (.seq (.ops [mv 19 0,mv 20 1,op 21 (cl 54 [(.t 19), (.t 20)]),mv 18 21,ex 22 18 0,ex 23 18 1,ex 24 18 2,mv 9 22,mv 10 23,mv 11 24] (some [0, 1, 2, 9, 10, 11])) (.seq (.ops [mv 25 11] (some [0, 1, 2, 9, 10, 25])) (.cond (.t 25) (.seq (.ops [mv 26 9,nc 27 26,fa 28 1 27,ld 29 1 28,mv 30 10,op 31 (.indexAddr 1 (.t 29) (.t 30)),ld 32 1 31,mv 12 32] (some [2, 9, 10, 12])) (.seq (.ops [mv 33 9,nc 34 33,fa 35 1 34,ld 36 1 35,mv 37 10,mv 38 2,op 39 (.indexAddr 1 (.t 36) (.t 37)),st 1 39 38] (some [12])) (.seq (.ops [mv 40 12,mv 6 40,op 7 (.move (.c (.bool true))),op 8 (.move (ic 0))] (some [6, 7, 8])) .ret))) .skip))) (.seq (.seq (.ops [mv 41 0,nc 42 41,fa 43 3 42,ld 44 1 43,op 45 (.bin .geq 3 (.t 44) (ic 100000))] (some [0, 1, 2, 45])) (.cond (.t 45) (.seq (.ops [op 6 (.move (ic 0)),op 7 (.move (.c (.bool false))),op 8 (.move (ic 5))] (some [6, 7, 8])) .ret) .skip)) (.seq (.ops [mv 46 0,nc 47 46,fa 48 3 47,ld 49 1 48,op 50 (.bin .add 3 (.t 49) (ic 1)),nc 51 46,fa 52 3 51,st 1 52 50] (some [0, 1, 2])) (.seq (.seq (.ops [mv 53 0,nc 54 53,fa 55 2 54,ld 56 1 55,op 57 (.bin .lss 3 (.t 56) (ic 0))] (some [0, 1, 2, 57])) (.cond (.t 57) (.seq (.ops [mv 58 0,mv 59 0,mv 60 1,op 61 (.buildSlice [(.string .empty)] 1 1 [(0, (.t 60))]),mv 62 2,op 63 (.buildSlice [(.int .i64 0)] 1 1 [(0, (.t 62))]),op 64 (.build [(.slice none 0 0), (.slice none 0 0), (.slice none 0 0)] [(0, 1), (1, 1), (2, 1)] [(0, (.t 61)), (1, (.t 63))]),op 65 (cl 61 [(.t 59), (.t 64)]),nc 66 58,fa 67 2 66,st 1 67 65] (some [])) (.seq (.ops [op 6 (.move (ic 0)),op 7 (.move (.c (.bool false))),op 8 (.move (ic 0))] (some [6, 7, 8])) .ret)) .skip)) (.seq (.ops [mv 68 0,mv 69 0,nc 70 69,fa 71 2 70,ld 72 1 71,mv 73 1,mv 74 2,op 75 (cl 62 [(.t 68), (.t 72), (.t 73), (.t 74)])] (some [0])) (.seq (.seq (.opsd [(0, 0, mv 76 0),(1, 1, nc 77 76),(2, 3, fa 78 0 77),(3, 7, ld 79 1 78),(4, 0, mv 80 0),(5, 16, nc 81 80),(6, 48, fa 82 2 81),(7, 112, ld 83 1 82),(8, 255, op 84 (.indexAddr 3 (.t 79) (.t 83))),(9, 511, op 85 (cl 63 [(.t 84)])),(10, 1023, op 86 (.bin .gtr 3 (.t 85) (ic 4)))] (some [0, 86])) (.cond (.t 86) (.seq (.ops [mv 87 0,nc 88 87,fa 89 2 88,ld 90 1 89,mv 13 90] (some [0, 13])) (.seq (.ops [mv 92 0,mv 93 13,op 94 (cl 64 [(.t 92), (.t 93)]),mv 91 94,ex 95 91 0,ex 96 91 1,mv 14 95,mv 15 96] (some [0, 13, 14, 15])) (.ops [mv 97 0,mv 98 0,mv 99 15,op 100 (.buildSlice [(.string .empty)] 1 1 [(0, (.t 99))]),mv 101 13,mv 102 14,op 103 (.buildSlice [(.int .i64 0)] 1 2 [(0, (.t 101)), (1, (.t 102))]),op 104 (.build [(.slice none 0 0), (.slice none 0 0), (.slice none 0 0)] [(0, 1), (1, 1), (2, 1)] [(0, (.t 100)), (2, (.t 103))]),op 105 (cl 61 [(.t 98), (.t 104)]),nc 106 97,fa 107 2 106,st 1 107 105] (some [])))) .skip)) (.seq (.ops [op 6 (.move (ic 0)),op 7 (.move (.c (.bool false))),op 8 (.move (ic 0))] (some [6, 7, 8])) .ret))))))))), [.tmp 6, .tmp 7, .tmp 8]⟩

theorem is44 : FnIs Try.prog 44 x44 := ⟨Try.f44, _, Try.func44, by kernel_rfl, rfl, by kernel_rfl, by decide, by kernel_rfl⟩

def x45 : XDecl := .code ⟨1,  (.seq (.ops [op 2 (.move (.c (.slice none 0 0)))] (some [0])) (.seq (.seq (.ops [mv 3 0,op 4 (.isNil .slice false (.t 3))] (some [0, 4])) (.cond (.t 4) (.seq (.ops [op 2 (.move (.c (.slice none 0 0)))] (some [2])) .ret) .skip)) (.seq (.ops [op 5 (.buildSlice [(.int .i64 0), (.bool false), (.bool false), (.string .empty), (.int .u64 0)] 5 0 []),mv 6 0,op 7 (.append 5 48 [(.int .i64 0), (.bool false), (.bool false), (.string .empty), (.int .u64 0)] (.t 5) (.t 6)),mv 2 7] (some [2])) .ret))), [.tmp 2]⟩

theorem is45 : FnIs Try.prog 45 x45 := ⟨Try.f45, _, Try.func45, by kernel_rfl, rfl, by kernel_rfl, by decide, by kernel_rfl⟩

def x46 : XDecl := .code ⟨1,  (.seq (.ops [op 2 (.move (ic 0))] (some [0])) (.seq (.seq (.ops [mv 3 0,op 4 (.isNil .ptr false (.t 3))] (some [0, 4])) (.cond (.t 4) (.seq (.ops [op 2 (.move (ic 0))] (some [2])) .ret) .skip)) (.seq (.ops [mv 5 0,nc 6 5,fa 7 2 6,ld 8 1 7,mv 2 8] (some [2])) .ret))), [.tmp 2]⟩

theorem is46 : FnIs Try.prog 46 x46 := ⟨Try.f46, _, Try.func46, by kernel_rfl, rfl, by kernel_rfl, by decide, by kernel_rfl⟩

def x47 : XDecl := .code ⟨1,  (.seq (.ops [op 2 (.move (.c (.bool false)))] (some [0])) (.seq (.seq (.ops [mv 6 0,op 7 (.len (.t 6)),op 8 (.bin .gtr 3 (.t 7) (ic 6))] (some [0, 8])) (.cond (.t 8) (.seq (.ops [op 2 (.move (.c (.bool false)))] (some [2])) .ret) .skip)) (.seq (.ops [op 3 (.move (.c (.int .u64 0)))] (some [0, 3])) (.seq (.seq (.ops [mv 9 0,op 10 (.len (.t 9)),op 11 (.move (ic 0))] (some [3, 9, 10, 11])) (.block 0 (.loop (.seq (.ops [ib 12 .lss 3 11 10] (some [3, 9, 10, 11, 12])) (.seq (.cond (.t 12) .skip (.exit 0)) (.seq (.block 1 (.seq (.ops [op 13 (.indexAddr 1 (.t 9) (.t 11)),ld 14 1 13,mv 5 14] (some [3, 5, 9, 10, 11])) (.seq (.seq (.ops [mv 15 5,mv 16 3,ib 17 .leq 31 15 16] (some [5, 9, 10, 11, 17])) (.cond (.t 17) (.seq (.ops [op 2 (.move (.c (.bool false)))] (some [2])) .ret) .skip)) (.ops [mv 18 5,mv 3 18] (some [3, 9, 10, 11]))))) (.ops [op 19 (.bin .add 3 (.t 11) (ic 1)),mv 11 19] (some [3, 9, 10, 11])))))))) (.seq (.ops [op 2 (.move (.c (.bool true)))] (some [2])) .ret))))), [.tmp 2]⟩

theorem is47 : FnIs Try.prog 47 x47 := ⟨Try.f47, _, Try.func47, by kernel_rfl, rfl, by kernel_rfl, by decide, by kernel_rfl⟩

def x48 : XDecl := .code ⟨1,  (.seq (.ops [op 2 (.move (.c (.int .u64 0)))] (some [0])) (.seq (.seq (.ops [mv 3 0,op 4 (cl 65 [(.t 3)])] (some [0, 4])) (.cond (.t 4) (.seq (.ops [op 2 (.move (.c (.int .u64 9221120237041090561)))] (some [2])) .ret) .skip)) (.seq (.ops [mv 5 0,op 6 (cl 66 [(.t 5)]),mv 2 6] (some [2])) .ret))), [.tmp 2]⟩

theorem is48 : FnIs Try.prog 48 x48 := ⟨Try.f48, _, Try.func48, by kernel_rfl, rfl, by kernel_rfl, by decide, by kernel_rfl⟩

def x49 : XDecl := .code ⟨1,  (.seq (.ops [op 2 (.move (.c (.float .f64 0)))] (some [0])) (.seq (.ops [mv 3 0,op 4 (cl 67 [(.t 3)]),op 5 (cl 48 [(.t 4)]),op 6 (cl 67 [(.t 5)]),mv 2 6] (some [2])) .ret)), [.tmp 2]⟩

theorem is49 : FnIs Try.prog 49 x49 := ⟨Try.f49, _, Try.func49, by kernel_rfl, rfl, by kernel_rfl, by decide, by kernel_rfl⟩

def x50 : XDecl := .code ⟨1,  (.seq (.ops [op 2 (.move (ic 0))] (some [0])) (.seq (.ops [mv 6 0,op 7 (cl 25 [(.t 6)]),mv 5 7,ex 8 5 0,ex 9 5 1,op 3 (.alloc [(.int .i64 0), (.bool false), (.bool false), (.string .empty), (.int .u64 0)]),st 5 3 8,mv 4 9] (some [3, 4])) (.seq (.seq (.ops [mv 10 4,op 11 (.un .not (.t 10)),mv 12 11,on 13 12 (.fieldAddr 1 (.t 3)),on 14 12 (.load false 1 (.t 13)),op 15 (.pick (.t 12) (.c (.bool true)) (.t 14))] (some [3, 15])) (.cond (.t 15) (.seq (.ops [op 2 (.move (ic 0))] (some [2])) .ret) .skip)) (.seq (.ops [fa 16 2 3,op 17 (.load true 3 (.t 16)),op 18 (cl 33 [(.t 17)]),mv 2 18] (some [2])) .ret)))), [.tmp 2]⟩

theorem is50 : FnIs Try.prog 50 x50 := ⟨Try.f50, _, Try.func50, by kernel_rfl, rfl, by kernel_rfl, by decide, by kernel_rfl⟩

def x51 : XDecl := .code ⟨1,  (.seq (.ops [op 1 (.box (.t 0)),op 2 (.move (.c (.string .empty))),op 3 (.move (ic 0))] (some [1])) (.seq (.block 0 (.seq (.ops [op 5 (.load true 3 (.t 1)),op 6 (cl 31 [(.t 5)]),op 7 (.un .not (.t 6)),mv 4 7] (some [1, 4])) (.cond (.t 4) (.seq (.ops [op 2 (.move (.c (.string .empty))),op 3 (.move (ic 1))] (some [2, 3])) .ret) (.seq (.ops [fa 9 0 1,ld 10 1 9,mv 8 10] (some [1, 8])) (.cond (.t 8) (.seq (.ops [fa 11 2 1,ld 12 1 11,op 13 (cl 49 [(.t 12)]),op 14 (cl 68 [(.t 13)]),op 15 (.bin .add 9 (.c (.string ⟨#[1]⟩)) (.t 14)),mv 2 15,op 3 (.move (ic 0))] (some [2, 3])) .ret) .skip))))) (.seq (.ops [fa 16 1 1,ld 17 1 16,op 18 (.bin .add 9 (.c (.string ⟨#[0]⟩)) (.t 17)),mv 2 18,op 3 (.move (ic 0))] (some [2, 3])) .ret))), [.tmp 2, .tmp 3]⟩

theorem is51 : FnIs Try.prog 51 x51 := ⟨Try.f51, _, Try.func51, by kernel_rfl, rfl, by kernel_rfl, by decide, by kernel_rfl⟩

def x52 : XDecl := .code ⟨2,  (.seq (.ops [op 4 (.move (.c (.string .empty))),op 5 (.move (ic 0)),op 6 (.move (.c (.bool false)))] (some [0, 1])) (.seq (.seq (.ops [mv 7 0,op 8 (cl 69 [(.t 7)]),op 9 (.un .not (.t 8))] (some [0, 1, 9])) (.cond (.t 9) (.seq (.ops [op 4 (.move (.c (.string .empty))),op 5 (.move (ic 0)),op 6 (.move (.c (.bool false)))] (some [4, 5, 6])) .ret) .skip)) (.seq (.ops [mv 10 0,mv 11 0,nc 12 11,fa 13 2 12,ld 14 1 13,mv 15 1,op 16 (cl 70 [(.t 10), (.t 14), (.t 15), (.c (.bool false))]),ex 17 16 0,ex 18 16 1,ex 19 16 2,mv 4 17,mv 5 18,mv 6 19] (some [4, 5, 6])) .ret))), [.tmp 4, .tmp 5, .tmp 6]⟩

theorem is52 : FnIs Try.prog 52 x52 := ⟨Try.f52, _, Try.func52, by kernel_rfl, rfl, by kernel_rfl, by decide, by kernel_rfl⟩

def x53 : XDecl := .code ⟨2,  (.seq (.ops [op 4 (.move (.c (.string .empty))),op 5 (.move (ic 0)),op 6 (.move (.c (.bool false)))] (some [0, 1])) (.seq (.seq (.ops [mv 7 0,op 8 (cl 69 [(.t 7)]),op 9 (.un .not (.t 8))] (some [0, 1, 9])) (.cond (.t 9) (.seq (.ops [op 4 (.move (.c (.string .empty))),op 5 (.move (ic 0)),op 6 (.move (.c (.bool false)))] (some [4, 5, 6])) .ret) .skip)) (.seq (.ops [mv 10 0,mv 11 0,nc 12 11,fa 13 2 12,ld 14 1 13,mv 15 1,op 16 (cl 70 [(.t 10), (.t 14), (.t 15), (.c (.bool true))]),ex 17 16 0,ex 18 16 1,ex 19 16 2,mv 4 17,mv 5 18,mv 6 19] (some [4, 5, 6])) .ret))), [.tmp 4, .tmp 5, .tmp 6]⟩

theorem is53 : FnIs Try.prog 53 x53 := ⟨Try.f53, _, Try.func53, by kernel_rfl, rfl, by kernel_rfl, by decide, by kernel_rfl⟩

def x54 : XDecl := .code ⟨2,  (.seq (.ops [op 4 (.move (.c (.pointer none))),op 5 (.move (ic 0)),op 6 (.move (.c (.bool false)))] (some [0, 1])) (.seq (.seq (.ops [mv 10 0,op 11 (.isNil .ptr false (.t 10)),mv 12 11,on 13 12 (.move (.t 0)),on 14 12 (.nilCheck (.t 13)),on 15 12 (.fieldAddr 2 (.t 14)),on 16 12 (.load false 1 (.t 15)),on 17 12 (.bin .lss 3 (.t 16) (ic 0)),op 18 (.pick (.t 12) (.c (.bool true)) (.t 17))] (some [0, 1, 18])) (.cond (.t 18) (.seq (.ops [op 4 (.move (.c (.pointer none))),op 5 (.move (ic 0)),op 6 (.move (.c (.bool false)))] (some [4, 5, 6])) .ret) .skip)) (.seq (.opsr [mv 19 0,nc 20 19,fa 21 0 20,ld 22 1 21,mv 23 0,nc 24 23,fa 25 2 24,ld 26 1 25,op 27 (.indexAddr 3 (.t 22) (.t 26)),mv 7 27] (some [0, 1, 7])) (.seq (.block 0 (.loop (.seq (.seq (.ops [mv 28 7,op 29 (cl 60 [(.t 28)]),op 30 (.un .not (.t 29))] (some [0, 1, 7, 30])) (.cond (.t 30) .skip (.exit 0))) (.block 1 (.opsd [(0, 0, mv 31 0),(1, 1, nc 32 31),(2, 3, fa 33 0 32),(3, 7, ld 34 1 33),(4, 0, mv 35 7),(5, 16, nc 36 35),(6, 48, fa 37 2 36),(7, 112, ld 38 1 37),(8, 0, mv 39 7),(9, 0, mv 40 1),(10, 768, op 41 (cl 71 [(.t 39), (.t 40)])),(11, 2032, op 42 (.indexAddr 1 (.t 38) (.t 41))),(12, 4080, ld 43 1 42),(13, 8191, op 44 (.indexAddr 3 (.t 34) (.t 43))),(14, 16383, mv 7 44)] (some [0, 1, 7])))))) (.seq (.ops [mv 46 7,nc 47 46,fa 48 0 47,ld 49 1 48,mv 50 1,op 51 (cl 72 [(.t 49), (.t 50)]),mv 45 51,ex 52 45 0,ex 53 45 1,mv 8 52,mv 9 53] (some [7, 8, 9])) (.seq (.ops [mv 54 7,mv 55 8,mv 56 9,mv 4 54,mv 5 55,mv 6 56] (some [4, 5, 6])) .ret)))))), [.tmp 4, .tmp 5, .tmp 6]⟩

theorem is54 : FnIs Try.prog 54 x54 := ⟨Try.f54, _, Try.func54, by kernel_rfl, rfl, by kernel_rfl, by decide, by kernel_rfl⟩

def x55 : XDecl := .code ⟨1,  (.seq (.ops [op 1 (.box (.t 0)),op 2 (.move (.c (.bool false)))] (some [1])) (.seq (.ops [fa 3 0 1,ld 4 1 3,op 5 (.bin .geq 3 (.t 4) (ic 1)),mv 6 5,og 7 6 (.fieldAddr 0 (.t 1)),og 8 6 (.load false 1 (.t 7)),og 9 6 (.bin .leq 3 (.t 8) (ic 1073741824)),op 10 (.pick (.t 6) (.t 9) (.c (.bool false))),mv 11 10,og 12 11 (.fieldAddr 2 (.t 1)),og 13 11 (.load true 3 (.t 12)),og 14 11 (cl 31 [(.t 13)]),op 15 (.pick (.t 11) (.t 14) (.c (.bool false))),mv 16 15,og 17 16 (.fieldAddr 1 (.t 1)),og 18 16 (.load false 1 (.t 17)),og 19 16 (.un .not (.t 18)),og 20 16 (.move (.t 19)),on 21 20 (.fieldAddr 2 (.t 1)),on 22 20 (.load true 3 (.t 21)),on 23 20 (.build [(.bool false), (.string .empty), (.int .u64 0)] [(0, 1), (1, 1), (2, 1)] []),on 24 20 (.bin .eql 43 (.t 22) (.t 23)),og 25 16 (.pick (.t 20) (.c (.bool true)) (.t 24)),op 26 (.pick (.t 16) (.t 25) (.c (.bool false))),mv 2 26] (some [2])) .ret)), [.tmp 2]⟩

theorem is55 : FnIs Try.prog 55 x55 := ⟨Try.f55, _, Try.func55, by kernel_rfl, rfl, by kernel_rfl, by decide, by kernel_rfl⟩

def x56 : XDecl := .code ⟨3,  (.seq (.ops [op 6 (.move (ic 0)),op 7 (.move (.c (.bool false)))] (some [0, 1, 2])) (.seq (.ops [mv 12 0,op 13 (.len (.t 12)),mv 8 13] (some [0, 1, 2, 8])) (.seq (.ops [mv 14 8,op 9 (.move (ic 0)),mv 10 14] (some [0, 1, 2, 8, 9, 10])) (.seq (.block 0 (.loop (.seq (.seq (.ops [mv 15 9,mv 16 10,ib 17 .lss 3 15 16] (some [0, 1, 2, 8, 9, 10, 17])) (.cond (.t 17) .skip (.exit 0))) (.block 1 (.seq (.ops [mv 18 9,mv 19 10,ib 20 .add 3 18 19,op 21 (.conv 3 120 (.t 20)),op 22 (.bin .shr 120 (.t 21) (.c (.int .u64 1))),op 23 (.conv 120 3 (.t 22)),mv 11 23] (some [0, 1, 2, 8, 9, 10, 11])) (.seq (.ops [mv 24 2,mv 25 0,mv 26 11,op 27 (.indexAddr 5 (.t 25) (.t 26)),op 28 (.load true 5 (.t 27)),mv 29 1,op 30 (.call (.t 24) [(.t 28), (.t 29)]),op 31 (.bin .lss 3 (.t 30) (ic 0))] (some [0, 1, 2, 8, 9, 10, 11, 31])) (.cond (.t 31) (.ops [mv 32 11,op 33 (.bin .add 3 (.t 32) (ic 1)),mv 9 33] (some [0, 1, 2, 8, 9, 10])) (.ops [mv 34 11,mv 10 34] (some [0, 1, 2, 8, 9, 10]))))))))) (.seq (.ops [mv 35 9,mv 36 9,mv 37 8,ib 38 .lss 3 36 37,mv 39 38,og 40 39 (.move (.t 2)),og 41 39 (.move (.t 0)),og 42 39 (.move (.t 9)),og 43 39 (.indexAddr 5 (.t 41) (.t 42)),og 44 39 (.load true 5 (.t 43)),og 45 39 (.move (.t 1)),og 46 39 (.call (.t 40) [(.t 44), (.t 45)]),og 47 39 (.bin .eql 3 (.t 46) (ic 0)),op 48 (.pick (.t 39) (.t 47) (.c (.bool false))),mv 6 35,mv 7 48] (some [6, 7])) .ret))))), [.tmp 6, .tmp 7]⟩

theorem is56 : FnIs Try.prog 56 x56 := ⟨Try.f56, _, Try.func56, by kernel_rfl, rfl, by kernel_rfl, by decide, by kernel_rfl⟩

def x57 : XDecl := .code ⟨2,  (.seq (.ops [op 2 (.box (.t 0)),op 4 (.move (ic 0))] (some [1, 2])) (.seq (.ops [fa 5 0 2,ld 6 1 5,mv 7 1,ib 8 .sub 3 6 7,mv 4 8] (some [4])) .ret)), [.tmp 4]⟩

theorem is57 : FnIs Try.prog 57 x57 := ⟨Try.f57, _, Try.func57, by kernel_rfl, rfl, by kernel_rfl, by decide, by kernel_rfl⟩

def x58 : XDecl := .code ⟨3,  (.seq (.ops [mv 10 0,nc 11 10,fa 12 0 11,ld 13 1 12,mv 14 1,op 15 (.indexAddr 3 (.t 13) (.t 14)),mv 6 15] (some [0, 2, 6])) (.seq (.seq (.ops [mv 16 6,op 17 (cl 60 [(.t 16)])] (some [0, 2, 6, 17])) (.cond (.t 17) (.seq (.ops [mv 19 6,nc 20 19,fa 21 0 20,ld 22 1 21,mv 23 2,op 24 (cl 72 [(.t 22), (.t 23)]),mv 18 24,ex 25 18 0,ex 26 18 1,mv 7 25,mv 8 26] (some [6, 7])) (.seq (.opsd [(0, 0, mv 27 6),(1, 0, mv 28 6),(2, 0, mv 29 6),(3, 4, nc 30 29),(4, 12, fa 31 0 30),(5, 28, ld 32 1 31),(6, 0, mv 33 7),(7, 0, mv 34 7),(8, 128, op 35 (.bin .add 3 (.t 34) (ic 1))),(10, 0, mv 37 6),(11, 1024, nc 38 37),(12, 3072, fa 39 1 38),(13, 7168, ld 40 1 39),(14, 0, mv 41 7),(15, 0, mv 42 7),(16, 32768, op 43 (.bin .add 3 (.t 42) (ic 1))),(9, 508, op 36 (cl 73 [(.t 32), (.t 33), (.t 35)])),(17, 131068, op 44 (cl 74 [(.t 40), (.t 41), (.t 43)])),(18, 262141, nc 45 27),(19, 524285, fa 46 0 45),(20, 1048573, st 1 46 36),(21, 2097151, nc 47 28),(22, 4194303, fa 48 1 47),(23, 8388607, st 1 48 44)] (some [])) .ret)) .skip)) (.seq (.ops [mv 49 6,mv 50 2,op 51 (cl 71 [(.t 49), (.t 50)]),mv 9 51] (some [0, 2, 6, 9])) (.seq (.ops [mv 52 0,mv 53 6,nc 54 53,fa 55 2 54,ld 56 1 55,mv 57 9,op 58 (.indexAddr 1 (.t 56) (.t 57)),ld 59 1 58,mv 60 2,op 61 (cl 58 [(.t 52), (.t 59), (.t 60)])] (some [0, 6, 9])) (.seq (.opsd [(0, 0, mv 62 0),(1, 1, nc 63 62),(2, 3, fa 64 0 63),(3, 7, ld 65 1 64),(4, 0, mv 66 6),(5, 16, nc 67 66),(6, 48, fa 68 2 67),(7, 112, ld 69 1 68),(8, 0, mv 70 9),(9, 496, op 71 (.indexAddr 1 (.t 69) (.t 70))),(10, 1008, ld 72 1 71),(11, 2047, op 73 (.indexAddr 3 (.t 65) (.t 72))),(12, 4095, op 74 (cl 63 [(.t 73)])),(13, 8191, op 75 (.bin .lss 3 (.t 74) (ic 2)))] (some [0, 6, 9, 75])) (.cond (.t 75) (.ops [mv 76 0,mv 77 6,mv 78 9,op 79 (.calcB .max [3, 3] 3 [(.t 78), (ic 1)]),op 80 (cl 75 [(.t 76), (.t 77), (.t 79)])] (some [])) .skip)))))), []⟩

theorem is58 : FnIs Try.prog 58 x58 := ⟨Try.f58, _, Try.func58, by kernel_rfl, rfl, by kernel_rfl, by decide, by kernel_rfl⟩

def x59 : XDecl := .code ⟨2,  (.seq (.ops [mv 4 0,nc 5 4,fa 6 0 5,ld 7 1 6,mv 8 1,op 9 (.build [(.slice none 0 0), (.slice none 0 0), (.slice none 0 0)] [(0, 1), (1, 1), (2, 1)] []),op 10 (.indexAddr 3 (.t 7) (.t 8)),st 3 10 9] (some [0, 1])) (.ops [mv 11 0,mv 12 0,nc 13 12,fa 14 1 13,ld 15 1 14,mv 16 1,op 17 (.buildSlice [(.int .i64 0)] 1 1 [(0, (.t 16))]),op 18 (.append 1 8 [(.int .i64 0)] (.t 15) (.t 17)),nc 19 11,fa 20 1 19,st 1 20 18] (some []))), []⟩

theorem is59 : FnIs Try.prog 59 x59 := ⟨Try.f59, _, Try.func59, by kernel_rfl, rfl, by kernel_rfl, by decide, by kernel_rfl⟩

def x60 : XDecl := .code ⟨1,  (.seq (.ops [op 2 (.move (.c (.bool false)))] (some [0])) (.seq (.ops [mv 3 0,nc 4 3,fa 5 2 4,ld 6 1 5,op 7 (.len (.t 6)),op 8 (.bin .eql 3 (.t 7) (ic 0)),mv 2 8] (some [2])) .ret)), [.tmp 2]⟩

theorem is60 : FnIs Try.prog 60 x60 := ⟨Try.f60, _, Try.func60, by kernel_rfl, rfl, by kernel_rfl, by decide, by kernel_rfl⟩

def x61 : XDecl := .code ⟨2,  (.seq (.ops [op 3 (.box (.t 1)),op 4 (.move (ic 0))] (some [0, 3])) (.seq (.seq (.ops [mv 7 0,nc 8 7,fa 9 1 8,ld 10 1 9,op 11 (.len (.t 10)),mv 5 11] (some [0, 3, 5])) (.seq (.ops [mv 12 5,op 13 (.bin .gtr 3 (.t 12) (ic 0))] (some [0, 3, 5, 13])) (.cond (.t 13) (.seq (.ops [mv 14 0,nc 15 14,fa 16 1 15,ld 17 1 16,mv 18 5,op 19 (.bin .sub 3 (.t 18) (ic 1)),op 20 (.indexAddr 1 (.t 17) (.t 19)),ld 21 1 20,mv 6 21] (some [0, 3, 5, 6])) (.seq (.ops [mv 22 0,mv 23 0,nc 24 23,fa 25 1 24,ld 26 1 25,mv 27 5,op 28 (.bin .sub 3 (.t 27) (ic 1)),op 29 (.slice 1 (.t 26) none (some (.t 28)) none),nc 30 22,fa 31 1 30,st 1 31 29] (some [0, 3, 6])) (.seq (.opsd [(0, 0, mv 32 0),(1, 1, nc 33 32),(2, 3, fa 34 0 33),(3, 7, ld 35 1 34),(4, 0, mv 36 6),(5, 0, op 37 (.load true 3 (.t 3))),(6, 63, op 38 (.indexAddr 3 (.t 35) (.t 36))),(7, 127, st 3 38 37)] (some [6])) (.seq (.ops [mv 39 6,mv 4 39] (some [4])) .ret)))) .skip))) (.seq (.opsd [(0, 0, mv 40 0),(1, 0, mv 41 0),(2, 2, nc 42 41),(3, 6, fa 43 0 42),(4, 14, ld 44 1 43),(5, 0, op 45 (.load true 3 (.t 3))),(6, 32, op 46 (.buildSlice [(.slice none 0 0), (.slice none 0 0), (.slice none 0 0)] 3 1 [(0, (.t 45))])),(7, 126, op 47 (.append 3 72 [(.slice none 0 0), (.slice none 0 0), (.slice none 0 0)] (.t 44) (.t 46))),(8, 255, nc 48 40),(9, 511, fa 49 0 48),(10, 1023, st 1 49 47)] (some [0])) (.seq (.ops [mv 50 0,nc 51 50,fa 52 0 51,ld 53 1 52,op 54 (.len (.t 53)),op 55 (.bin .sub 3 (.t 54) (ic 1)),mv 4 55] (some [4])) .ret)))), [.tmp 4]⟩

theorem is61 : FnIs Try.prog 61 x61 := ⟨Try.f61, _, Try.func61, by kernel_rfl, rfl, by kernel_rfl, by decide, by kernel_rfl⟩

def x62 : XDecl := .code ⟨4,  (.seq (.ops [mv 15 0,nc 16 15,fa 17 0 16,ld 18 1 17,mv 19 1,op 20 (.indexAddr 3 (.t 18) (.t 19)),mv 8 20] (some [0, 1, 2, 3, 8])) (.seq (.seq (.ops [mv 21 8,op 22 (cl 60 [(.t 21)])] (some [0, 1, 2, 3, 8, 22])) (.cond (.t 22) (.seq (.ops [mv 24 8,nc 25 24,fa 26 0 25,ld 27 1 26,mv 28 2,op 29 (cl 72 [(.t 27), (.t 28)]),mv 23 29,ex 30 23 0,ex 31 23 1,mv 9 30,mv 10 31] (some [2, 3, 8, 9])) (.seq (.opsd [(0, 0, mv 32 8),(1, 0, mv 33 8),(2, 0, mv 34 8),(3, 4, nc 35 34),(4, 12, fa 36 0 35),(5, 28, ld 37 1 36),(6, 0, mv 38 9),(7, 0, mv 39 2),(8, 128, op 40 (.buildSlice [(.string .empty)] 1 1 [(0, (.t 39))])),(10, 0, mv 42 8),(11, 1024, nc 43 42),(12, 3072, fa 44 1 43),(13, 7168, ld 45 1 44),(14, 0, mv 46 9),(15, 0, mv 47 3),(16, 32768, op 48 (.buildSlice [(.int .i64 0)] 1 1 [(0, (.t 47))])),(9, 508, op 41 (cl 76 [(.t 37), (.t 38), (.t 40)])),(17, 131068, op 49 (cl 77 [(.t 45), (.t 46), (.t 48)])),(18, 262141, nc 50 32),(19, 524285, fa 51 0 50),(20, 1048573, st 1 51 41),(21, 2097151, nc 52 33),(22, 4194303, fa 53 1 52),(23, 8388607, st 1 53 49)] (some [])) .ret)) .skip)) (.seq (.ops [mv 54 8,mv 55 2,op 56 (cl 71 [(.t 54), (.t 55)]),mv 11 56] (some [0, 1, 2, 3, 8, 11])) (.seq (.ops [mv 57 8,nc 58 57,fa 59 2 58,ld 60 1 59,mv 61 11,op 62 (.indexAddr 1 (.t 60) (.t 61)),ld 63 1 62,mv 12 63] (some [0, 1, 2, 3, 11, 12])) (.seq (.ops [mv 64 0,mv 65 12,mv 66 2,mv 67 3,op 68 (cl 62 [(.t 64), (.t 65), (.t 66), (.t 67)])] (some [0, 1, 11, 12])) (.seq (.ops [mv 69 0,nc 70 69,fa 71 0 70,ld 72 1 71,mv 73 12,op 74 (.indexAddr 3 (.t 72) (.t 73)),op 75 (cl 63 [(.t 74)]),op 76 (.bin .gtr 3 (.t 75) (ic 4))] (some [0, 1, 11, 12, 76])) (.cond (.t 76) (.seq (.ops [mv 78 0,mv 79 12,op 80 (cl 64 [(.t 78), (.t 79)]),mv 77 80,ex 81 77 0,ex 82 77 1,mv 13 81,mv 14 82] (some [0, 1, 11, 13, 14])) (.seq (.ops [mv 83 0,nc 84 83,fa 85 0 84,ld 86 1 85,mv 87 1,op 88 (.indexAddr 3 (.t 86) (.t 87)),mv 8 88] (some [8, 11, 13, 14])) (.opsd [(0, 0, mv 89 8),(1, 0, mv 90 8),(2, 0, mv 91 8),(3, 4, nc 92 91),(4, 12, fa 93 0 92),(5, 28, ld 94 1 93),(6, 0, mv 95 11),(7, 0, mv 96 14),(8, 128, op 97 (.buildSlice [(.string .empty)] 1 1 [(0, (.t 96))])),(10, 0, mv 99 8),(11, 1024, nc 100 99),(12, 3072, fa 101 2 100),(13, 7168, ld 102 1 101),(14, 0, mv 103 11),(15, 16384, op 104 (.bin .add 3 (.t 103) (ic 1))),(16, 0, mv 105 13),(17, 65536, op 106 (.buildSlice [(.int .i64 0)] 1 1 [(0, (.t 105))])),(9, 508, op 98 (cl 76 [(.t 94), (.t 95), (.t 97)])),(18, 262140, op 107 (cl 77 [(.t 102), (.t 104), (.t 106)])),(19, 524285, nc 108 89),(20, 1048573, fa 109 0 108),(21, 2097149, st 1 109 98),(22, 4194303, nc 110 90),(23, 8388607, fa 111 2 110),(24, 16777215, st 1 111 107)] (some [])))) .skip))))))), []⟩

theorem is62 : FnIs Try.prog 62 x62 := ⟨Try.f62, _, Try.func62, by kernel_rfl, rfl, by kernel_rfl, by decide, by kernel_rfl⟩

def tabA : FuncId → Option XDecl
  | 3 => some x3
  | 4 => some x4
  | 5 => some x5
  | 6 => some x6
  | 7 => some x7
  | 8 => some x8
  | 9 => some x9
  | 10 => some x10
  | 11 => some x11
  | 12 => some x12
  | 13 => some x13
  | 14 => some x14
  | 15 => some x15
  | 16 => some x16
  | 17 => some x17
  | 18 => some x18
  | 19 => some x19
  | 20 => some x20
  | 21 => some x21
  | 22 => some x22
  | 23 => some x23
  | 24 => some x24
  | 25 => some x25
  | 26 => some x26
  | 27 => some x27
  | 28 => some x28
  | 29 => some x29
  | 30 => some x30
  | 31 => some x31
  | 32 => some x32
  | 33 => some x33
  | 34 => some x34
  | 35 => some x35
  | 36 => some x36
  | 37 => some x37
  | 38 => some x38
  | 39 => some x39
  | 40 => some x40
  | 41 => some x41
  | 42 => some x42
  | 43 => some x43
  | 44 => some x44
  | 45 => some x45
  | 46 => some x46
  | 47 => some x47
  | 48 => some x48
  | 49 => some x49
  | 50 => some x50
  | 51 => some x51
  | 52 => some x52
  | 53 => some x53
  | 54 => some x54
  | 55 => some x55
  | 56 => some x56
  | 57 => some x57
  | 58 => some x58
  | 59 => some x59
  | 60 => some x60
  | 61 => some x61
  | 62 => some x62
  | _ => none
theorem tabA_is : ∀ f d, tabA f = some d → FnIs Try.prog f d := by
  intro f d h
  unfold tabA at h
  split at h
  · cases h; exact is3
  · cases h; exact is4
  · cases h; exact is5
  · cases h; exact is6
  · cases h; exact is7
  · cases h; exact is8
  · cases h; exact is9
  · cases h; exact is10
  · cases h; exact is11
  · cases h; exact is12
  · cases h; exact is13
  · cases h; exact is14
  · cases h; exact is15
  · cases h; exact is16
  · cases h; exact is17
  · cases h; exact is18
  · cases h; exact is19
  · cases h; exact is20
  · cases h; exact is21
  · cases h; exact is22
  · cases h; exact is23
  · cases h; exact is24
  · cases h; exact is25
  · cases h; exact is26
  · cases h; exact is27
  · cases h; exact is28
  · cases h; exact is29
  · cases h; exact is30
  · cases h; exact is31
  · cases h; exact is32
  · cases h; exact is33
  · cases h; exact is34
  · cases h; exact is35
  · cases h; exact is36
  · cases h; exact is37
  · cases h; exact is38
  · cases h; exact is39
  · cases h; exact is40
  · cases h; exact is41
  · cases h; exact is42
  · cases h; exact is43
  · cases h; exact is44
  · cases h; exact is45
  · cases h; exact is46
  · cases h; exact is47
  · cases h; exact is48
  · cases h; exact is49
  · cases h; exact is50
  · cases h; exact is51
  · cases h; exact is52
  · cases h; exact is53
  · cases h; exact is54
  · cases h; exact is55
  · cases h; exact is56
  · cases h; exact is57
  · cases h; exact is58
  · cases h; exact is59
  · cases h; exact is60
  · cases h; exact is61
  · cases h; exact is62
  · cases h

end Go.Proofs.Ytnlmnejellipdaa.X
