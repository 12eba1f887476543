/-
  Own work, printed by a program of ours (mkprog.py): the functions of this seat as code of the abstract run, and that each is the model's.
-/
import Derived.Test.YtnlmnejellipdaaGreatXN
import Derived.Test.YtnlmnejellipdaaGreatXLaw
import Derived.Test.YtnlmnejellipdaaGreatChecked
set_option maxRecDepth 100000
namespace Go.Proofs.YtnlmnejellipdaaGreat.X
open Go

def x137 : XDecl := .code ⟨1,  (.seq (.ops [op 2 (.move (ic 0))] (some [0])) (.seq (.ops [mv 6 0,op 7 (cl 75 [(.t 6)]),mv 5 7,ex 8 5 0,ex 9 5 1,op 3 (.alloc [(.int .i64 0), (.bool false), (.bool false), (.string .empty), (.int .u64 0)]),st 5 3 8,mv 4 9] (some [3, 4])) (.seq (.seq (.ops [mv 10 4,op 11 (.un .not (.t 10)),mv 12 11,on 13 12 (.fieldAddr 1 (.t 3)),on 14 12 (.load false 1 (.t 13)),op 15 (.pick (.t 12) (.c (.bool true)) (.t 14))] (some [3, 15])) (.cond (.t 15) (.seq (.ops [op 2 (.move (ic 0))] (some [2])) .ret) .skip)) (.seq (.ops [fa 16 2 3,op 17 (.load true 3 (.t 16)),op 18 (cl 106 [(.t 17)]),mv 2 18] (some [2])) .ret)))), [.tmp 2]⟩

theorem is137 : FnIs Tryz.prog 137 x137 := ⟨Tryz.f137, _, Tryz.func137, by kernel_rfl, rfl, by kernel_rfl, by decide, by kernel_rfl⟩

def x138 : XDecl := .code ⟨1,  (.seq (.ops [op 1 (.box (.t 0)),op 2 (.move (.c (.string .empty))),op 3 (.move (ic 0))] (some [1])) (.seq (.block 0 (.seq (.ops [op 5 (.load true 3 (.t 1)),op 6 (cl 77 [(.t 5)]),op 7 (.un .not (.t 6)),mv 4 7] (some [1, 4])) (.cond (.t 4) (.seq (.ops [op 2 (.move (.c (.string .empty))),op 3 (.move (ic 1))] (some [2, 3])) .ret) (.seq (.ops [fa 9 0 1,ld 10 1 9,mv 8 10] (some [1, 8])) (.cond (.t 8) (.seq (.ops [fa 11 2 1,ld 12 1 11,op 13 (cl 121 [(.t 12)]),op 14 (cl 167 [(.t 13)]),op 15 (.bin .add 9 (.c (.string ⟨#[1]⟩)) (.t 14)),mv 2 15,op 3 (.move (ic 0))] (some [2, 3])) .ret) .skip))))) (.seq (.ops [fa 16 1 1,ld 17 1 16,op 18 (.bin .add 9 (.c (.string ⟨#[0]⟩)) (.t 17)),mv 2 18,op 3 (.move (ic 0))] (some [2, 3])) .ret))), [.tmp 2, .tmp 3]⟩

theorem is138 : FnIs Tryz.prog 138 x138 := ⟨Tryz.f138, _, Tryz.func138, by kernel_rfl, rfl, by kernel_rfl, by decide, by kernel_rfl⟩

def x139 : XDecl := .code ⟨2,  (.seq (.ops [op 4 (.move (.c (.pointer none))),op 5 (.move (ic 0)),op 6 (.move (.c (.bool false)))] (some [0, 1])) (.seq (.seq (.ops [mv 10 0,op 11 (.isNil .ptr false (.t 10)),mv 12 11,on 13 12 (.move (.t 0)),on 14 12 (.nilCheck (.t 13)),on 15 12 (.fieldAddr 2 (.t 14)),on 16 12 (.load false 1 (.t 15)),on 17 12 (.bin .lss 3 (.t 16) (ic 0)),op 18 (.pick (.t 12) (.c (.bool true)) (.t 17))] (some [0, 1, 18])) (.cond (.t 18) (.seq (.ops [op 4 (.move (.c (.pointer none))),op 5 (.move (ic 0)),op 6 (.move (.c (.bool false)))] (some [4, 5, 6])) .ret) .skip)) (.seq (.opsr [mv 19 0,nc 20 19,fa 21 0 20,ld 22 1 21,mv 23 0,nc 24 23,fa 25 2 24,ld 26 1 25,op 27 (.indexAddr 3 (.t 22) (.t 26)),mv 7 27] (some [0, 1, 7])) (.seq (.block 0 (.loop (.seq (.seq (.ops [mv 28 7,op 29 (cl 145 [(.t 28)]),op 30 (.un .not (.t 29))] (some [0, 1, 7, 30])) (.cond (.t 30) .skip (.exit 0))) (.block 1 (.opsd [(0, 0, mv 31 0),(1, 1, nc 32 31),(2, 3, fa 33 0 32),(3, 7, ld 34 1 33),(4, 0, mv 35 7),(5, 16, nc 36 35),(6, 48, fa 37 2 36),(7, 112, ld 38 1 37),(8, 0, mv 39 7),(9, 0, mv 40 1),(10, 768, op 41 (cl 151 [(.t 39), (.t 40)])),(11, 2032, op 42 (.indexAddr 1 (.t 38) (.t 41))),(12, 4080, ld 43 1 42),(13, 8191, op 44 (.indexAddr 3 (.t 34) (.t 43))),(14, 16383, mv 7 44)] (some [0, 1, 7])))))) (.seq (.ops [mv 46 7,nc 47 46,fa 48 0 47,ld 49 1 48,mv 50 1,op 51 (cl 150 [(.t 49), (.t 50)]),mv 45 51,ex 52 45 0,ex 53 45 1,mv 8 52,mv 9 53] (some [7, 8, 9])) (.seq (.ops [mv 54 7,mv 55 8,mv 56 9,mv 4 54,mv 5 55,mv 6 56] (some [4, 5, 6])) .ret)))))), [.tmp 4, .tmp 5, .tmp 6]⟩

theorem is139 : FnIs Tryz.prog 139 x139 := ⟨Tryz.f139, _, Tryz.func139, by kernel_rfl, rfl, by kernel_rfl, by decide, by kernel_rfl⟩

def x140 : XDecl := .code ⟨1,  (.seq (.ops [op 1 (.box (.t 0)),op 2 (.move (.c (.bool false)))] (some [1])) (.seq (.ops [fa 3 0 1,ld 4 1 3,op 5 (.bin .geq 3 (.t 4) (ic 1)),mv 6 5,og 7 6 (.fieldAddr 0 (.t 1)),og 8 6 (.load false 1 (.t 7)),og 9 6 (.bin .leq 3 (.t 8) (ic 1073741824)),op 10 (.pick (.t 6) (.t 9) (.c (.bool false))),mv 11 10,og 12 11 (.fieldAddr 2 (.t 1)),og 13 11 (.load true 3 (.t 12)),og 14 11 (cl 77 [(.t 13)]),op 15 (.pick (.t 11) (.t 14) (.c (.bool false))),mv 16 15,og 17 16 (.fieldAddr 1 (.t 1)),og 18 16 (.load false 1 (.t 17)),og 19 16 (.un .not (.t 18)),og 20 16 (.move (.t 19)),on 21 20 (.fieldAddr 2 (.t 1)),on 22 20 (.load true 3 (.t 21)),on 23 20 (.build [(.bool false), (.string .empty), (.int .u64 0)] [(0, 1), (1, 1), (2, 1)] []),on 24 20 (.bin .eql 45 (.t 22) (.t 23)),og 25 16 (.pick (.t 20) (.c (.bool true)) (.t 24)),op 26 (.pick (.t 16) (.t 25) (.c (.bool false))),mv 2 26] (some [2])) .ret)), [.tmp 2]⟩

theorem is140 : FnIs Tryz.prog 140 x140 := ⟨Tryz.f140, _, Tryz.func140, by kernel_rfl, rfl, by kernel_rfl, by decide, by kernel_rfl⟩

def x141 : XDecl := .code ⟨3,  (.seq (.ops [op 6 (.move (ic 0)),op 7 (.move (.c (.bool false)))] (some [0, 1, 2])) (.seq (.ops [mv 12 0,op 13 (.len (.t 12)),mv 8 13] (some [0, 1, 2, 8])) (.seq (.ops [mv 14 8,op 9 (.move (ic 0)),mv 10 14] (some [0, 1, 2, 8, 9, 10])) (.seq (.block 0 (.loop (.seq (.seq (.ops [mv 15 9,mv 16 10,ib 17 .lss 3 15 16] (some [0, 1, 2, 8, 9, 10, 17])) (.cond (.t 17) .skip (.exit 0))) (.block 1 (.seq (.ops [mv 18 9,mv 19 10,ib 20 .add 3 18 19,op 21 (.conv 3 162 (.t 20)),op 22 (.bin .shr 162 (.t 21) (.c (.int .u64 1))),op 23 (.conv 162 3 (.t 22)),mv 11 23] (some [0, 1, 2, 8, 9, 10, 11])) (.seq (.ops [mv 24 2,mv 25 0,mv 26 11,op 27 (.indexAddr 5 (.t 25) (.t 26)),op 28 (.load true 5 (.t 27)),mv 29 1,op 30 (.call (.t 24) [(.t 28), (.t 29)]),op 31 (.bin .lss 3 (.t 30) (ic 0))] (some [0, 1, 2, 8, 9, 10, 11, 31])) (.cond (.t 31) (.ops [mv 32 11,op 33 (.bin .add 3 (.t 32) (ic 1)),mv 9 33] (some [0, 1, 2, 8, 9, 10])) (.ops [mv 34 11,mv 10 34] (some [0, 1, 2, 8, 9, 10]))))))))) (.seq (.ops [mv 35 9,mv 36 9,mv 37 8,ib 38 .lss 3 36 37,mv 39 38,og 40 39 (.move (.t 2)),og 41 39 (.move (.t 0)),og 42 39 (.move (.t 9)),og 43 39 (.indexAddr 5 (.t 41) (.t 42)),og 44 39 (.load true 5 (.t 43)),og 45 39 (.move (.t 1)),og 46 39 (.call (.t 40) [(.t 44), (.t 45)]),og 47 39 (.bin .eql 3 (.t 46) (ic 0)),op 48 (.pick (.t 39) (.t 47) (.c (.bool false))),mv 6 35,mv 7 48] (some [6, 7])) .ret))))), [.tmp 6, .tmp 7]⟩

theorem is141 : FnIs Tryz.prog 141 x141 := ⟨Tryz.f141, _, Tryz.func141, by kernel_rfl, rfl, by kernel_rfl, by decide, by kernel_rfl⟩

def x142 : XDecl := .code ⟨2,  (.seq (.ops [op 2 (.box (.t 0)),op 4 (.move (ic 0))] (some [1, 2])) (.seq (.ops [fa 5 0 2,ld 6 1 5,mv 7 1,ib 8 .sub 3 6 7,mv 4 8] (some [4])) .ret)), [.tmp 4]⟩

theorem is142 : FnIs Tryz.prog 142 x142 := ⟨Tryz.f142, _, Tryz.func142, by kernel_rfl, rfl, by kernel_rfl, by decide, by kernel_rfl⟩

def x143 : XDecl := .code ⟨3,  (.seq (.ops [mv 10 0,nc 11 10,fa 12 0 11,ld 13 1 12,mv 14 1,op 15 (.indexAddr 3 (.t 13) (.t 14)),mv 6 15] (some [0, 2, 6])) (.seq (.seq (.ops [mv 16 6,op 17 (cl 145 [(.t 16)])] (some [0, 2, 6, 17])) (.cond (.t 17) (.seq (.ops [mv 19 6,nc 20 19,fa 21 0 20,ld 22 1 21,mv 23 2,op 24 (cl 150 [(.t 22), (.t 23)]),mv 18 24,ex 25 18 0,ex 26 18 1,mv 7 25,mv 8 26] (some [6, 7])) (.seq (.opsd [(0, 0, mv 27 6),(1, 0, mv 28 6),(2, 0, mv 29 6),(3, 4, nc 30 29),(4, 12, fa 31 0 30),(5, 28, ld 32 1 31),(6, 0, mv 33 7),(7, 0, mv 34 7),(8, 128, op 35 (.bin .add 3 (.t 34) (ic 1))),(10, 0, mv 37 6),(11, 1024, nc 38 37),(12, 3072, fa 39 1 38),(13, 7168, ld 40 1 39),(14, 0, mv 41 7),(15, 0, mv 42 7),(16, 32768, op 43 (.bin .add 3 (.t 42) (ic 1))),(9, 508, op 36 (cl 168 [(.t 32), (.t 33), (.t 35)])),(17, 131068, op 44 (cl 169 [(.t 40), (.t 41), (.t 43)])),(18, 262141, nc 45 27),(19, 524285, fa 46 0 45),(20, 1048573, st 1 46 36),(21, 2097151, nc 47 28),(22, 4194303, fa 48 1 47),(23, 8388607, st 1 48 44)] (some [])) .ret)) .skip)) (.seq (.ops [mv 49 6,mv 50 2,op 51 (cl 151 [(.t 49), (.t 50)]),mv 9 51] (some [0, 2, 6, 9])) (.seq (.ops [mv 52 0,mv 53 6,nc 54 53,fa 55 2 54,ld 56 1 55,mv 57 9,op 58 (.indexAddr 1 (.t 56) (.t 57)),ld 59 1 58,mv 60 2,op 61 (cl 143 [(.t 52), (.t 59), (.t 60)])] (some [0, 6, 9])) (.seq (.opsd [(0, 0, mv 62 0),(1, 1, nc 63 62),(2, 3, fa 64 0 63),(3, 7, ld 65 1 64),(4, 0, mv 66 6),(5, 16, nc 67 66),(6, 48, fa 68 2 67),(7, 112, ld 69 1 68),(8, 0, mv 70 9),(9, 496, op 71 (.indexAddr 1 (.t 69) (.t 70))),(10, 1008, ld 72 1 71),(11, 2047, op 73 (.indexAddr 3 (.t 65) (.t 72))),(12, 4095, op 74 (cl 148 [(.t 73)])),(13, 8191, op 75 (.bin .lss 3 (.t 74) (ic 2)))] (some [0, 6, 9, 75])) (.cond (.t 75) (.ops [mv 76 0,mv 77 6,mv 78 9,op 79 (.calcB .max [3, 3] 3 [(.t 78), (ic 1)]),op 80 (cl 170 [(.t 76), (.t 77), (.t 79)])] (some [])) .skip)))))), []⟩

theorem is143 : FnIs Tryz.prog 143 x143 := ⟨Tryz.f143, _, Tryz.func143, by kernel_rfl, rfl, by kernel_rfl, by decide, by kernel_rfl⟩

def x144 : XDecl := .code ⟨2,  (.seq (.ops [mv 4 0,nc 5 4,fa 6 0 5,ld 7 1 6,mv 8 1,op 9 (.build [(.slice none 0 0), (.slice none 0 0), (.slice none 0 0)] [(0, 1), (1, 1), (2, 1)] []),op 10 (.indexAddr 3 (.t 7) (.t 8)),st 3 10 9] (some [0, 1])) (.ops [mv 11 0,mv 12 0,nc 13 12,fa 14 1 13,ld 15 1 14,mv 16 1,op 17 (.buildSlice [(.int .i64 0)] 1 1 [(0, (.t 16))]),op 18 (.append 1 8 [(.int .i64 0)] (.t 15) (.t 17)),nc 19 11,fa 20 1 19,st 1 20 18] (some []))), []⟩

theorem is144 : FnIs Tryz.prog 144 x144 := ⟨Tryz.f144, _, Tryz.func144, by kernel_rfl, rfl, by kernel_rfl, by decide, by kernel_rfl⟩

def x145 : XDecl := .code ⟨1,  (.seq (.ops [op 2 (.move (.c (.bool false)))] (some [0])) (.seq (.ops [mv 3 0,nc 4 3,fa 5 2 4,ld 6 1 5,op 7 (.len (.t 6)),op 8 (.bin .eql 3 (.t 7) (ic 0)),mv 2 8] (some [2])) .ret)), [.tmp 2]⟩

theorem is145 : FnIs Tryz.prog 145 x145 := ⟨Tryz.f145, _, Tryz.func145, by kernel_rfl, rfl, by kernel_rfl, by decide, by kernel_rfl⟩

def x146 : XDecl := .code ⟨2,  (.seq (.ops [op 3 (.box (.t 1)),op 4 (.move (ic 0))] (some [0, 3])) (.seq (.seq (.ops [mv 7 0,nc 8 7,fa 9 1 8,ld 10 1 9,op 11 (.len (.t 10)),mv 5 11] (some [0, 3, 5])) (.seq (.ops [mv 12 5,op 13 (.bin .gtr 3 (.t 12) (ic 0))] (some [0, 3, 5, 13])) (.cond (.t 13) (.seq (.ops [mv 14 0,nc 15 14,fa 16 1 15,ld 17 1 16,mv 18 5,op 19 (.bin .sub 3 (.t 18) (ic 1)),op 20 (.indexAddr 1 (.t 17) (.t 19)),ld 21 1 20,mv 6 21] (some [0, 3, 5, 6])) (.seq (.ops [mv 22 0,mv 23 0,nc 24 23,fa 25 1 24,ld 26 1 25,mv 27 5,op 28 (.bin .sub 3 (.t 27) (ic 1)),op 29 (.slice 1 (.t 26) none (some (.t 28)) none),nc 30 22,fa 31 1 30,st 1 31 29] (some [0, 3, 6])) (.seq (.opsd [(0, 0, mv 32 0),(1, 1, nc 33 32),(2, 3, fa 34 0 33),(3, 7, ld 35 1 34),(4, 0, mv 36 6),(5, 0, op 37 (.load true 3 (.t 3))),(6, 63, op 38 (.indexAddr 3 (.t 35) (.t 36))),(7, 127, st 3 38 37)] (some [6])) (.seq (.ops [mv 39 6,mv 4 39] (some [4])) .ret)))) .skip))) (.seq (.opsd [(0, 0, mv 40 0),(1, 0, mv 41 0),(2, 2, nc 42 41),(3, 6, fa 43 0 42),(4, 14, ld 44 1 43),(5, 0, op 45 (.load true 3 (.t 3))),(6, 32, op 46 (.buildSlice [(.slice none 0 0), (.slice none 0 0), (.slice none 0 0)] 3 1 [(0, (.t 45))])),(7, 126, op 47 (.append 3 72 [(.slice none 0 0), (.slice none 0 0), (.slice none 0 0)] (.t 44) (.t 46))),(8, 255, nc 48 40),(9, 511, fa 49 0 48),(10, 1023, st 1 49 47)] (some [0])) (.seq (.ops [mv 50 0,nc 51 50,fa 52 0 51,ld 53 1 52,op 54 (.len (.t 53)),op 55 (.bin .sub 3 (.t 54) (ic 1)),mv 4 55] (some [4])) .ret)))), [.tmp 4]⟩

theorem is146 : FnIs Tryz.prog 146 x146 := ⟨Tryz.f146, _, Tryz.func146, by kernel_rfl, rfl, by kernel_rfl, by decide, by kernel_rfl⟩

def x147 : XDecl := .code ⟨4,  (.seq (.ops [mv 15 0,nc 16 15,fa 17 0 16,ld 18 1 17,mv 19 1,op 20 (.indexAddr 3 (.t 18) (.t 19)),mv 8 20] (some [0, 1, 2, 3, 8])) (.seq (.seq (.ops [mv 21 8,op 22 (cl 145 [(.t 21)])] (some [0, 1, 2, 3, 8, 22])) (.cond (.t 22) (.seq (.ops [mv 24 8,nc 25 24,fa 26 0 25,ld 27 1 26,mv 28 2,op 29 (cl 150 [(.t 27), (.t 28)]),mv 23 29,ex 30 23 0,ex 31 23 1,mv 9 30,mv 10 31] (some [2, 3, 8, 9])) (.seq (.opsd [(0, 0, mv 32 8),(1, 0, mv 33 8),(2, 0, mv 34 8),(3, 4, nc 35 34),(4, 12, fa 36 0 35),(5, 28, ld 37 1 36),(6, 0, mv 38 9),(7, 0, mv 39 2),(8, 128, op 40 (.buildSlice [(.string .empty)] 1 1 [(0, (.t 39))])),(10, 0, mv 42 8),(11, 1024, nc 43 42),(12, 3072, fa 44 1 43),(13, 7168, ld 45 1 44),(14, 0, mv 46 9),(15, 0, mv 47 3),(16, 32768, op 48 (.buildSlice [(.int .i64 0)] 1 1 [(0, (.t 47))])),(9, 508, op 41 (cl 171 [(.t 37), (.t 38), (.t 40)])),(17, 131068, op 49 (cl 172 [(.t 45), (.t 46), (.t 48)])),(18, 262141, nc 50 32),(19, 524285, fa 51 0 50),(20, 1048573, st 1 51 41),(21, 2097151, nc 52 33),(22, 4194303, fa 53 1 52),(23, 8388607, st 1 53 49)] (some [])) .ret)) .skip)) (.seq (.ops [mv 54 8,mv 55 2,op 56 (cl 151 [(.t 54), (.t 55)]),mv 11 56] (some [0, 1, 2, 3, 8, 11])) (.seq (.ops [mv 57 8,nc 58 57,fa 59 2 58,ld 60 1 59,mv 61 11,op 62 (.indexAddr 1 (.t 60) (.t 61)),ld 63 1 62,mv 12 63] (some [0, 1, 2, 3, 11, 12])) (.seq (.ops [mv 64 0,mv 65 12,mv 66 2,mv 67 3,op 68 (cl 147 [(.t 64), (.t 65), (.t 66), (.t 67)])] (some [0, 1, 11, 12])) (.seq (.ops [mv 69 0,nc 70 69,fa 71 0 70,ld 72 1 71,mv 73 12,op 74 (.indexAddr 3 (.t 72) (.t 73)),op 75 (cl 148 [(.t 74)]),op 76 (.bin .gtr 3 (.t 75) (ic 4))] (some [0, 1, 11, 12, 76])) (.cond (.t 76) (.seq (.ops [mv 78 0,mv 79 12,op 80 (cl 149 [(.t 78), (.t 79)]),mv 77 80,ex 81 77 0,ex 82 77 1,mv 13 81,mv 14 82] (some [0, 1, 11, 13, 14])) (.seq (.ops [mv 83 0,nc 84 83,fa 85 0 84,ld 86 1 85,mv 87 1,op 88 (.indexAddr 3 (.t 86) (.t 87)),mv 8 88] (some [8, 11, 13, 14])) (.opsd [(0, 0, mv 89 8),(1, 0, mv 90 8),(2, 0, mv 91 8),(3, 4, nc 92 91),(4, 12, fa 93 0 92),(5, 28, ld 94 1 93),(6, 0, mv 95 11),(7, 0, mv 96 14),(8, 128, op 97 (.buildSlice [(.string .empty)] 1 1 [(0, (.t 96))])),(10, 0, mv 99 8),(11, 1024, nc 100 99),(12, 3072, fa 101 2 100),(13, 7168, ld 102 1 101),(14, 0, mv 103 11),(15, 16384, op 104 (.bin .add 3 (.t 103) (ic 1))),(16, 0, mv 105 13),(17, 65536, op 106 (.buildSlice [(.int .i64 0)] 1 1 [(0, (.t 105))])),(9, 508, op 98 (cl 171 [(.t 94), (.t 95), (.t 97)])),(18, 262140, op 107 (cl 172 [(.t 102), (.t 104), (.t 106)])),(19, 524285, nc 108 89),(20, 1048573, fa 109 0 108),(21, 2097149, st 1 109 98),(22, 4194303, nc 110 90),(23, 8388607, fa 111 2 110),(24, 16777215, st 1 111 107)] (some [])))) .skip))))))), []⟩

theorem is147 : FnIs Tryz.prog 147 x147 := ⟨Tryz.f147, _, Tryz.func147, by kernel_rfl, rfl, by kernel_rfl, by decide, by kernel_rfl⟩

def x148 : XDecl := .code ⟨1,  (.seq (.ops [op 2 (.move (ic 0))] (some [0])) (.seq (.seq (.ops [mv 3 0,op 4 (cl 145 [(.t 3)])] (some [0, 4])) (.cond (.t 4) (.seq (.ops [mv 5 0,nc 6 5,fa 7 0 6,ld 8 1 7,op 9 (.len (.t 8)),mv 2 9] (some [2])) .ret) .skip)) (.seq (.ops [mv 10 0,nc 11 10,fa 12 2 11,ld 13 1 12,op 14 (.len (.t 13)),mv 2 14] (some [2])) .ret))), [.tmp 2]⟩

theorem is148 : FnIs Tryz.prog 148 x148 := ⟨Tryz.f148, _, Tryz.func148, by kernel_rfl, rfl, by kernel_rfl, by decide, by kernel_rfl⟩

def x149 : XDecl := .code ⟨2,  (.seq (.ops [op 4 (.move (ic 0)),op 5 (.move (.c (.string .empty)))] (some [0, 1])) (.seq (.ops [mv 10 0,nc 11 10,fa 12 0 11,ld 13 1 12,mv 14 1,op 15 (.indexAddr 3 (.t 13) (.t 14)),op 16 (.load true 3 (.t 15)),op 6 (.alloc [(.slice none 0 0), (.slice none 0 0), (.slice none 0 0)]),st 3 6 16] (some [0, 1, 6])) (.seq (.ops [op 17 (cl 148 [(.t 6)]),op 18 (.bin .quo 3 (.t 17) (ic 2)),mv 7 18] (some [0, 1, 6, 7])) (.seq (.seq (.ops [op 19 (cl 145 [(.t 6)])] (some [0, 1, 6, 7, 19])) (.cond (.t 19) (.seq (.opsd [(0, 0, mv 20 0),(1, 0, fa 21 0 6),(2, 2, ld 22 1 21),(3, 0, mv 23 7),(4, 14, op 24 (.slice 1 (.t 22) (some (.t 23)) none none)),(6, 0, fa 26 1 6),(7, 64, ld 27 1 26),(8, 0, mv 28 7),(9, 448, op 29 (.slice 1 (.t 27) (some (.t 28)) none none)),(5, 30, op 25 (cl 173 [(.t 24)])),(10, 1022, op 30 (cl 174 [(.t 29)])),(11, 2046, op 31 (.build [(.slice none 0 0), (.slice none 0 0), (.slice none 0 0)] [(0, 1), (1, 1), (2, 1)] [(0, (.t 25)), (1, (.t 30))])),(12, 4095, op 32 (cl 146 [(.t 20), (.t 31)])),(13, 8191, mv 8 32)] (some [0, 1, 6, 7, 8])) (.seq (.opsd [(0, 0, mv 33 0),(1, 1, nc 34 33),(2, 3, fa 35 0 34),(3, 7, ld 36 1 35),(4, 0, mv 37 1),(5, 0, mv 38 0),(6, 32, nc 39 38),(7, 96, fa 40 0 39),(8, 224, ld 41 1 40),(9, 0, mv 42 1),(10, 0, fa 43 0 6),(11, 1024, ld 44 1 43),(12, 0, mv 45 7),(13, 0, mv 46 7),(14, 15360, op 47 (.slice 1 (.t 44) none (some (.t 45)) (some (.t 46)))),(15, 0, fa 48 1 6),(16, 32768, ld 49 1 48),(17, 0, mv 50 7),(18, 0, mv 51 7),(19, 491520, op 52 (.slice 1 (.t 49) none (some (.t 50)) (some (.t 51)))),(20, 130559, op 53 (.indexAddr 3 (.t 36) (.t 37))),(21, 1179135, fa 54 0 53),(22, 3276287, st 1 54 47),(23, 8388607, op 55 (.indexAddr 3 (.t 41) (.t 42))),(24, 16777215, fa 56 1 55),(25, 33554431, st 1 56 52)] (some [6, 7, 8])) (.seq (.opsr [mv 57 8,fa 58 0 6,ld 59 1 58,mv 60 7,op 61 (.indexAddr 1 (.t 59) (.t 60)),ld 62 1 61,mv 4 57,mv 5 62] (some [4, 5])) .ret))) .skip)) (.seq (.opsd [(0, 0, mv 63 0),(1, 0, fa 64 0 6),(2, 2, ld 65 1 64),(3, 0, mv 66 7),(4, 14, op 67 (.slice 1 (.t 65) (some (.t 66)) none none)),(6, 0, fa 69 2 6),(7, 64, ld 70 1 69),(8, 0, mv 71 7),(9, 448, op 72 (.slice 1 (.t 70) (some (.t 71)) none none)),(5, 30, op 68 (cl 173 [(.t 67)])),(10, 1022, op 73 (cl 174 [(.t 72)])),(11, 2046, op 74 (.build [(.slice none 0 0), (.slice none 0 0), (.slice none 0 0)] [(0, 1), (1, 1), (2, 1)] [(0, (.t 68)), (2, (.t 73))])),(12, 4095, op 75 (cl 146 [(.t 63), (.t 74)])),(13, 8191, mv 9 75)] (some [0, 1, 6, 7, 9])) (.seq (.opsd [(0, 0, mv 76 0),(1, 1, nc 77 76),(2, 3, fa 78 0 77),(3, 7, ld 79 1 78),(4, 0, mv 80 1),(5, 0, mv 81 0),(6, 32, nc 82 81),(7, 96, fa 83 0 82),(8, 224, ld 84 1 83),(9, 0, mv 85 1),(10, 0, fa 86 0 6),(11, 1024, ld 87 1 86),(12, 0, mv 88 7),(13, 4096, op 89 (.bin .sub 3 (.t 88) (ic 1))),(14, 0, mv 90 7),(15, 16384, op 91 (.bin .sub 3 (.t 90) (ic 1))),(16, 64512, op 92 (.slice 1 (.t 87) none (some (.t 89)) (some (.t 91)))),(17, 0, fa 93 2 6),(18, 131072, ld 94 1 93),(19, 0, mv 95 7),(20, 0, mv 96 7),(21, 1966080, op 97 (.slice 1 (.t 94) none (some (.t 95)) (some (.t 96)))),(22, 523775, op 98 (.indexAddr 3 (.t 79) (.t 80))),(23, 4718079, fa 99 0 98),(24, 13106687, st 1 99 92),(25, 33554431, op 100 (.indexAddr 3 (.t 84) (.t 85))),(26, 67108863, fa 101 2 100),(27, 134217727, st 1 101 97)] (some [6, 7, 9])) (.seq (.opsr [mv 102 9,fa 103 0 6,ld 104 1 103,mv 105 7,op 106 (.bin .sub 3 (.t 105) (ic 1)),op 107 (.indexAddr 1 (.t 104) (.t 106)),ld 108 1 107,mv 4 102,mv 5 108] (some [4, 5])) .ret))))))), [.tmp 4, .tmp 5]⟩

theorem is149 : FnIs Tryz.prog 149 x149 := ⟨Tryz.f149, _, Tryz.func149, by kernel_rfl, rfl, by kernel_rfl, by decide, by kernel_rfl⟩

def x150 : XDecl := .code ⟨2,  (.seq (.ops [op 4 (.move (ic 0)),op 5 (.move (.c (.bool false)))] (some [0, 1])) (.seq (.ops [mv 10 0,op 11 (.len (.t 10)),mv 6 11] (some [0, 1, 6])) (.seq (.ops [mv 12 6,op 7 (.move (ic 0)),mv 8 12] (some [0, 1, 6, 7, 8])) (.seq (.block 0 (.loop (.seq (.seq (.ops [mv 13 7,mv 14 8,ib 15 .lss 3 13 14] (some [0, 1, 6, 7, 8, 15])) (.cond (.t 15) .skip (.exit 0))) (.block 1 (.seq (.ops [mv 16 7,mv 17 8,ib 18 .add 3 16 17,op 19 (.conv 3 162 (.t 18)),op 20 (.bin .shr 162 (.t 19) (.c (.int .u64 1))),op 21 (.conv 162 3 (.t 20)),mv 9 21] (some [0, 1, 6, 7, 8, 9])) (.seq (.ops [mv 22 0,mv 23 9,op 24 (.indexAddr 1 (.t 22) (.t 23)),ld 25 1 24,mv 26 1,op 27 (cl 175 [(.t 25), (.t 26)])] (some [0, 1, 6, 7, 8, 9, 27])) (.cond (.t 27) (.ops [mv 28 9,op 29 (.bin .add 3 (.t 28) (ic 1)),mv 7 29] (some [0, 1, 6, 7, 8])) (.ops [mv 30 9,mv 8 30] (some [0, 1, 6, 7, 8]))))))))) (.seq (.ops [mv 31 7,mv 32 7,mv 33 6,ib 34 .lss 3 32 33,mv 35 34,og 36 35 (.move (.t 0)),og 37 35 (.move (.t 7)),og 38 35 (.indexAddr 1 (.t 36) (.t 37)),og 39 35 (.load false 1 (.t 38)),og 40 35 (.move (.t 1)),og 41 35 (.bin .eql 9 (.t 39) (.t 40)),og 42 35 (.move (.t 41)),on 43 42 (.move (.t 0)),on 44 42 (.move (.t 7)),on 45 42 (.indexAddr 1 (.t 43) (.t 44)),on 46 42 (.load false 1 (.t 45)),on 47 42 (cl 176 [(.t 46)]),on 48 42 (.move (.t 47)),og 49 48 (.move (.t 1)),og 50 48 (cl 176 [(.t 49)]),on 51 42 (.pick (.t 48) (.t 50) (.c (.bool false))),og 52 35 (.pick (.t 42) (.c (.bool true)) (.t 51)),op 53 (.pick (.t 35) (.t 52) (.c (.bool false))),mv 4 31,mv 5 53] (some [4, 5])) .ret))))), [.tmp 4, .tmp 5]⟩

theorem is150 : FnIs Tryz.prog 150 x150 := ⟨Tryz.f150, _, Tryz.func150, by kernel_rfl, rfl, by kernel_rfl, by decide, by kernel_rfl⟩

def x151 : XDecl := .code ⟨2,  (.seq (.ops [op 4 (.move (ic 0))] (some [0, 1])) (.seq (.ops [mv 8 0,nc 9 8,fa 10 0 9,ld 11 1 10,mv 12 1,op 13 (cl 150 [(.t 11), (.t 12)]),mv 7 13,ex 14 7 0,ex 15 7 1,mv 5 14,mv 6 15] (some [5, 6])) (.seq (.seq (.ops [mv 16 6] (some [5, 16])) (.cond (.t 16) (.ops [mv 17 5,op 18 (.bin .add 3 (.t 17) (ic 1)),mv 5 18] (some [5])) .skip)) (.seq (.ops [mv 19 5,mv 4 19] (some [4])) .ret)))), [.tmp 4]⟩

theorem is151 : FnIs Tryz.prog 151 x151 := ⟨Tryz.f151, _, Tryz.func151, by kernel_rfl, rfl, by kernel_rfl, by decide, by kernel_rfl⟩

def x152 : XDecl := .code ⟨3,  (.seq (.ops [op 6 (.move (.c (.string .empty))),op 7 (.move (ic 0)),op 8 (.move (.c (.bool false)))] (some [0, 1, 2])) (.seq (.ops [mv 12 0,nc 13 12,fa 14 0 13,ld 15 1 14,mv 16 1,op 17 (.indexAddr 3 (.t 15) (.t 16)),mv 9 17] (some [0, 2, 9])) (.seq (.block 0 (.loop (.seq (.seq (.ops [mv 18 9,op 19 (cl 145 [(.t 18)]),op 20 (.un .not (.t 19))] (some [0, 2, 9, 20])) (.cond (.t 20) .skip (.exit 0))) (.block 1 (.seq (.ops [op 10 (.move (ic 0))] (some [0, 2, 9, 10])) (.seq (.seq (.ops [mv 21 2] (some [0, 2, 9, 10, 21])) (.cond (.t 21) (.ops [mv 22 9,nc 23 22,fa 24 2 23,ld 25 1 24,op 26 (.len (.t 25)),op 27 (.bin .sub 3 (.t 26) (ic 1)),mv 10 27] (some [0, 2, 9, 10])) .skip)) (.opsr [mv 28 0,nc 29 28,fa 30 0 29,ld 31 1 30,mv 32 9,nc 33 32,fa 34 2 33,ld 35 1 34,mv 36 10,op 37 (.indexAddr 1 (.t 35) (.t 36)),ld 38 1 37,op 39 (.indexAddr 3 (.t 31) (.t 38)),mv 9 39] (some [0, 2, 9])))))))) (.seq (.ops [op 11 (.move (ic 0))] (some [2, 9, 11])) (.seq (.seq (.ops [mv 40 2] (some [9, 11, 40])) (.cond (.t 40) (.ops [mv 41 9,nc 42 41,fa 43 0 42,ld 44 1 43,op 45 (.len (.t 44)),op 46 (.bin .sub 3 (.t 45) (ic 1)),mv 11 46] (some [9, 11])) .skip)) (.seq (.opsr [mv 47 9,nc 48 47,fa 49 0 48,ld 50 1 49,mv 51 11,op 52 (.indexAddr 1 (.t 50) (.t 51)),ld 53 1 52,mv 54 9,nc 55 54,fa 56 1 55,ld 57 1 56,mv 58 11,op 59 (.indexAddr 1 (.t 57) (.t 58)),ld 60 1 59,mv 6 53,mv 7 60,op 8 (.move (.c (.bool true)))] (some [6, 7, 8])) .ret)))))), [.tmp 6, .tmp 7, .tmp 8]⟩

theorem is152 : FnIs Tryz.prog 152 x152 := ⟨Tryz.f152, _, Tryz.func152, by kernel_rfl, rfl, by kernel_rfl, by decide, by kernel_rfl⟩

def x153 : XDecl := .code ⟨1,  (.seq (.ops [op 2 (.move (.c (.bool false)))] (some [0])) (.seq (.ops [mv 3 0,mv 4 0,ib 5 .neq 152 3 4,mv 2 5] (some [2])) .ret)), [.tmp 2]⟩

theorem is153 : FnIs Tryz.prog 153 x153 := ⟨Tryz.f153, _, Tryz.func153, by kernel_rfl, rfl, by kernel_rfl, by decide, by kernel_rfl⟩

def x157 : XDecl := .code ⟨1,  (.seq (.ops [op 2 (.move (.c (.bool false))),op 3 (.move (.c (.int .u64 0))),op 4 (.move (.c (.int .u64 0)))] (some [0])) (.seq (.ops [mv 6 0,op 7 (cl 126 [(.t 6)]),mv 5 7] (some [5])) (.seq (.ops [mv 8 5,op 9 (.bin .geq 34 (.t 8) (.c (.int .u64 9223372036854775808))),mv 10 5,op 11 (.bin .quo 34 (.t 10) (.c (.int .u64 4503599627370496))),op 12 (.bin .rem 34 (.t 11) (.c (.int .u64 2048))),mv 13 5,op 14 (.bin .rem 34 (.t 13) (.c (.int .u64 4503599627370496))),mv 2 9,mv 3 12,mv 4 14] (some [2, 3, 4])) .ret))), [.tmp 2, .tmp 3, .tmp 4]⟩

theorem is157 : FnIs Tryz.prog 157 x157 := ⟨Tryz.f157, _, Tryz.func157, by kernel_rfl, rfl, by kernel_rfl, by decide, by kernel_rfl⟩

def x158 : XDecl := .code ⟨3,  (.seq (.ops [op 3 (.box (.t 0)),op 6 (.move (.c (.string .empty))),op 7 (.alloc [(.bool false), (.string .empty), (.int .u64 0)]),op 8 (.move (.c (.bool false))),op 9 (.move (.c (.bool false)))] (some [1, 2, 3, 7])) (.seq (.seq (.ops [mv 16 2] (some [1, 3, 7, 16])) (.cond (.t 16) (.seq (.ops [fa 18 0 3,ld 19 1 18,mv 20 1,fa 21 1 3,ld 22 1 21,op 23 (cl 19 [(.t 19), (.t 20), (.t 22)]),mv 17 23,ex 24 17 0,ex 25 17 1,ex 26 17 2,op 11 (.alloc [(.bool false), (.string .empty), (.int .u64 0)]),mv 10 24,st 3 11 25,mv 12 26] (some [7, 10, 11, 12])) (.seq (.opsd [(0, 0, mv 27 10),(1, 0, op 28 (.load true 3 (.t 11))),(2, 0, mv 29 12),(3, 1, mv 6 27),(4, 11, st 3 7 28),(5, 27, op 8 (.move (.c (.bool true)))),(6, 63, mv 9 29)] (some [6, 7, 8, 9])) .ret)) .skip)) (.seq (.ops [fa 31 0 3,ld 32 1 31,mv 33 1,fa 34 1 3,ld 35 1 34,op 36 (cl 89 [(.t 32), (.t 33), (.t 35)]),mv 30 36,ex 37 30 0,ex 38 30 1,ex 39 30 2,op 14 (.alloc [(.bool false), (.string .empty), (.int .u64 0)]),mv 13 37,st 3 14 38,mv 15 39] (some [7, 13, 14, 15])) (.seq (.opsd [(0, 0, mv 40 13),(1, 0, op 41 (.load true 3 (.t 14))),(2, 0, mv 42 15),(3, 1, mv 6 40),(4, 11, st 3 7 41),(5, 27, op 8 (.move (.c (.bool true)))),(6, 63, mv 9 42)] (some [6, 7, 8, 9])) .ret)))), [.tmp 6, .cell true 3 7, .tmp 8, .tmp 9]⟩

theorem is158 : FnIs Tryz.prog 158 x158 := ⟨Tryz.f158, _, Tryz.func158, by kernel_rfl, rfl, by kernel_rfl, by decide, by kernel_rfl⟩

def x159 : XDecl := .code ⟨2,  (.seq (.ops [op 2 (.box (.t 0)),op 3 (.box (.t 1)),op 4 (.move (.c .nilFunc))] (some [2, 3])) (.seq (.ops [op 5 (.makeFunc (.func 179) [] [(.t 2), (.t 3)]),mv 4 5] (some [4])) .ret)), [.tmp 4]⟩

theorem is159 : FnIs Tryz.prog 159 x159 := ⟨Tryz.f159, _, Tryz.func159, by kernel_rfl, rfl, by kernel_rfl, by decide, by kernel_rfl⟩

def x160 : XDecl := .code ⟨3,  (.seq (.ops [op 6 (.move (.c (.string .empty))),op 7 (.alloc [(.bool false), (.string .empty), (.int .u64 0)]),op 8 (.move (.c (.bool false))),op 9 (.move (.c (.bool false)))] (some [0, 1, 2, 7])) (.seq (.ops [mv 13 0,nc 14 13,fa 15 4 14,ld 16 1 15,mv 17 1,op 18 (cl 180 [(.t 16), (.t 17)]),mv 12 18,ex 19 12 0,ex 20 12 1,op 10 (.alloc [(.string .empty), (.bool false), (.bool false), (.string .empty), (.int .u64 0)]),st 5 10 19,mv 11 20] (some [0, 1, 2, 7, 10, 11])) (.seq (.seq (.ops [mv 21 2] (some [0, 1, 7, 10, 11, 21])) (.cond (.t 21) (.ops [mv 23 0,nc 24 23,fa 25 4 24,ld 26 1 25,mv 27 1,op 28 (cl 181 [(.t 26), (.t 27)]),mv 22 28,ex 29 22 0,ex 30 22 1,st 5 10 29,mv 11 30] (some [7, 10, 11])) .skip)) (.seq (.opsd [(0, 0, fa 31 0 10),(1, 1, ld 32 1 31),(2, 0, fa 33 2 10),(3, 4, op 34 (.load true 3 (.t 33))),(4, 0, fa 35 1 10),(5, 16, ld 36 1 35),(6, 48, op 37 (.un .not (.t 36))),(7, 0, mv 38 11),(8, 3, mv 6 32),(9, 271, st 3 7 34),(10, 895, mv 8 37),(11, 2047, mv 9 38)] (some [6, 7, 8, 9])) .ret)))), [.tmp 6, .cell true 3 7, .tmp 8, .tmp 9]⟩

theorem is160 : FnIs Tryz.prog 160 x160 := ⟨Tryz.f160, _, Tryz.func160, by kernel_rfl, rfl, by kernel_rfl, by decide, by kernel_rfl⟩

def x161 : XDecl := .code ⟨2,  (.seq (.ops [op 4 (.move (ic 0))] (some [0, 1])) (.seq (.ops [mv 5 0,mv 6 1,op 7 (cl 182 [(.t 5), (.t 6)]),mv 4 7] (some [4])) .ret)), [.tmp 4]⟩

theorem is161 : FnIs Tryz.prog 161 x161 := ⟨Tryz.f161, _, Tryz.func161, by kernel_rfl, rfl, by kernel_rfl, by decide, by kernel_rfl⟩

def x162 : XDecl := .code ⟨1,  (.seq (.ops [op 2 (.move (.c (.bool false)))] (some [0])) (.seq (.ops [mv 3 0,mv 4 0,ib 5 .neq 3 3 4,mv 2 5] (some [2])) .ret)), [.tmp 2]⟩

theorem is162 : FnIs Tryz.prog 162 x162 := ⟨Tryz.f162, _, Tryz.func162, by kernel_rfl, rfl, by kernel_rfl, by decide, by kernel_rfl⟩

def x163 : XDecl := .code ⟨2,  (.seq (.ops [op 4 (.move (ic 0)),op 5 (.move (.c (.bool false)))] (some [0, 1])) (.seq (.ops [mv 6 0,nc 7 6,fa 8 0 7,ld 9 1 8,mv 10 1,op 11 (cl 183 [(.t 9), (.t 10), (.c (.func (.func 184) #[] #[]))]),ex 12 11 0,ex 13 11 1,mv 4 12,mv 5 13] (some [4, 5])) .ret)), [.tmp 4, .tmp 5]⟩

theorem is163 : FnIs Tryz.prog 163 x163 := ⟨Tryz.f163, _, Tryz.func163, by kernel_rfl, rfl, by kernel_rfl, by decide, by kernel_rfl⟩

def x167 : XDecl := .code ⟨1,  (.seq (.ops [op 2 (.move (.c (.string .empty)))] (some [0])) (.seq (.ops [op 3 (.alloc [(.int .u8 0), (.int .u8 0), (.int .u8 0), (.int .u8 0), (.int .u8 0), (.int .u8 0), (.int .u8 0), (.int .u8 0)])] (some [0, 3])) (.seq (.ops [mv 6 0,op 7 (cl 187 [(.t 6)]),mv 4 7] (some [3, 4])) (.seq (.seq (.ops [op 8 (.move (ic 0))] (some [3, 4, 8])) (.block 0 (.loop (.seq (.ops [op 9 (.bin .lss 3 (.t 8) (ic 8))] (some [3, 4, 8, 9])) (.seq (.cond (.t 9) .skip (.exit 0)) (.seq (.block 1 (.seq (.ops [mv 10 8,mv 5 10] (some [3, 4, 5, 8])) (.ops [mv 11 5,mv 12 4,mv 13 5,op 14 (.bin .sub 3 (ic 7) (.t 13)),op 15 (.bin .mul 3 (ic 8) (.t 14)),ib 16 .shr 34 12 15,op 17 (.conv 34 5 (.t 16)),op 18 (.indexAddrArr 8 1 (.t 3) (.t 11)),st 1 18 17] (some [3, 4, 8])))) (.ops [op 19 (.bin .add 3 (.t 8) (ic 1)),mv 8 19] (some [3, 4, 8])))))))) (.seq (.ops [op 20 (.arrSlice 8 (.t 3)),op 21 (.bstr (.t 20)),mv 2 21] (some [2])) .ret))))), [.tmp 2]⟩

theorem is167 : FnIs Tryz.prog 167 x167 := ⟨Tryz.f167, _, Tryz.func167, by kernel_rfl, rfl, by kernel_rfl, by decide, by kernel_rfl⟩

def x168 : XDecl := .code ⟨3,  (.seq (.ops [op 6 (.move (.c (.slice none 0 0)))] (some [0, 1, 2])) (.seq (.ops [mv 8 0,mv 9 1,mv 10 2,mv 11 0,op 12 (.len (.t 11)),op 13 (.slice 1 (.t 8) (some (.t 9)) (some (.t 10)) (some (.t 12)))] (some [0, 1, 2])) (.seq (.seq (.ops [mv 14 1,mv 15 2,ib 16 .eql 3 14 15] (some [0, 1, 2, 16])) (.cond (.t 16) (.seq (.ops [mv 17 0,mv 6 17] (some [6])) .ret) .skip)) (.seq (.ops [mv 18 0,op 19 (.len (.t 18)),mv 7 19] (some [0, 1, 2, 7])) (.seq (.opsd [(0, 0, mv 20 0),(1, 0, mv 21 1),(2, 3, op 22 (.slice 1 (.t 20) none (some (.t 21)) none)),(3, 0, mv 23 0),(4, 0, mv 24 2),(5, 24, op 25 (.slice 1 (.t 23) (some (.t 24)) none none)),(6, 63, op 26 (.append 1 16 [(.string .empty)] (.t 22) (.t 25))),(7, 127, mv 0 26)] (some [0, 7])) (.seq (.ops [mv 27 0,mv 28 0,op 29 (.len (.t 28)),mv 30 7,op 31 (.slice 1 (.t 27) (some (.t 29)) (some (.t 30)) none),sd (.clear [(.string .empty)] (.t 31))] (some [0])) (.seq (.ops [mv 32 0,mv 6 32] (some [6])) .ret))))))), [.tmp 6]⟩

theorem is168 : FnIs Tryz.prog 168 x168 := ⟨Tryz.f168, _, Tryz.func168, by kernel_rfl, rfl, by kernel_rfl, by decide, by kernel_rfl⟩

def x169 : XDecl := .code ⟨3,  (.seq (.ops [op 6 (.move (.c (.slice none 0 0)))] (some [0, 1, 2])) (.seq (.ops [mv 8 0,mv 9 1,mv 10 2,mv 11 0,op 12 (.len (.t 11)),op 13 (.slice 1 (.t 8) (some (.t 9)) (some (.t 10)) (some (.t 12)))] (some [0, 1, 2])) (.seq (.seq (.ops [mv 14 1,mv 15 2,ib 16 .eql 3 14 15] (some [0, 1, 2, 16])) (.cond (.t 16) (.seq (.ops [mv 17 0,mv 6 17] (some [6])) .ret) .skip)) (.seq (.ops [mv 18 0,op 19 (.len (.t 18)),mv 7 19] (some [0, 1, 2, 7])) (.seq (.opsd [(0, 0, mv 20 0),(1, 0, mv 21 1),(2, 3, op 22 (.slice 1 (.t 20) none (some (.t 21)) none)),(3, 0, mv 23 0),(4, 0, mv 24 2),(5, 24, op 25 (.slice 1 (.t 23) (some (.t 24)) none none)),(6, 63, op 26 (.append 1 8 [(.int .i64 0)] (.t 22) (.t 25))),(7, 127, mv 0 26)] (some [0, 7])) (.seq (.ops [mv 27 0,mv 28 0,op 29 (.len (.t 28)),mv 30 7,op 31 (.slice 1 (.t 27) (some (.t 29)) (some (.t 30)) none),sd (.clear [(.int .i64 0)] (.t 31))] (some [0])) (.seq (.ops [mv 32 0,mv 6 32] (some [6])) .ret))))))), [.tmp 6]⟩

theorem is169 : FnIs Tryz.prog 169 x169 := ⟨Tryz.f169, _, Tryz.func169, by kernel_rfl, rfl, by kernel_rfl, by decide, by kernel_rfl⟩

def x170 : XDecl := .code ⟨3,  (.seq (.opsr [mv 12 0,nc 13 12,fa 14 0 13,ld 15 1 14,mv 16 1,nc 17 16,fa 18 2 17,ld 19 1 18,mv 20 2,op 21 (.bin .sub 3 (.t 20) (ic 1)),op 22 (.indexAddr 1 (.t 19) (.t 21)),ld 23 1 22,op 24 (.indexAddr 3 (.t 15) (.t 23)),mv 25 0,nc 26 25,fa 27 0 26,ld 28 1 27,mv 29 1,nc 30 29,fa 31 2 30,ld 32 1 31,mv 33 2,op 34 (.indexAddr 1 (.t 32) (.t 33)),ld 35 1 34,op 36 (.indexAddr 3 (.t 28) (.t 35)),mv 6 24,mv 7 36] (some [0, 1, 2, 6, 7])) (.seq (.seq (.ops [mv 37 6,op 38 (cl 148 [(.t 37)]),mv 39 7,op 40 (cl 148 [(.t 39)]),ib 41 .add 3 38 40,op 42 (.bin .leq 3 (.t 41) (ic 4))] (some [0, 1, 2, 6, 7, 42])) (.cond (.t 42) (.seq (.ops [mv 43 0,mv 44 1,mv 45 2,op 46 (cl 188 [(.t 43), (.t 44), (.t 45)])] (some [])) .ret) .skip)) (.seq (.seq (.ops [mv 47 6,op 48 (cl 145 [(.t 47)]),op 49 (.un .not (.t 48))] (some [1, 2, 6, 7, 49])) (.cond (.t 49) (.opsd [(0, 0, mv 50 6),(1, 0, mv 51 6),(2, 2, nc 52 51),(3, 6, fa 53 0 52),(4, 14, ld 54 1 53),(5, 0, mv 55 1),(6, 32, nc 56 55),(7, 96, fa 57 0 56),(8, 224, ld 58 1 57),(9, 0, mv 59 2),(10, 512, op 60 (.bin .sub 3 (.t 59) (ic 1))),(11, 2016, op 61 (.indexAddr 1 (.t 58) (.t 60))),(12, 4064, ld 62 1 61),(13, 8160, op 63 (.buildSlice [(.string .empty)] 1 1 [(0, (.t 62))])),(14, 16382, op 64 (.append 1 16 [(.string .empty)] (.t 54) (.t 63))),(15, 32767, nc 65 50),(16, 65535, fa 66 0 65),(17, 131071, st 1 66 64)] (some [1, 2, 6, 7])) .skip)) (.seq (.opsd [(0, 0, mv 67 6),(1, 1, nc 68 67),(2, 3, fa 69 0 68),(3, 7, ld 70 1 69),(4, 0, mv 71 7),(5, 16, nc 72 71),(6, 48, fa 73 0 72),(7, 112, ld 74 1 73),(8, 255, op 75 (.buildSlice [(.slice none 0 0)] 1 2 [(0, (.t 70)), (1, (.t 74))])),(9, 511, op 76 (cl 189 [(.t 75)])),(10, 1023, mv 8 76)] (some [1, 2, 6, 7, 8])) (.seq (.opsd [(0, 0, mv 77 6),(1, 1, nc 78 77),(2, 3, fa 79 1 78),(3, 7, ld 80 1 79),(4, 0, mv 81 7),(5, 16, nc 82 81),(6, 48, fa 83 1 82),(7, 112, ld 84 1 83),(8, 255, op 85 (.buildSlice [(.slice none 0 0)] 1 2 [(0, (.t 80)), (1, (.t 84))])),(10, 0, mv 87 6),(11, 1024, nc 88 87),(12, 3072, fa 89 2 88),(13, 7168, ld 90 1 89),(14, 0, mv 91 7),(15, 16384, nc 92 91),(16, 49152, fa 93 2 92),(17, 114688, ld 94 1 93),(18, 261120, op 95 (.buildSlice [(.slice none 0 0)] 1 2 [(0, (.t 90)), (1, (.t 94))])),(9, 511, op 86 (cl 190 [(.t 85)])),(19, 524287, op 96 (cl 190 [(.t 95)])),(20, 1048575, mv 9 86),(21, 2097151, mv 10 96)] (some [1, 2, 6, 7, 8, 9, 10])) (.seq (.ops [mv 97 6,op 98 (cl 148 [(.t 97)]),mv 99 7,op 100 (cl 148 [(.t 99)]),ib 101 .add 3 98 100,op 102 (.bin .quo 3 (.t 101) (ic 2)),mv 11 102] (some [1, 2, 6, 7, 8, 9, 10, 11])) (.seq (.seq (.ops [mv 103 6,op 104 (cl 145 [(.t 103)])] (some [1, 2, 6, 7, 8, 9, 10, 11, 104])) (.cond (.t 104) (.seq (.opsd [(0, 0, mv 105 6),(1, 0, mv 106 8),(2, 0, mv 107 11),(3, 6, op 108 (.slice 1 (.t 106) none (some (.t 107)) none)),(5, 0, mv 110 9),(6, 0, mv 111 11),(7, 96, op 112 (.slice 1 (.t 110) none (some (.t 111)) none)),(4, 14, op 109 (cl 173 [(.t 108)])),(8, 254, op 113 (cl 174 [(.t 112)])),(9, 510, op 114 (.build [(.slice none 0 0), (.slice none 0 0), (.slice none 0 0)] [(0, 1), (1, 1), (2, 1)] [(0, (.t 109)), (1, (.t 113))])),(10, 1023, nc 115 105),(11, 2047, st 3 115 114)] (some [1, 2, 7, 8, 9, 11])) (.seq (.opsd [(0, 0, mv 116 7),(1, 0, mv 117 8),(2, 0, mv 118 11),(3, 6, op 119 (.slice 1 (.t 117) (some (.t 118)) none none)),(5, 0, mv 121 9),(6, 0, mv 122 11),(7, 96, op 123 (.slice 1 (.t 121) (some (.t 122)) none none)),(4, 14, op 120 (cl 173 [(.t 119)])),(8, 254, op 124 (cl 174 [(.t 123)])),(9, 510, op 125 (.build [(.slice none 0 0), (.slice none 0 0), (.slice none 0 0)] [(0, 1), (1, 1), (2, 1)] [(0, (.t 120)), (1, (.t 124))])),(10, 1023, nc 126 116),(11, 2047, st 3 126 125)] (some [1, 2, 8, 11])) (.seq (.opsd [(0, 0, mv 127 1),(1, 1, nc 128 127),(2, 3, fa 129 0 128),(3, 7, ld 130 1 129),(4, 0, mv 131 2),(5, 16, op 132 (.bin .sub 3 (.t 131) (ic 1))),(6, 0, mv 133 8),(7, 0, mv 134 11),(8, 192, op 135 (.indexAddr 1 (.t 133) (.t 134))),(9, 448, ld 136 1 135),(10, 1023, op 137 (.indexAddr 1 (.t 130) (.t 132))),(11, 2047, st 1 137 136)] (some [])) .ret))) .skip)) (.seq (.opsd [(0, 0, mv 138 6),(1, 0, mv 139 8),(2, 0, mv 140 11),(3, 4, op 141 (.bin .sub 3 (.t 140) (ic 1))),(4, 14, op 142 (.slice 1 (.t 139) none (some (.t 141)) none)),(6, 0, mv 144 10),(7, 0, mv 145 11),(8, 192, op 146 (.slice 1 (.t 144) none (some (.t 145)) none)),(5, 30, op 143 (cl 173 [(.t 142)])),(9, 510, op 147 (cl 174 [(.t 146)])),(10, 1022, op 148 (.build [(.slice none 0 0), (.slice none 0 0), (.slice none 0 0)] [(0, 1), (1, 1), (2, 1)] [(0, (.t 143)), (2, (.t 147))])),(11, 2047, nc 149 138),(12, 4095, st 3 149 148)] (some [1, 2, 7, 8, 10, 11])) (.seq (.opsd [(0, 0, mv 150 7),(1, 0, mv 151 8),(2, 0, mv 152 11),(3, 6, op 153 (.slice 1 (.t 151) (some (.t 152)) none none)),(5, 0, mv 155 10),(6, 0, mv 156 11),(7, 96, op 157 (.slice 1 (.t 155) (some (.t 156)) none none)),(4, 14, op 154 (cl 173 [(.t 153)])),(8, 254, op 158 (cl 174 [(.t 157)])),(9, 510, op 159 (.build [(.slice none 0 0), (.slice none 0 0), (.slice none 0 0)] [(0, 1), (1, 1), (2, 1)] [(0, (.t 154)), (2, (.t 158))])),(10, 1023, nc 160 150),(11, 2047, st 3 160 159)] (some [1, 2, 8, 11])) (.opsd [(0, 0, mv 161 1),(1, 1, nc 162 161),(2, 3, fa 163 0 162),(3, 7, ld 164 1 163),(4, 0, mv 165 2),(5, 16, op 166 (.bin .sub 3 (.t 165) (ic 1))),(6, 0, mv 167 8),(7, 0, mv 168 11),(8, 128, op 169 (.bin .sub 3 (.t 168) (ic 1))),(9, 448, op 170 (.indexAddr 1 (.t 167) (.t 169))),(10, 960, ld 171 1 170),(11, 2047, op 172 (.indexAddr 1 (.t 164) (.t 166))),(12, 4095, st 1 172 171)] (some []))))))))))), []⟩

theorem is170 : FnIs Tryz.prog 170 x170 := ⟨Tryz.f170, _, Tryz.func170, by kernel_rfl, rfl, by kernel_rfl, by decide, by kernel_rfl⟩

def x171 : XDecl := .code ⟨3,  (.seq (.ops [op 6 (.move (.c (.slice none 0 0)))] (some [0, 1, 2])) (.seq (.ops [mv 10 0,mv 11 1,op 12 (.slice 1 (.t 10) (some (.t 11)) none none)] (some [0, 1, 2])) (.seq (.ops [mv 13 2,op 14 (.len (.t 13)),mv 7 14] (some [0, 1, 2, 7])) (.seq (.seq (.ops [mv 15 7,op 16 (.bin .eql 3 (.t 15) (ic 0))] (some [0, 1, 2, 7, 16])) (.cond (.t 16) (.seq (.ops [mv 17 0,mv 6 17] (some [6])) .ret) .skip)) (.seq (.ops [mv 18 0,op 19 (.len (.t 18)),mv 8 19] (some [0, 1, 2, 7, 8])) (.seq (.seq (.ops [mv 20 1,mv 21 8,ib 22 .eql 3 20 21] (some [0, 1, 2, 7, 8, 22])) (.cond (.t 22) (.seq (.ops [mv 23 0,mv 24 2,op 25 (.append 1 16 [(.string .empty)] (.t 23) (.t 24)),mv 6 25] (some [6])) .ret) .skip)) (.seq (.seq (.ops [mv 26 8,mv 27 7,ib 28 .add 3 26 27,mv 29 0,op 30 (.cap (.t 29)),ib 31 .gtr 3 28 30] (some [0, 1, 2, 7, 8, 31])) (.cond (.t 31) (.seq (.ops [mv 32 0,mv 33 1,op 34 (.slice 1 (.t 32) none (some (.t 33)) none),mv 35 8,mv 36 7,ib 37 .add 3 35 36,mv 38 1,ib 39 .sub 3 37 38,op 40 (.appendZeros 1 16 [(.string .empty)] (.t 34) (.t 39)),mv 9 40] (some [0, 1, 2, 7, 9])) (.seq (.ops [mv 41 9,mv 42 1,op 43 (.slice 1 (.t 41) (some (.t 42)) none none),mv 44 2,op 45 (.copy 1 (.t 43) (.t 44))] (some [0, 1, 7, 9])) (.seq (.opsd [(0, 0, mv 46 9),(1, 0, mv 47 1),(2, 0, mv 48 7),(3, 6, ib 49 .add 3 47 48),(4, 15, op 50 (.slice 1 (.t 46) (some (.t 49)) none none)),(5, 0, mv 51 0),(6, 0, mv 52 1),(7, 96, op 53 (.slice 1 (.t 51) (some (.t 52)) none none)),(8, 255, op 54 (.copy 1 (.t 50) (.t 53)))] (some [9])) (.seq (.ops [mv 55 9,mv 6 55] (some [6])) .ret)))) .skip)) (.seq (.ops [mv 56 0,mv 57 8,mv 58 7,ib 59 .add 3 57 58,op 60 (.slice 1 (.t 56) none (some (.t 59)) none),mv 0 60] (some [0, 1, 2, 7, 8])) (.seq (.seq (.ops [mv 61 2,mv 62 0,mv 63 1,mv 64 7,ib 65 .add 3 63 64,op 66 (.slice 1 (.t 62) (some (.t 65)) none none),op 67 (cl 191 [(.t 61), (.t 66)]),op 68 (.un .not (.t 67))] (some [0, 1, 2, 7, 8, 68])) (.cond (.t 68) (.seq (.opsd [(0, 0, mv 69 0),(1, 0, mv 70 1),(2, 0, mv 71 7),(3, 6, ib 72 .add 3 70 71),(4, 15, op 73 (.slice 1 (.t 69) (some (.t 72)) none none)),(5, 0, mv 74 0),(6, 0, mv 75 1),(7, 96, op 76 (.slice 1 (.t 74) (some (.t 75)) none none)),(8, 255, op 77 (.copy 1 (.t 73) (.t 76)))] (some [0, 1, 2])) (.seq (.ops [mv 78 0,mv 79 1,op 80 (.slice 1 (.t 78) (some (.t 79)) none none),mv 81 2,op 82 (.copy 1 (.t 80) (.t 81))] (some [0])) (.seq (.ops [mv 83 0,mv 6 83] (some [6])) .ret))) .skip)) (.seq (.ops [mv 84 0,mv 85 8,op 86 (.slice 1 (.t 84) (some (.t 85)) none none),mv 87 2,op 88 (.copy 1 (.t 86) (.t 87))] (some [0, 1, 7])) (.seq (.ops [mv 89 0,mv 90 1,op 91 (.slice 1 (.t 89) (some (.t 90)) none none),mv 92 7,op 93 (cl 192 [(.t 91), (.t 92)])] (some [0])) (.seq (.ops [mv 94 0,mv 6 94] (some [6])) .ret)))))))))))), [.tmp 6]⟩

theorem is171 : FnIs Tryz.prog 171 x171 := ⟨Tryz.f171, _, Tryz.func171, by kernel_rfl, rfl, by kernel_rfl, by decide, by kernel_rfl⟩

def x172 : XDecl := .code ⟨3,  (.seq (.ops [op 6 (.move (.c (.slice none 0 0)))] (some [0, 1, 2])) (.seq (.ops [mv 10 0,mv 11 1,op 12 (.slice 1 (.t 10) (some (.t 11)) none none)] (some [0, 1, 2])) (.seq (.ops [mv 13 2,op 14 (.len (.t 13)),mv 7 14] (some [0, 1, 2, 7])) (.seq (.seq (.ops [mv 15 7,op 16 (.bin .eql 3 (.t 15) (ic 0))] (some [0, 1, 2, 7, 16])) (.cond (.t 16) (.seq (.ops [mv 17 0,mv 6 17] (some [6])) .ret) .skip)) (.seq (.ops [mv 18 0,op 19 (.len (.t 18)),mv 8 19] (some [0, 1, 2, 7, 8])) (.seq (.seq (.ops [mv 20 1,mv 21 8,ib 22 .eql 3 20 21] (some [0, 1, 2, 7, 8, 22])) (.cond (.t 22) (.seq (.ops [mv 23 0,mv 24 2,op 25 (.append 1 8 [(.int .i64 0)] (.t 23) (.t 24)),mv 6 25] (some [6])) .ret) .skip)) (.seq (.seq (.ops [mv 26 8,mv 27 7,ib 28 .add 3 26 27,mv 29 0,op 30 (.cap (.t 29)),ib 31 .gtr 3 28 30] (some [0, 1, 2, 7, 8, 31])) (.cond (.t 31) (.seq (.ops [mv 32 0,mv 33 1,op 34 (.slice 1 (.t 32) none (some (.t 33)) none),mv 35 8,mv 36 7,ib 37 .add 3 35 36,mv 38 1,ib 39 .sub 3 37 38,op 40 (.appendZeros 1 8 [(.int .i64 0)] (.t 34) (.t 39)),mv 9 40] (some [0, 1, 2, 7, 9])) (.seq (.ops [mv 41 9,mv 42 1,op 43 (.slice 1 (.t 41) (some (.t 42)) none none),mv 44 2,op 45 (.copy 1 (.t 43) (.t 44))] (some [0, 1, 7, 9])) (.seq (.opsd [(0, 0, mv 46 9),(1, 0, mv 47 1),(2, 0, mv 48 7),(3, 6, ib 49 .add 3 47 48),(4, 15, op 50 (.slice 1 (.t 46) (some (.t 49)) none none)),(5, 0, mv 51 0),(6, 0, mv 52 1),(7, 96, op 53 (.slice 1 (.t 51) (some (.t 52)) none none)),(8, 255, op 54 (.copy 1 (.t 50) (.t 53)))] (some [9])) (.seq (.ops [mv 55 9,mv 6 55] (some [6])) .ret)))) .skip)) (.seq (.ops [mv 56 0,mv 57 8,mv 58 7,ib 59 .add 3 57 58,op 60 (.slice 1 (.t 56) none (some (.t 59)) none),mv 0 60] (some [0, 1, 2, 7, 8])) (.seq (.seq (.ops [mv 61 2,mv 62 0,mv 63 1,mv 64 7,ib 65 .add 3 63 64,op 66 (.slice 1 (.t 62) (some (.t 65)) none none),op 67 (cl 193 [(.t 61), (.t 66)]),op 68 (.un .not (.t 67))] (some [0, 1, 2, 7, 8, 68])) (.cond (.t 68) (.seq (.opsd [(0, 0, mv 69 0),(1, 0, mv 70 1),(2, 0, mv 71 7),(3, 6, ib 72 .add 3 70 71),(4, 15, op 73 (.slice 1 (.t 69) (some (.t 72)) none none)),(5, 0, mv 74 0),(6, 0, mv 75 1),(7, 96, op 76 (.slice 1 (.t 74) (some (.t 75)) none none)),(8, 255, op 77 (.copy 1 (.t 73) (.t 76)))] (some [0, 1, 2])) (.seq (.ops [mv 78 0,mv 79 1,op 80 (.slice 1 (.t 78) (some (.t 79)) none none),mv 81 2,op 82 (.copy 1 (.t 80) (.t 81))] (some [0])) (.seq (.ops [mv 83 0,mv 6 83] (some [6])) .ret))) .skip)) (.seq (.ops [mv 84 0,mv 85 8,op 86 (.slice 1 (.t 84) (some (.t 85)) none none),mv 87 2,op 88 (.copy 1 (.t 86) (.t 87))] (some [0, 1, 7])) (.seq (.ops [mv 89 0,mv 90 1,op 91 (.slice 1 (.t 89) (some (.t 90)) none none),mv 92 7,op 93 (cl 194 [(.t 91), (.t 92)])] (some [0])) (.seq (.ops [mv 94 0,mv 6 94] (some [6])) .ret)))))))))))), [.tmp 6]⟩

theorem is172 : FnIs Tryz.prog 172 x172 := ⟨Tryz.f172, _, Tryz.func172, by kernel_rfl, rfl, by kernel_rfl, by decide, by kernel_rfl⟩

def x173 : XDecl := .code ⟨1,  (.seq (.ops [op 2 (.move (.c (.slice none 0 0)))] (some [0])) (.seq (.seq (.ops [mv 3 0,op 4 (.isNil .slice false (.t 3))] (some [0, 4])) (.cond (.t 4) (.seq (.ops [op 2 (.move (.c (.slice none 0 0)))] (some [2])) .ret) .skip)) (.seq (.ops [op 5 (.buildSlice [(.string .empty)] 1 0 []),mv 6 0,op 7 (.append 1 16 [(.string .empty)] (.t 5) (.t 6)),mv 2 7] (some [2])) .ret))), [.tmp 2]⟩

theorem is173 : FnIs Tryz.prog 173 x173 := ⟨Tryz.f173, _, Tryz.func173, by kernel_rfl, rfl, by kernel_rfl, by decide, by kernel_rfl⟩

def x174 : XDecl := .code ⟨1,  (.seq (.ops [op 2 (.move (.c (.slice none 0 0)))] (some [0])) (.seq (.seq (.ops [mv 3 0,op 4 (.isNil .slice false (.t 3))] (some [0, 4])) (.cond (.t 4) (.seq (.ops [op 2 (.move (.c (.slice none 0 0)))] (some [2])) .ret) .skip)) (.seq (.ops [op 5 (.buildSlice [(.int .i64 0)] 1 0 []),mv 6 0,op 7 (.append 1 8 [(.int .i64 0)] (.t 5) (.t 6)),mv 2 7] (some [2])) .ret))), [.tmp 2]⟩

theorem is174 : FnIs Tryz.prog 174 x174 := ⟨Tryz.f174, _, Tryz.func174, by kernel_rfl, rfl, by kernel_rfl, by decide, by kernel_rfl⟩

def x175 : XDecl := .code ⟨2,  (.seq (.ops [op 4 (.move (.c (.bool false)))] (some [0, 1])) (.seq (.ops [mv 5 0,op 6 (cl 195 [(.t 5)]),mv 7 6,og 8 7 (.move (.t 1)),og 9 7 (cl 195 [(.t 8)]),og 10 7 (.un .not (.t 9)),op 11 (.pick (.t 7) (.t 10) (.c (.bool false))),mv 12 11,on 13 12 (.move (.t 0)),on 14 12 (.move (.t 1)),on 15 12 (.bin .lss 9 (.t 13) (.t 14)),op 16 (.pick (.t 12) (.c (.bool true)) (.t 15)),mv 4 16] (some [4])) .ret)), [.tmp 4]⟩

theorem is175 : FnIs Tryz.prog 175 x175 := ⟨Tryz.f175, _, Tryz.func175, by kernel_rfl, rfl, by kernel_rfl, by decide, by kernel_rfl⟩

def x176 : XDecl := .code ⟨1,  (.seq (.ops [op 2 (.move (.c (.bool false)))] (some [0])) (.seq (.ops [mv 3 0,mv 4 0,ib 5 .neq 9 3 4,mv 2 5] (some [2])) .ret)), [.tmp 2]⟩

theorem is176 : FnIs Tryz.prog 176 x176 := ⟨Tryz.f176, _, Tryz.func176, by kernel_rfl, rfl, by kernel_rfl, by decide, by kernel_rfl⟩

def x179 : XDecl := .code ⟨4,  (.seq (.ops [op 6 (.move (.c (.string .empty))),op 7 (.alloc [(.bool false), (.string .empty), (.int .u64 0)]),op 8 (.move (.c (.bool false))),op 9 (.move (.c (.bool false)))] (some [0, 1, 2, 3, 7])) (.seq (.ops [ld 19 1 2,mv 20 0,mv 21 1,op 22 (.call (.t 19) [(.t 20), (.t 21)]),mv 18 22,ex 23 18 0,ex 24 18 1,ex 25 18 2,ex 26 18 3,op 11 (.alloc [(.bool false), (.string .empty), (.int .u64 0)]),mv 10 23,st 3 11 24,mv 12 25,mv 13 26] (some [0, 1, 3, 7, 10, 11, 12, 13])) (.seq (.ops [ld 28 1 3,mv 29 0,mv 30 1,op 31 (.call (.t 28) [(.t 29), (.t 30)]),mv 27 31,ex 32 27 0,ex 33 27 1,ex 34 27 2,ex 35 27 3,op 15 (.alloc [(.bool false), (.string .empty), (.int .u64 0)]),mv 14 32,st 3 15 33,mv 16 34,mv 17 35] (some [7, 10, 11, 12, 13, 14, 15, 16, 17])) (.seq (.seq (.ops [mv 36 13,op 37 (.un .not (.t 36)),mv 38 37,on 39 38 (.move (.t 17)),on 40 38 (.move (.t 39)),og 41 40 (.move (.t 14)),og 42 40 (.move (.t 10)),og 43 40 (.bin .lss 9 (.t 41) (.t 42)),on 44 38 (.pick (.t 40) (.t 43) (.c (.bool false))),op 45 (.pick (.t 38) (.c (.bool true)) (.t 44))] (some [7, 10, 11, 12, 13, 14, 15, 16, 17, 45])) (.cond (.t 45) (.seq (.opsd [(0, 0, mv 46 14),(1, 0, op 47 (.load true 3 (.t 15))),(2, 0, mv 48 16),(3, 0, mv 49 17),(4, 1, mv 6 46),(5, 19, st 3 7 47),(6, 55, mv 8 48),(7, 127, mv 9 49)] (some [6, 7, 8, 9])) .ret) .skip)) (.seq (.opsd [(0, 0, mv 50 10),(1, 0, op 51 (.load true 3 (.t 11))),(2, 0, mv 52 12),(3, 0, mv 53 13),(4, 1, mv 6 50),(5, 19, st 3 7 51),(6, 55, mv 8 52),(7, 127, mv 9 53)] (some [6, 7, 8, 9])) .ret))))), [.tmp 6, .cell true 3 7, .tmp 8, .tmp 9]⟩

theorem is179 : FnIs Tryz.prog 179 x179 := ⟨Tryz.f179, _, Tryz.func179, by kernel_rfl, rfl, by kernel_rfl, by decide, by kernel_rfl⟩

def x180 : XDecl := .code ⟨2,  (.seq (.ops [op 4 (.alloc [(.string .empty), (.bool false), (.bool false), (.string .empty), (.int .u64 0)]),op 5 (.move (.c (.bool false)))] (some [0, 1, 4])) (.seq (.seq (.ops [mv 8 0,op 9 (.isNil .ptr false (.t 8))] (some [0, 1, 4, 9])) (.cond (.t 9) (.seq (.ops [op 10 (.build [(.string .empty), (.bool false), (.bool false), (.string .empty), (.int .u64 0)] [(0, 1), (1, 1), (2, 3)] []),st 5 4 10,op 5 (.move (.c (.bool false)))] (some [4, 5])) .ret) .skip)) (.seq (.ops [mv 12 0,mv 13 1,op 14 (cl 163 [(.t 12), (.t 13)]),mv 11 14,ex 15 11 0,ex 16 11 1,mv 6 15,mv 7 16] (some [0, 4, 6])) (.seq (.ops [mv 17 0,mv 18 6,op 19 (cl 197 [(.t 17), (.t 18)]),ex 20 19 0,ex 21 19 1,st 5 4 20,mv 5 21] (some [4, 5])) .ret)))), [.cell true 5 4, .tmp 5]⟩

theorem is180 : FnIs Tryz.prog 180 x180 := ⟨Tryz.f180, _, Tryz.func180, by kernel_rfl, rfl, by kernel_rfl, by decide, by kernel_rfl⟩

def x181 : XDecl := .code ⟨2,  (.seq (.ops [op 4 (.alloc [(.string .empty), (.bool false), (.bool false), (.string .empty), (.int .u64 0)]),op 5 (.move (.c (.bool false)))] (some [0, 1, 4])) (.seq (.seq (.ops [mv 8 0,op 9 (.isNil .ptr false (.t 8))] (some [0, 1, 4, 9])) (.cond (.t 9) (.seq (.ops [op 10 (.build [(.string .empty), (.bool false), (.bool false), (.string .empty), (.int .u64 0)] [(0, 1), (1, 1), (2, 3)] []),st 5 4 10,op 5 (.move (.c (.bool false)))] (some [4, 5])) .ret) .skip)) (.seq (.ops [mv 12 0,mv 13 1,op 14 (cl 163 [(.t 12), (.t 13)]),mv 11 14,ex 15 11 0,ex 16 11 1,mv 6 15,mv 7 16] (some [0, 4, 6, 7])) (.seq (.seq (.ops [mv 17 7] (some [0, 4, 6, 17])) (.cond (.t 17) (.ops [mv 18 6,op 19 (.bin .add 3 (.t 18) (ic 1)),mv 6 19] (some [0, 4, 6])) .skip)) (.seq (.ops [mv 20 0,mv 21 6,op 22 (cl 197 [(.t 20), (.t 21)]),ex 23 22 0,ex 24 22 1,st 5 4 23,mv 5 24] (some [4, 5])) .ret))))), [.cell true 5 4, .tmp 5]⟩

theorem is181 : FnIs Tryz.prog 181 x181 := ⟨Tryz.f181, _, Tryz.func181, by kernel_rfl, rfl, by kernel_rfl, by decide, by kernel_rfl⟩

-- 182 internal/bytealg.abigen_runtime_cmpstring: no body
def x182 : XDecl := .ext 182

theorem is182 : FnIs Tryz.prog 182 x182 := rfl

def x183 : XDecl := .code ⟨3,  (.seq (.ops [op 6 (.move (ic 0)),op 7 (.move (.c (.bool false)))] (some [0, 1, 2])) (.seq (.ops [mv 12 0,op 13 (.len (.t 12)),mv 8 13] (some [0, 1, 2, 8])) (.seq (.ops [mv 14 8,op 9 (.move (ic 0)),mv 10 14] (some [0, 1, 2, 8, 9, 10])) (.seq (.block 0 (.loop (.seq (.seq (.ops [mv 15 9,mv 16 10,ib 17 .lss 3 15 16] (some [0, 1, 2, 8, 9, 10, 17])) (.cond (.t 17) .skip (.exit 0))) (.block 1 (.seq (.ops [mv 18 9,mv 19 10,ib 20 .add 3 18 19,op 21 (.conv 3 162 (.t 20)),op 22 (.bin .shr 162 (.t 21) (.c (.int .u64 1))),op 23 (.conv 162 3 (.t 22)),mv 11 23] (some [0, 1, 2, 8, 9, 10, 11])) (.seq (.ops [mv 24 2,mv 25 0,mv 26 11,op 27 (.indexAddr 5 (.t 25) (.t 26)),op 28 (.load true 5 (.t 27)),mv 29 1,op 30 (.call (.t 24) [(.t 28), (.t 29)]),op 31 (.bin .lss 3 (.t 30) (ic 0))] (some [0, 1, 2, 8, 9, 10, 11, 31])) (.cond (.t 31) (.ops [mv 32 11,op 33 (.bin .add 3 (.t 32) (ic 1)),mv 9 33] (some [0, 1, 2, 8, 9, 10])) (.ops [mv 34 11,mv 10 34] (some [0, 1, 2, 8, 9, 10]))))))))) (.seq (.ops [mv 35 9,mv 36 9,mv 37 8,ib 38 .lss 3 36 37,mv 39 38,og 40 39 (.move (.t 2)),og 41 39 (.move (.t 0)),og 42 39 (.move (.t 9)),og 43 39 (.indexAddr 5 (.t 41) (.t 42)),og 44 39 (.load true 5 (.t 43)),og 45 39 (.move (.t 1)),og 46 39 (.call (.t 40) [(.t 44), (.t 45)]),og 47 39 (.bin .eql 3 (.t 46) (ic 0)),op 48 (.pick (.t 39) (.t 47) (.c (.bool false))),mv 6 35,mv 7 48] (some [6, 7])) .ret))))), [.tmp 6, .tmp 7]⟩

theorem is183 : FnIs Tryz.prog 183 x183 := ⟨Tryz.f183, _, Tryz.func183, by kernel_rfl, rfl, by kernel_rfl, by decide, by kernel_rfl⟩

def x184 : XDecl := .code ⟨2,  (.seq (.ops [op 2 (.box (.t 0)),op 4 (.move (ic 0))] (some [1, 2])) (.seq (.ops [fa 5 0 2,ld 6 1 5,mv 7 1,op 8 (cl 130 [(.t 6), (.t 7)]),mv 4 8] (some [4])) .ret)), [.tmp 4]⟩

theorem is184 : FnIs Tryz.prog 184 x184 := ⟨Tryz.f184, _, Tryz.func184, by kernel_rfl, rfl, by kernel_rfl, by decide, by kernel_rfl⟩

def x187 : XDecl := .code ⟨1,  (.seq (.ops [op 2 (.move (.c (.int .u64 0)))] (some [0])) (.seq (.ops [mv 4 0,op 5 (cl 120 [(.t 4)]),mv 3 5] (some [3])) (.seq (.block 0 (.seq (.ops [mv 7 3,op 8 (.bin .eql 34 (.t 7) (.c (.int .u64 9221120237041090561))),mv 6 8] (some [3, 6])) (.cond (.t 6) (.seq (.ops [op 2 (.move (.c (.int .u64 18437736874454810626)))] (some [2])) .ret) (.seq (.ops [mv 10 3,op 11 (.bin .and 34 (.t 10) (.c (.int .u64 9223372036854775808))),op 12 (.bin .neq 34 (.t 11) (.c (.int .u64 0))),mv 9 12] (some [3, 9])) (.cond (.t 9) (.seq (.ops [mv 13 3,op 14 (.bin .andNot 34 (.t 13) (.c (.int .u64 9223372036854775808))),op 15 (.bin .sub 34 (.c (.int .u64 9218868437227405312)) (.t 14)),mv 2 15] (some [2])) .ret) .skip))))) (.seq (.ops [mv 16 3,op 17 (.bin .add 34 (.c (.int .u64 9218868437227405313)) (.t 16)),mv 2 17] (some [2])) .ret)))), [.tmp 2]⟩

theorem is187 : FnIs Tryz.prog 187 x187 := ⟨Tryz.f187, _, Tryz.func187, by kernel_rfl, rfl, by kernel_rfl, by decide, by kernel_rfl⟩

def x188 : XDecl := .code ⟨3,  (.seq (.ops [mv 9 1,nc 10 9,fa 11 2 10,ld 12 1 11,mv 13 2,op 14 (.indexAddr 1 (.t 12) (.t 13)),ld 15 1 14,mv 6 15] (some [0, 1, 2, 6])) (.seq (.opsd [(0, 0, mv 16 0),(1, 1, nc 17 16),(2, 3, fa 18 0 17),(3, 7, ld 19 1 18),(4, 0, mv 20 1),(5, 16, nc 21 20),(6, 48, fa 22 2 21),(7, 112, ld 23 1 22),(8, 0, mv 24 2),(9, 256, op 25 (.bin .sub 3 (.t 24) (ic 1))),(10, 1008, op 26 (.indexAddr 1 (.t 23) (.t 25))),(11, 2032, ld 27 1 26),(12, 4095, op 28 (.indexAddr 3 (.t 19) (.t 27))),(13, 0, mv 29 0),(14, 8192, nc 30 29),(15, 24576, fa 31 0 30),(16, 57344, ld 32 1 31),(17, 0, mv 33 6),(18, 253952, op 34 (.indexAddr 3 (.t 32) (.t 33))),(19, 516096, op 35 (.load true 3 (.t 34))),(20, 0, op 8 (.alloc [(.slice none 0 0), (.slice none 0 0), (.slice none 0 0)])),(21, 1056767, mv 7 28),(22, 4194303, st 3 8 35)] (some [0, 1, 2, 6, 7, 8])) (.seq (.seq (.ops [mv 36 7,op 37 (cl 145 [(.t 36)]),op 38 (.un .not (.t 37))] (some [0, 1, 2, 6, 7, 8, 38])) (.cond (.t 38) (.opsd [(0, 0, mv 39 7),(1, 0, mv 40 7),(2, 2, nc 41 40),(3, 6, fa 42 0 41),(4, 14, ld 43 1 42),(5, 0, mv 44 1),(6, 32, nc 45 44),(7, 96, fa 46 0 45),(8, 224, ld 47 1 46),(9, 0, mv 48 2),(10, 512, op 49 (.bin .sub 3 (.t 48) (ic 1))),(11, 2016, op 50 (.indexAddr 1 (.t 47) (.t 49))),(12, 4064, ld 51 1 50),(13, 8160, op 52 (.buildSlice [(.string .empty)] 1 1 [(0, (.t 51))])),(14, 16382, op 53 (.append 1 16 [(.string .empty)] (.t 43) (.t 52))),(15, 32767, nc 54 39),(16, 65535, fa 55 0 54),(17, 131071, st 1 55 53)] (some [0, 1, 2, 6, 7, 8])) .skip)) (.seq (.opsd [(0, 0, mv 56 7),(1, 0, mv 57 7),(2, 0, mv 58 7),(3, 0, mv 59 7),(4, 8, nc 60 59),(5, 24, fa 61 0 60),(6, 56, ld 62 1 61),(7, 0, fa 63 0 8),(8, 128, ld 64 1 63),(10, 0, mv 66 7),(11, 1024, nc 67 66),(12, 3072, fa 68 1 67),(13, 7168, ld 69 1 68),(14, 0, fa 70 1 8),(15, 16384, ld 71 1 70),(17, 0, mv 73 7),(18, 131072, nc 74 73),(19, 393216, fa 75 2 74),(20, 917504, ld 76 1 75),(21, 0, fa 77 2 8),(22, 2097152, ld 78 1 77),(9, 504, op 65 (.append 1 16 [(.string .empty)] (.t 62) (.t 64))),(16, 65528, op 72 (.append 1 8 [(.int .i64 0)] (.t 69) (.t 71))),(23, 8388600, op 79 (.append 1 8 [(.int .i64 0)] (.t 76) (.t 78))),(24, 16777209, nc 80 56),(25, 33554425, fa 81 0 80),(26, 67108857, st 1 81 65),(27, 134217723, nc 82 57),(28, 268435451, fa 83 1 82),(29, 536870907, st 1 83 72),(30, 1073741823, nc 84 58),(31, 2147483647, fa 85 2 84),(32, 4294967295, st 1 85 79)] (some [0, 1, 2, 6])) (.seq (.opsd [(0, 0, mv 86 1),(1, 0, mv 87 1),(2, 0, mv 88 1),(3, 4, nc 89 88),(4, 12, fa 90 0 89),(5, 28, ld 91 1 90),(6, 0, mv 92 2),(7, 64, op 93 (.bin .sub 3 (.t 92) (ic 1))),(8, 0, mv 94 2),(10, 0, mv 96 1),(11, 1024, nc 97 96),(12, 3072, fa 98 2 97),(13, 7168, ld 99 1 98),(14, 0, mv 100 2),(15, 0, mv 101 2),(16, 32768, op 102 (.bin .add 3 (.t 101) (ic 1))),(9, 508, op 95 (cl 168 [(.t 91), (.t 93), (.t 94)])),(17, 131068, op 103 (cl 169 [(.t 99), (.t 100), (.t 102)])),(18, 262141, nc 104 86),(19, 524285, fa 105 0 104),(20, 1048573, st 1 105 95),(21, 2097151, nc 106 87),(22, 4194303, fa 107 2 106),(23, 8388607, st 1 107 103)] (some [0, 6])) (.ops [mv 108 0,mv 109 6,op 110 (cl 144 [(.t 108), (.t 109)])] (some []))))))), []⟩

theorem is188 : FnIs Tryz.prog 188 x188 := ⟨Tryz.f188, _, Tryz.func188, by kernel_rfl, rfl, by kernel_rfl, by decide, by kernel_rfl⟩

def x189 : XDecl := .code ⟨1,  (.seq (.ops [op 2 (.move (.c (.slice none 0 0)))] (some [0])) (.seq (.ops [op 3 (.move (ic 0))] (some [0, 3])) (.seq (.seq (.ops [mv 9 0,op 10 (.len (.t 9)),op 11 (.move (ic 0))] (some [0, 3, 9, 10, 11])) (.block 0 (.loop (.seq (.ops [ib 12 .lss 3 11 10] (some [0, 3, 9, 10, 11, 12])) (.seq (.cond (.t 12) .skip (.exit 0)) (.seq (.block 1 (.seq (.ops [op 13 (.indexAddr 1 (.t 9) (.t 11)),ld 14 1 13,mv 5 14] (some [0, 3, 5, 9, 10, 11])) (.seq (.ops [mv 15 3,mv 16 5,op 17 (.len (.t 16)),ib 18 .add 3 15 17,mv 3 18] (some [0, 3, 9, 10, 11])) (.seq (.ops [mv 19 3,op 20 (.bin .lss 3 (.t 19) (ic 0))] (some [0, 3, 9, 10, 11, 20])) (.cond (.t 20) (.ops [op 21 (.makeIface 9 (.c (.string ⟨#[108, 101, 110, 32, 111, 117, 116, 32, 111, 102, 32, 114, 97, 110, 103, 101]⟩))),sd (.fail)] (some [0, 3, 9, 10, 11])) .skip))))) (.ops [op 22 (.bin .add 3 (.t 11) (ic 1)),mv 11 22] (some [0, 3, 9, 10, 11])))))))) (.seq (.ops [mv 23 3,op 24 (cl 199 [(.c (.slice none 0 0)), (.t 23)]),mv 6 24] (some [0, 6])) (.seq (.seq (.ops [mv 25 0,op 26 (.len (.t 25)),op 27 (.move (ic 0))] (some [6, 25, 26, 27])) (.block 2 (.loop (.seq (.ops [ib 28 .lss 3 27 26] (some [6, 25, 26, 27, 28])) (.seq (.cond (.t 28) .skip (.exit 2)) (.seq (.block 3 (.seq (.ops [op 29 (.indexAddr 1 (.t 25) (.t 27)),ld 30 1 29,mv 8 30] (some [6, 8, 25, 26, 27])) (.ops [mv 31 6,mv 32 8,op 33 (.append 1 16 [(.string .empty)] (.t 31) (.t 32)),mv 6 33] (some [6, 25, 26, 27])))) (.ops [op 34 (.bin .add 3 (.t 27) (ic 1)),mv 27 34] (some [6, 25, 26, 27])))))))) (.seq (.ops [mv 35 6,mv 2 35] (some [2])) .ret)))))), [.tmp 2]⟩

theorem is189 : FnIs Tryz.prog 189 x189 := ⟨Tryz.f189, _, Tryz.func189, by kernel_rfl, rfl, by kernel_rfl, by decide, by kernel_rfl⟩

def x190 : XDecl := .code ⟨1,  (.seq (.ops [op 2 (.move (.c (.slice none 0 0)))] (some [0])) (.seq (.ops [op 3 (.move (ic 0))] (some [0, 3])) (.seq (.seq (.ops [mv 9 0,op 10 (.len (.t 9)),op 11 (.move (ic 0))] (some [0, 3, 9, 10, 11])) (.block 0 (.loop (.seq (.ops [ib 12 .lss 3 11 10] (some [0, 3, 9, 10, 11, 12])) (.seq (.cond (.t 12) .skip (.exit 0)) (.seq (.block 1 (.seq (.ops [op 13 (.indexAddr 1 (.t 9) (.t 11)),ld 14 1 13,mv 5 14] (some [0, 3, 5, 9, 10, 11])) (.seq (.ops [mv 15 3,mv 16 5,op 17 (.len (.t 16)),ib 18 .add 3 15 17,mv 3 18] (some [0, 3, 9, 10, 11])) (.seq (.ops [mv 19 3,op 20 (.bin .lss 3 (.t 19) (ic 0))] (some [0, 3, 9, 10, 11, 20])) (.cond (.t 20) (.ops [op 21 (.makeIface 9 (.c (.string ⟨#[108, 101, 110, 32, 111, 117, 116, 32, 111, 102, 32, 114, 97, 110, 103, 101]⟩))),sd (.fail)] (some [0, 3, 9, 10, 11])) .skip))))) (.ops [op 22 (.bin .add 3 (.t 11) (ic 1)),mv 11 22] (some [0, 3, 9, 10, 11])))))))) (.seq (.ops [mv 23 3,op 24 (cl 200 [(.c (.slice none 0 0)), (.t 23)]),mv 6 24] (some [0, 6])) (.seq (.seq (.ops [mv 25 0,op 26 (.len (.t 25)),op 27 (.move (ic 0))] (some [6, 25, 26, 27])) (.block 2 (.loop (.seq (.ops [ib 28 .lss 3 27 26] (some [6, 25, 26, 27, 28])) (.seq (.cond (.t 28) .skip (.exit 2)) (.seq (.block 3 (.seq (.ops [op 29 (.indexAddr 1 (.t 25) (.t 27)),ld 30 1 29,mv 8 30] (some [6, 8, 25, 26, 27])) (.ops [mv 31 6,mv 32 8,op 33 (.append 1 8 [(.int .i64 0)] (.t 31) (.t 32)),mv 6 33] (some [6, 25, 26, 27])))) (.ops [op 34 (.bin .add 3 (.t 27) (ic 1)),mv 27 34] (some [6, 25, 26, 27])))))))) (.seq (.ops [mv 35 6,mv 2 35] (some [2])) .ret)))))), [.tmp 2]⟩

theorem is190 : FnIs Tryz.prog 190 x190 := ⟨Tryz.f190, _, Tryz.func190, by kernel_rfl, rfl, by kernel_rfl, by decide, by kernel_rfl⟩

-- 191 slices.overlaps[string]: no body
def x191 : XDecl := .ext 191

theorem is191 : FnIs Tryz.prog 191 x191 := rfl

def x192 : XDecl := .code ⟨2,  (.ops [mv 4 0,mv 5 0,op 6 (.len (.t 5)),mv 7 1,ib 8 .sub 3 6 7,op 9 (cl 201 [(.t 4), (.t 8)])] (some [])), []⟩

theorem is192 : FnIs Tryz.prog 192 x192 := ⟨Tryz.f192, _, Tryz.func192, by kernel_rfl, rfl, by kernel_rfl, by decide, by kernel_rfl⟩

-- 193 slices.overlaps[int]: no body
def x193 : XDecl := .ext 193

theorem is193 : FnIs Tryz.prog 193 x193 := rfl

def x194 : XDecl := .code ⟨2,  (.ops [mv 4 0,mv 5 0,op 6 (.len (.t 5)),mv 7 1,ib 8 .sub 3 6 7,op 9 (cl 202 [(.t 4), (.t 8)])] (some [])), []⟩

theorem is194 : FnIs Tryz.prog 194 x194 := ⟨Tryz.f194, _, Tryz.func194, by kernel_rfl, rfl, by kernel_rfl, by decide, by kernel_rfl⟩

def x195 : XDecl := .code ⟨1,  (.seq (.ops [op 2 (.move (.c (.bool false)))] (some [0])) (.seq (.ops [mv 3 0,mv 4 0,ib 5 .neq 9 3 4,mv 2 5] (some [2])) .ret)), [.tmp 2]⟩

theorem is195 : FnIs Tryz.prog 195 x195 := ⟨Tryz.f195, _, Tryz.func195, by kernel_rfl, rfl, by kernel_rfl, by decide, by kernel_rfl⟩

def x197 : XDecl := .code ⟨2,  (.seq (.ops [op 4 (.alloc [(.string .empty), (.bool false), (.bool false), (.string .empty), (.int .u64 0)]),op 5 (.move (.c (.bool false)))] (some [0, 1, 4])) (.seq (.seq (.ops [mv 6 1,mv 7 0,nc 8 7,fa 9 0 8,ld 10 1 9,op 11 (.len (.t 10)),ib 12 .geq 3 6 11] (some [0, 1, 4, 12])) (.cond (.t 12) (.seq (.ops [op 13 (.build [(.string .empty), (.bool false), (.bool false), (.string .empty), (.int .u64 0)] [(0, 1), (1, 1), (2, 3)] []),st 5 4 13,op 5 (.move (.c (.bool false)))] (some [4, 5])) .ret) .skip)) (.seq (.ops [mv 14 0,nc 15 14,fa 16 0 15,ld 17 1 16,mv 18 1,op 19 (.indexAddr 5 (.t 17) (.t 18)),op 20 (.load true 5 (.t 19)),st 5 4 20,op 5 (.move (.c (.bool true)))] (some [4, 5])) .ret))), [.cell true 5 4, .tmp 5]⟩

theorem is197 : FnIs Tryz.prog 197 x197 := ⟨Tryz.f197, _, Tryz.func197, by kernel_rfl, rfl, by kernel_rfl, by decide, by kernel_rfl⟩

def x199 : XDecl := .code ⟨2,  (.seq (.ops [op 4 (.move (.c (.slice none 0 0)))] (some [0, 1])) (.seq (.seq (.ops [mv 5 1,op 6 (.bin .lss 3 (.t 5) (ic 0))] (some [0, 1, 6])) (.cond (.t 6) (.ops [op 7 (.makeIface 9 (.c (.string ⟨#[99, 97, 110, 110, 111, 116, 32, 98, 101, 32, 110, 101, 103, 97, 116, 105, 118, 101]⟩))),sd (.fail)] (some [0, 1])) .skip)) (.seq (.seq (.ops [mv 8 1,mv 9 0,op 10 (.cap (.t 9)),mv 11 0,op 12 (.len (.t 11)),ib 13 .sub 3 10 12,ib 14 .sub 3 8 13,mv 1 14] (some [0, 1])) (.seq (.ops [mv 15 1,op 16 (.bin .gtr 3 (.t 15) (ic 0))] (some [0, 1, 16])) (.cond (.t 16) (.ops [mv 17 0,mv 18 0,op 19 (.cap (.t 18)),op 20 (.slice 1 (.t 17) none (some (.t 19)) none),mv 21 1,op 22 (.appendZeros 1 16 [(.string .empty)] (.t 20) (.t 21)),mv 23 0,op 24 (.len (.t 23)),op 25 (.slice 1 (.t 22) none (some (.t 24)) none),mv 0 25] (some [0])) .skip))) (.seq (.ops [mv 26 0,mv 4 26] (some [4])) .ret)))), [.tmp 4]⟩

theorem is199 : FnIs Tryz.prog 199 x199 := ⟨Tryz.f199, _, Tryz.func199, by kernel_rfl, rfl, by kernel_rfl, by decide, by kernel_rfl⟩

def x200 : XDecl := .code ⟨2,  (.seq (.ops [op 4 (.move (.c (.slice none 0 0)))] (some [0, 1])) (.seq (.seq (.ops [mv 5 1,op 6 (.bin .lss 3 (.t 5) (ic 0))] (some [0, 1, 6])) (.cond (.t 6) (.ops [op 7 (.makeIface 9 (.c (.string ⟨#[99, 97, 110, 110, 111, 116, 32, 98, 101, 32, 110, 101, 103, 97, 116, 105, 118, 101]⟩))),sd (.fail)] (some [0, 1])) .skip)) (.seq (.seq (.ops [mv 8 1,mv 9 0,op 10 (.cap (.t 9)),mv 11 0,op 12 (.len (.t 11)),ib 13 .sub 3 10 12,ib 14 .sub 3 8 13,mv 1 14] (some [0, 1])) (.seq (.ops [mv 15 1,op 16 (.bin .gtr 3 (.t 15) (ic 0))] (some [0, 1, 16])) (.cond (.t 16) (.ops [mv 17 0,mv 18 0,op 19 (.cap (.t 18)),op 20 (.slice 1 (.t 17) none (some (.t 19)) none),mv 21 1,op 22 (.appendZeros 1 8 [(.int .i64 0)] (.t 20) (.t 21)),mv 23 0,op 24 (.len (.t 23)),op 25 (.slice 1 (.t 22) none (some (.t 24)) none),mv 0 25] (some [0])) .skip))) (.seq (.ops [mv 26 0,mv 4 26] (some [4])) .ret)))), [.tmp 4]⟩

theorem is200 : FnIs Tryz.prog 200 x200 := ⟨Tryz.f200, _, Tryz.func200, by kernel_rfl, rfl, by kernel_rfl, by decide, by kernel_rfl⟩

def x201 : XDecl := .code ⟨2,  (.seq (.ops [mv 4 0,mv 5 1,op 6 (.slice 1 (.t 4) none (some (.t 5)) none),op 7 (cl 204 [(.t 6)])] (some [0, 1])) (.seq (.ops [mv 8 0,mv 9 1,op 10 (.slice 1 (.t 8) (some (.t 9)) none none),op 11 (cl 204 [(.t 10)])] (some [0])) (.ops [mv 12 0,op 13 (cl 204 [(.t 12)])] (some [])))), []⟩

theorem is201 : FnIs Tryz.prog 201 x201 := ⟨Tryz.f201, _, Tryz.func201, by kernel_rfl, rfl, by kernel_rfl, by decide, by kernel_rfl⟩

def x202 : XDecl := .code ⟨2,  (.seq (.ops [mv 4 0,mv 5 1,op 6 (.slice 1 (.t 4) none (some (.t 5)) none),op 7 (cl 205 [(.t 6)])] (some [0, 1])) (.seq (.ops [mv 8 0,mv 9 1,op 10 (.slice 1 (.t 8) (some (.t 9)) none none),op 11 (cl 205 [(.t 10)])] (some [0])) (.ops [mv 12 0,op 13 (cl 205 [(.t 12)])] (some [])))), []⟩

theorem is202 : FnIs Tryz.prog 202 x202 := ⟨Tryz.f202, _, Tryz.func202, by kernel_rfl, rfl, by kernel_rfl, by decide, by kernel_rfl⟩

def x204 : XDecl := .code ⟨1,  (.seq (.ops [mv 4 0,op 5 (.len (.t 4)),op 6 (.bin .sub 3 (.t 5) (ic 1)),op 2 (.move (ic 0)),mv 3 6] (some [0, 2, 3])) (.block 0 (.loop (.seq (.seq (.ops [mv 7 2,mv 8 3,ib 9 .lss 3 7 8] (some [0, 2, 3, 9])) (.cond (.t 9) .skip (.exit 0))) (.seq (.block 1 (.opsd [(0, 0, mv 14 0),(1, 0, mv 15 2),(2, 0, mv 16 0),(3, 0, mv 17 3),(4, 0, mv 18 0),(5, 0, mv 19 3),(6, 48, op 20 (.indexAddr 1 (.t 18) (.t 19))),(7, 112, ld 21 1 20),(8, 0, mv 22 0),(9, 0, mv 23 2),(10, 768, op 24 (.indexAddr 1 (.t 22) (.t 23))),(11, 1792, ld 25 1 24),(12, 4083, op 26 (.indexAddr 1 (.t 14) (.t 15))),(13, 8179, st 1 26 21),(14, 16383, op 27 (.indexAddr 1 (.t 16) (.t 17))),(15, 32767, st 1 27 25)] (some [0, 2, 3]))) (.ops [mv 10 2,op 11 (.bin .add 3 (.t 10) (ic 1)),mv 12 3,op 13 (.bin .sub 3 (.t 12) (ic 1)),mv 2 11,mv 3 13] (some [0, 2, 3]))))))), []⟩

theorem is204 : FnIs Tryz.prog 204 x204 := ⟨Tryz.f204, _, Tryz.func204, by kernel_rfl, rfl, by kernel_rfl, by decide, by kernel_rfl⟩

def x205 : XDecl := .code ⟨1,  (.seq (.ops [mv 4 0,op 5 (.len (.t 4)),op 6 (.bin .sub 3 (.t 5) (ic 1)),op 2 (.move (ic 0)),mv 3 6] (some [0, 2, 3])) (.block 0 (.loop (.seq (.seq (.ops [mv 7 2,mv 8 3,ib 9 .lss 3 7 8] (some [0, 2, 3, 9])) (.cond (.t 9) .skip (.exit 0))) (.seq (.block 1 (.opsd [(0, 0, mv 14 0),(1, 0, mv 15 2),(2, 0, mv 16 0),(3, 0, mv 17 3),(4, 0, mv 18 0),(5, 0, mv 19 3),(6, 48, op 20 (.indexAddr 1 (.t 18) (.t 19))),(7, 112, ld 21 1 20),(8, 0, mv 22 0),(9, 0, mv 23 2),(10, 768, op 24 (.indexAddr 1 (.t 22) (.t 23))),(11, 1792, ld 25 1 24),(12, 4083, op 26 (.indexAddr 1 (.t 14) (.t 15))),(13, 8179, st 1 26 21),(14, 16383, op 27 (.indexAddr 1 (.t 16) (.t 17))),(15, 32767, st 1 27 25)] (some [0, 2, 3]))) (.ops [mv 10 2,op 11 (.bin .add 3 (.t 10) (ic 1)),mv 12 3,op 13 (.bin .sub 3 (.t 12) (ic 1)),mv 2 11,mv 3 13] (some [0, 2, 3]))))))), []⟩

theorem is205 : FnIs Tryz.prog 205 x205 := ⟨Tryz.f205, _, Tryz.func205, by kernel_rfl, rfl, by kernel_rfl, by decide, by kernel_rfl⟩

def tabB : FuncId → Option XDecl
  | 137 => some x137
  | 138 => some x138
  | 139 => some x139
  | 140 => some x140
  | 141 => some x141
  | 142 => some x142
  | 143 => some x143
  | 144 => some x144
  | 145 => some x145
  | 146 => some x146
  | 147 => some x147
  | 148 => some x148
  | 149 => some x149
  | 150 => some x150
  | 151 => some x151
  | 152 => some x152
  | 153 => some x153
  | 157 => some x157
  | 158 => some x158
  | 159 => some x159
  | 160 => some x160
  | 161 => some x161
  | 162 => some x162
  | 163 => some x163
  | 167 => some x167
  | 168 => some x168
  | 169 => some x169
  | 170 => some x170
  | 171 => some x171
  | 172 => some x172
  | 173 => some x173
  | 174 => some x174
  | 175 => some x175
  | 176 => some x176
  | 179 => some x179
  | 180 => some x180
  | 181 => some x181
  | 182 => some x182
  | 183 => some x183
  | 184 => some x184
  | 187 => some x187
  | 188 => some x188
  | 189 => some x189
  | 190 => some x190
  | 191 => some x191
  | 192 => some x192
  | 193 => some x193
  | 194 => some x194
  | 195 => some x195
  | 197 => some x197
  | 199 => some x199
  | 200 => some x200
  | 201 => some x201
  | 202 => some x202
  | 204 => some x204
  | 205 => some x205
  | _ => none
theorem tabB_is : ∀ f d, tabB f = some d → FnIs Tryz.prog f d := by
  intro f d h
  unfold tabB at h
  split at h
  · cases h; exact is137
  · cases h; exact is138
  · cases h; exact is139
  · cases h; exact is140
  · cases h; exact is141
  · cases h; exact is142
  · cases h; exact is143
  · cases h; exact is144
  · cases h; exact is145
  · cases h; exact is146
  · cases h; exact is147
  · cases h; exact is148
  · cases h; exact is149
  · cases h; exact is150
  · cases h; exact is151
  · cases h; exact is152
  · cases h; exact is153
  · cases h; exact is157
  · cases h; exact is158
  · cases h; exact is159
  · cases h; exact is160
  · cases h; exact is161
  · cases h; exact is162
  · cases h; exact is163
  · cases h; exact is167
  · cases h; exact is168
  · cases h; exact is169
  · cases h; exact is170
  · cases h; exact is171
  · cases h; exact is172
  · cases h; exact is173
  · cases h; exact is174
  · cases h; exact is175
  · cases h; exact is176
  · cases h; exact is179
  · cases h; exact is180
  · cases h; exact is181
  · cases h; exact is182
  · cases h; exact is183
  · cases h; exact is184
  · cases h; exact is187
  · cases h; exact is188
  · cases h; exact is189
  · cases h; exact is190
  · cases h; exact is191
  · cases h; exact is192
  · cases h; exact is193
  · cases h; exact is194
  · cases h; exact is195
  · cases h; exact is197
  · cases h; exact is199
  · cases h; exact is200
  · cases h; exact is201
  · cases h; exact is202
  · cases h; exact is204
  · cases h; exact is205
  · cases h

end Go.Proofs.YtnlmnejellipdaaGreat.X
