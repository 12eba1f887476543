/-
  Own work, printed by a program of ours (mkprog.py): the functions of this seat as code of the abstract run, and that each is the model's.
-/
import Derived.Test.YtnlmnejellipdaaXN
import Derived.Test.YtnlmnejellipdaaXLaw
import Derived.Test.YtnlmnejellipdaaChecked
set_option maxRecDepth 100000
namespace Go.Proofs.Ytnlmnejellipdaa.X
open Go

def x63 : XDecl := .code ⟨1,  (.seq (.ops [op 2 (.move (ic 0))] (some [0])) (.seq (.seq (.ops [mv 3 0,op 4 (cl 60 [(.t 3)])] (some [0, 4])) (.cond (.t 4) (.seq (.ops [mv 5 0,nc 6 5,fa 7 0 6,ld 8 1 7,op 9 (.len (.t 8)),mv 2 9] (some [2])) .ret) .skip)) (.seq (.ops [mv 10 0,nc 11 10,fa 12 2 11,ld 13 1 12,op 14 (.len (.t 13)),mv 2 14] (some [2])) .ret))), [.tmp 2]⟩

theorem is63 : FnIs Try.prog 63 x63 := ⟨Try.f63, _, Try.func63, by kernel_rfl, rfl, by kernel_rfl, by decide, by kernel_rfl⟩

def x64 : XDecl := .code ⟨2,  (.seq (.ops [op 4 (.move (ic 0)),op 5 (.move (.c (.string .empty)))] (some [0, 1])) (.seq (.ops [mv 10 0,nc 11 10,fa 12 0 11,ld 13 1 12,mv 14 1,op 15 (.indexAddr 3 (.t 13) (.t 14)),op 16 (.load true 3 (.t 15)),op 6 (.alloc [(.slice none 0 0), (.slice none 0 0), (.slice none 0 0)]),st 3 6 16] (some [0, 1, 6])) (.seq (.ops [op 17 (cl 63 [(.t 6)]),op 18 (.bin .quo 3 (.t 17) (ic 2)),mv 7 18] (some [0, 1, 6, 7])) (.seq (.seq (.ops [op 19 (cl 60 [(.t 6)])] (some [0, 1, 6, 7, 19])) (.cond (.t 19) (.seq (.opsd [(0, 0, mv 20 0),(1, 0, fa 21 0 6),(2, 2, ld 22 1 21),(3, 0, mv 23 7),(4, 14, op 24 (.slice 1 (.t 22) (some (.t 23)) none none)),(6, 0, fa 26 1 6),(7, 64, ld 27 1 26),(8, 0, mv 28 7),(9, 448, op 29 (.slice 1 (.t 27) (some (.t 28)) none none)),(5, 30, op 25 (cl 78 [(.t 24)])),(10, 1022, op 30 (cl 79 [(.t 29)])),(11, 2046, op 31 (.build [(.slice none 0 0), (.slice none 0 0), (.slice none 0 0)] [(0, 1), (1, 1), (2, 1)] [(0, (.t 25)), (1, (.t 30))])),(12, 4095, op 32 (cl 61 [(.t 20), (.t 31)])),(13, 8191, mv 8 32)] (some [0, 1, 6, 7, 8])) (.seq (.opsd [(0, 0, mv 33 0),(1, 1, nc 34 33),(2, 3, fa 35 0 34),(3, 7, ld 36 1 35),(4, 0, mv 37 1),(5, 0, mv 38 0),(6, 32, nc 39 38),(7, 96, fa 40 0 39),(8, 224, ld 41 1 40),(9, 0, mv 42 1),(10, 0, fa 43 0 6),(11, 1024, ld 44 1 43),(12, 0, mv 45 7),(13, 0, mv 46 7),(14, 15360, op 47 (.slice 1 (.t 44) none (some (.t 45)) (some (.t 46)))),(15, 0, fa 48 1 6),(16, 32768, ld 49 1 48),(17, 0, mv 50 7),(18, 0, mv 51 7),(19, 491520, op 52 (.slice 1 (.t 49) none (some (.t 50)) (some (.t 51)))),(20, 130559, op 53 (.indexAddr 3 (.t 36) (.t 37))),(21, 1179135, fa 54 0 53),(22, 3276287, st 1 54 47),(23, 8388607, op 55 (.indexAddr 3 (.t 41) (.t 42))),(24, 16777215, fa 56 1 55),(25, 33554431, st 1 56 52)] (some [6, 7, 8])) (.seq (.opsr [mv 57 8,fa 58 0 6,ld 59 1 58,mv 60 7,op 61 (.indexAddr 1 (.t 59) (.t 60)),ld 62 1 61,mv 4 57,mv 5 62] (some [4, 5])) .ret))) .skip)) (.seq (.opsd [(0, 0, mv 63 0),(1, 0, fa 64 0 6),(2, 2, ld 65 1 64),(3, 0, mv 66 7),(4, 14, op 67 (.slice 1 (.t 65) (some (.t 66)) none none)),(6, 0, fa 69 2 6),(7, 64, ld 70 1 69),(8, 0, mv 71 7),(9, 448, op 72 (.slice 1 (.t 70) (some (.t 71)) none none)),(5, 30, op 68 (cl 78 [(.t 67)])),(10, 1022, op 73 (cl 79 [(.t 72)])),(11, 2046, op 74 (.build [(.slice none 0 0), (.slice none 0 0), (.slice none 0 0)] [(0, 1), (1, 1), (2, 1)] [(0, (.t 68)), (2, (.t 73))])),(12, 4095, op 75 (cl 61 [(.t 63), (.t 74)])),(13, 8191, mv 9 75)] (some [0, 1, 6, 7, 9])) (.seq (.opsd [(0, 0, mv 76 0),(1, 1, nc 77 76),(2, 3, fa 78 0 77),(3, 7, ld 79 1 78),(4, 0, mv 80 1),(5, 0, mv 81 0),(6, 32, nc 82 81),(7, 96, fa 83 0 82),(8, 224, ld 84 1 83),(9, 0, mv 85 1),(10, 0, fa 86 0 6),(11, 1024, ld 87 1 86),(12, 0, mv 88 7),(13, 4096, op 89 (.bin .sub 3 (.t 88) (ic 1))),(14, 0, mv 90 7),(15, 16384, op 91 (.bin .sub 3 (.t 90) (ic 1))),(16, 64512, op 92 (.slice 1 (.t 87) none (some (.t 89)) (some (.t 91)))),(17, 0, fa 93 2 6),(18, 131072, ld 94 1 93),(19, 0, mv 95 7),(20, 0, mv 96 7),(21, 1966080, op 97 (.slice 1 (.t 94) none (some (.t 95)) (some (.t 96)))),(22, 523775, op 98 (.indexAddr 3 (.t 79) (.t 80))),(23, 4718079, fa 99 0 98),(24, 13106687, st 1 99 92),(25, 33554431, op 100 (.indexAddr 3 (.t 84) (.t 85))),(26, 67108863, fa 101 2 100),(27, 134217727, st 1 101 97)] (some [6, 7, 9])) (.seq (.opsr [mv 102 9,fa 103 0 6,ld 104 1 103,mv 105 7,op 106 (.bin .sub 3 (.t 105) (ic 1)),op 107 (.indexAddr 1 (.t 104) (.t 106)),ld 108 1 107,mv 4 102,mv 5 108] (some [4, 5])) .ret))))))), [.tmp 4, .tmp 5]⟩

theorem is64 : FnIs Try.prog 64 x64 := ⟨Try.f64, _, Try.func64, by kernel_rfl, rfl, by kernel_rfl, by decide, by kernel_rfl⟩

def x65 : XDecl := .code ⟨1,  (.seq (.ops [op 2 (.move (.c (.bool false)))] (some [0])) (.seq (.ops [mv 3 0,mv 4 0,ib 5 .neq 94 3 4,mv 2 5] (some [2])) .ret)), [.tmp 2]⟩

theorem is65 : FnIs Try.prog 65 x65 := ⟨Try.f65, _, Try.func65, by kernel_rfl, rfl, by kernel_rfl, by decide, by kernel_rfl⟩

-- 66 math.Float64bits: no body
def x66 : XDecl := .ext 66

theorem is66 : FnIs Try.prog 66 x66 := rfl

-- 67 math.Float64frombits: no body
def x67 : XDecl := .ext 67

theorem is67 : FnIs Try.prog 67 x67 := rfl

def x68 : XDecl := .code ⟨1,  (.seq (.ops [op 2 (.move (.c (.string .empty)))] (some [0])) (.seq (.ops [op 3 (.alloc [(.int .u8 0), (.int .u8 0), (.int .u8 0), (.int .u8 0), (.int .u8 0), (.int .u8 0), (.int .u8 0), (.int .u8 0)])] (some [0, 3])) (.seq (.ops [mv 6 0,op 7 (cl 80 [(.t 6)]),mv 4 7] (some [3, 4])) (.seq (.seq (.ops [op 8 (.move (ic 0))] (some [3, 4, 8])) (.block 0 (.loop (.seq (.ops [op 9 (.bin .lss 3 (.t 8) (ic 8))] (some [3, 4, 8, 9])) (.seq (.cond (.t 9) .skip (.exit 0)) (.seq (.block 1 (.seq (.ops [mv 10 8,mv 5 10] (some [3, 4, 5, 8])) (.ops [mv 11 5,mv 12 4,mv 13 5,op 14 (.bin .sub 3 (ic 7) (.t 13)),op 15 (.bin .mul 3 (ic 8) (.t 14)),ib 16 .shr 31 12 15,op 17 (.conv 31 5 (.t 16)),op 18 (.indexAddrArr 8 1 (.t 3) (.t 11)),st 1 18 17] (some [3, 4, 8])))) (.ops [op 19 (.bin .add 3 (.t 8) (ic 1)),mv 8 19] (some [3, 4, 8])))))))) (.seq (.ops [op 20 (.arrSlice 8 (.t 3)),op 21 (.bstr (.t 20)),mv 2 21] (some [2])) .ret))))), [.tmp 2]⟩

theorem is68 : FnIs Try.prog 68 x68 := ⟨Try.f68, _, Try.func68, by kernel_rfl, rfl, by kernel_rfl, by decide, by kernel_rfl⟩

def x69 : XDecl := .code ⟨1,  (.seq (.ops [op 2 (.move (.c (.bool false)))] (some [0])) (.seq (.ops [mv 3 0,op 4 (.isNil .ptr true (.t 3)),mv 5 4,og 6 5 (.move (.t 0)),og 7 5 (.nilCheck (.t 6)),og 8 5 (.fieldAddr 2 (.t 7)),og 9 5 (.load false 1 (.t 8)),og 10 5 (.bin .geq 3 (.t 9) (ic 0)),op 11 (.pick (.t 5) (.t 10) (.c (.bool false))),mv 2 11] (some [2])) .ret)), [.tmp 2]⟩

theorem is69 : FnIs Try.prog 69 x69 := ⟨Try.f69, _, Try.func69, by kernel_rfl, rfl, by kernel_rfl, by decide, by kernel_rfl⟩

def x70 : XDecl := .code ⟨4,  (.seq (.ops [op 8 (.move (.c (.string .empty))),op 9 (.move (ic 0)),op 10 (.move (.c (.bool false)))] (some [0, 1, 2, 3])) (.seq (.ops [mv 18 0,nc 19 18,fa 20 0 19,ld 21 1 20,mv 22 1,op 23 (.indexAddr 3 (.t 21) (.t 22)),mv 11 23] (some [0, 2, 3, 11])) (.seq (.seq (.ops [mv 24 11,op 25 (cl 60 [(.t 24)])] (some [0, 2, 3, 11, 25])) (.cond (.t 25) (.seq (.ops [mv 27 11,nc 28 27,fa 29 0 28,ld 30 1 29,mv 31 2,op 32 (cl 72 [(.t 30), (.t 31)]),mv 26 32,ex 33 26 0,ex 34 26 1,mv 12 33,mv 13 34] (some [3, 11, 12, 13])) (.seq (.seq (.ops [mv 35 13,mv 36 35,og 37 36 (.move (.t 3)),op 38 (.pick (.t 36) (.t 37) (.c (.bool false)))] (some [11, 12, 38])) (.cond (.t 38) (.ops [mv 39 12,op 40 (.bin .add 3 (.t 39) (ic 1)),mv 12 40] (some [11, 12])) .skip)) (.seq (.seq (.ops [mv 41 12,mv 42 11,nc 43 42,fa 44 0 43,ld 45 1 44,op 46 (.len (.t 45)),ib 47 .geq 3 41 46] (some [11, 12, 47])) (.cond (.t 47) (.seq (.ops [op 8 (.move (.c (.string .empty))),op 9 (.move (ic 0)),op 10 (.move (.c (.bool false)))] (some [8, 9, 10])) .ret) .skip)) (.seq (.opsr [mv 48 11,nc 49 48,fa 50 0 49,ld 51 1 50,mv 52 12,op 53 (.indexAddr 1 (.t 51) (.t 52)),ld 54 1 53,mv 55 11,nc 56 55,fa 57 1 56,ld 58 1 57,mv 59 12,op 60 (.indexAddr 1 (.t 58) (.t 59)),ld 61 1 60,mv 8 54,mv 9 61,op 10 (.move (.c (.bool true)))] (some [8, 9, 10])) .ret)))) .skip)) (.seq (.ops [mv 62 11,mv 63 2,op 64 (cl 71 [(.t 62), (.t 63)]),mv 14 64] (some [0, 2, 3, 11, 14])) (.seq (.seq (.ops [mv 66 0,mv 67 11,nc 68 67,fa 69 2 68,ld 70 1 69,mv 71 14,op 72 (.indexAddr 1 (.t 70) (.t 71)),ld 73 1 72,mv 74 2,mv 75 3,op 76 (cl 70 [(.t 66), (.t 73), (.t 74), (.t 75)]),mv 65 76,ex 77 65 0,ex 78 65 1,ex 79 65 2,mv 15 77,mv 16 78,mv 17 79] (some [0, 11, 14, 15, 16, 17])) (.seq (.ops [mv 80 17] (some [0, 11, 14, 15, 16, 80])) (.cond (.t 80) (.seq (.ops [mv 81 15,mv 82 16,mv 8 81,mv 9 82,op 10 (.move (.c (.bool true)))] (some [8, 9, 10])) .ret) .skip))) (.seq (.seq (.ops [mv 83 14,op 84 (.bin .add 3 (.t 83) (ic 1)),mv 85 11,nc 86 85,fa 87 2 86,ld 88 1 87,op 89 (.len (.t 88)),ib 90 .lss 3 84 89] (some [0, 11, 14, 90])) (.cond (.t 90) (.seq (.ops [mv 91 0,mv 92 11,nc 93 92,fa 94 2 93,ld 95 1 94,mv 96 14,op 97 (.bin .add 3 (.t 96) (ic 1)),op 98 (.indexAddr 1 (.t 95) (.t 97)),ld 99 1 98,op 100 (cl 81 [(.t 91), (.t 99), (.c (.bool false))]),ex 101 100 0,ex 102 100 1,ex 103 100 2,mv 8 101,mv 9 102,mv 10 103] (some [8, 9, 10])) .ret) .skip)) (.seq (.ops [op 8 (.move (.c (.string .empty))),op 9 (.move (ic 0)),op 10 (.move (.c (.bool false)))] (some [8, 9, 10])) .ret))))))), [.tmp 8, .tmp 9, .tmp 10]⟩

theorem is70 : FnIs Try.prog 70 x70 := ⟨Try.f70, _, Try.func70, by kernel_rfl, rfl, by kernel_rfl, by decide, by kernel_rfl⟩

def x71 : XDecl := .code ⟨2,  (.seq (.ops [op 4 (.move (ic 0))] (some [0, 1])) (.seq (.ops [mv 8 0,nc 9 8,fa 10 0 9,ld 11 1 10,mv 12 1,op 13 (cl 72 [(.t 11), (.t 12)]),mv 7 13,ex 14 7 0,ex 15 7 1,mv 5 14,mv 6 15] (some [5, 6])) (.seq (.seq (.ops [mv 16 6] (some [5, 16])) (.cond (.t 16) (.ops [mv 17 5,op 18 (.bin .add 3 (.t 17) (ic 1)),mv 5 18] (some [5])) .skip)) (.seq (.ops [mv 19 5,mv 4 19] (some [4])) .ret)))), [.tmp 4]⟩

theorem is71 : FnIs Try.prog 71 x71 := ⟨Try.f71, _, Try.func71, by kernel_rfl, rfl, by kernel_rfl, by decide, by kernel_rfl⟩

def x72 : XDecl := .code ⟨2,  (.seq (.ops [op 4 (.move (ic 0)),op 5 (.move (.c (.bool false)))] (some [0, 1])) (.seq (.ops [mv 10 0,op 11 (.len (.t 10)),mv 6 11] (some [0, 1, 6])) (.seq (.ops [mv 12 6,op 7 (.move (ic 0)),mv 8 12] (some [0, 1, 6, 7, 8])) (.seq (.block 0 (.loop (.seq (.seq (.ops [mv 13 7,mv 14 8,ib 15 .lss 3 13 14] (some [0, 1, 6, 7, 8, 15])) (.cond (.t 15) .skip (.exit 0))) (.block 1 (.seq (.ops [mv 16 7,mv 17 8,ib 18 .add 3 16 17,op 19 (.conv 3 120 (.t 18)),op 20 (.bin .shr 120 (.t 19) (.c (.int .u64 1))),op 21 (.conv 120 3 (.t 20)),mv 9 21] (some [0, 1, 6, 7, 8, 9])) (.seq (.ops [mv 22 0,mv 23 9,op 24 (.indexAddr 1 (.t 22) (.t 23)),ld 25 1 24,mv 26 1,op 27 (cl 82 [(.t 25), (.t 26)])] (some [0, 1, 6, 7, 8, 9, 27])) (.cond (.t 27) (.ops [mv 28 9,op 29 (.bin .add 3 (.t 28) (ic 1)),mv 7 29] (some [0, 1, 6, 7, 8])) (.ops [mv 30 9,mv 8 30] (some [0, 1, 6, 7, 8]))))))))) (.seq (.ops [mv 31 7,mv 32 7,mv 33 6,ib 34 .lss 3 32 33,mv 35 34,og 36 35 (.move (.t 0)),og 37 35 (.move (.t 7)),og 38 35 (.indexAddr 1 (.t 36) (.t 37)),og 39 35 (.load false 1 (.t 38)),og 40 35 (.move (.t 1)),og 41 35 (.bin .eql 9 (.t 39) (.t 40)),og 42 35 (.move (.t 41)),on 43 42 (.move (.t 0)),on 44 42 (.move (.t 7)),on 45 42 (.indexAddr 1 (.t 43) (.t 44)),on 46 42 (.load false 1 (.t 45)),on 47 42 (cl 83 [(.t 46)]),on 48 42 (.move (.t 47)),og 49 48 (.move (.t 1)),og 50 48 (cl 83 [(.t 49)]),on 51 42 (.pick (.t 48) (.t 50) (.c (.bool false))),og 52 35 (.pick (.t 42) (.c (.bool true)) (.t 51)),op 53 (.pick (.t 35) (.t 52) (.c (.bool false))),mv 4 31,mv 5 53] (some [4, 5])) .ret))))), [.tmp 4, .tmp 5]⟩

theorem is72 : FnIs Try.prog 72 x72 := ⟨Try.f72, _, Try.func72, by kernel_rfl, rfl, by kernel_rfl, by decide, by kernel_rfl⟩

def x73 : XDecl := .code ⟨3,  (.seq (.ops [op 6 (.move (.c (.slice none 0 0)))] (some [0, 1, 2])) (.seq (.ops [mv 8 0,mv 9 1,mv 10 2,mv 11 0,op 12 (.len (.t 11)),op 13 (.slice 1 (.t 8) (some (.t 9)) (some (.t 10)) (some (.t 12)))] (some [0, 1, 2])) (.seq (.seq (.ops [mv 14 1,mv 15 2,ib 16 .eql 3 14 15] (some [0, 1, 2, 16])) (.cond (.t 16) (.seq (.ops [mv 17 0,mv 6 17] (some [6])) .ret) .skip)) (.seq (.ops [mv 18 0,op 19 (.len (.t 18)),mv 7 19] (some [0, 1, 2, 7])) (.seq (.opsd [(0, 0, mv 20 0),(1, 0, mv 21 1),(2, 3, op 22 (.slice 1 (.t 20) none (some (.t 21)) none)),(3, 0, mv 23 0),(4, 0, mv 24 2),(5, 24, op 25 (.slice 1 (.t 23) (some (.t 24)) none none)),(6, 63, op 26 (.append 1 16 [(.string .empty)] (.t 22) (.t 25))),(7, 127, mv 0 26)] (some [0, 7])) (.seq (.ops [mv 27 0,mv 28 0,op 29 (.len (.t 28)),mv 30 7,op 31 (.slice 1 (.t 27) (some (.t 29)) (some (.t 30)) none),sd (.clear [(.string .empty)] (.t 31))] (some [0])) (.seq (.ops [mv 32 0,mv 6 32] (some [6])) .ret))))))), [.tmp 6]⟩

theorem is73 : FnIs Try.prog 73 x73 := ⟨Try.f73, _, Try.func73, by kernel_rfl, rfl, by kernel_rfl, by decide, by kernel_rfl⟩

def x74 : XDecl := .code ⟨3,  (.seq (.ops [op 6 (.move (.c (.slice none 0 0)))] (some [0, 1, 2])) (.seq (.ops [mv 8 0,mv 9 1,mv 10 2,mv 11 0,op 12 (.len (.t 11)),op 13 (.slice 1 (.t 8) (some (.t 9)) (some (.t 10)) (some (.t 12)))] (some [0, 1, 2])) (.seq (.seq (.ops [mv 14 1,mv 15 2,ib 16 .eql 3 14 15] (some [0, 1, 2, 16])) (.cond (.t 16) (.seq (.ops [mv 17 0,mv 6 17] (some [6])) .ret) .skip)) (.seq (.ops [mv 18 0,op 19 (.len (.t 18)),mv 7 19] (some [0, 1, 2, 7])) (.seq (.opsd [(0, 0, mv 20 0),(1, 0, mv 21 1),(2, 3, op 22 (.slice 1 (.t 20) none (some (.t 21)) none)),(3, 0, mv 23 0),(4, 0, mv 24 2),(5, 24, op 25 (.slice 1 (.t 23) (some (.t 24)) none none)),(6, 63, op 26 (.append 1 8 [(.int .i64 0)] (.t 22) (.t 25))),(7, 127, mv 0 26)] (some [0, 7])) (.seq (.ops [mv 27 0,mv 28 0,op 29 (.len (.t 28)),mv 30 7,op 31 (.slice 1 (.t 27) (some (.t 29)) (some (.t 30)) none),sd (.clear [(.int .i64 0)] (.t 31))] (some [0])) (.seq (.ops [mv 32 0,mv 6 32] (some [6])) .ret))))))), [.tmp 6]⟩

theorem is74 : FnIs Try.prog 74 x74 := ⟨Try.f74, _, Try.func74, by kernel_rfl, rfl, by kernel_rfl, by decide, by kernel_rfl⟩

def x75 : XDecl := .code ⟨3,  (.seq (.opsr [mv 12 0,nc 13 12,fa 14 0 13,ld 15 1 14,mv 16 1,nc 17 16,fa 18 2 17,ld 19 1 18,mv 20 2,op 21 (.bin .sub 3 (.t 20) (ic 1)),op 22 (.indexAddr 1 (.t 19) (.t 21)),ld 23 1 22,op 24 (.indexAddr 3 (.t 15) (.t 23)),mv 25 0,nc 26 25,fa 27 0 26,ld 28 1 27,mv 29 1,nc 30 29,fa 31 2 30,ld 32 1 31,mv 33 2,op 34 (.indexAddr 1 (.t 32) (.t 33)),ld 35 1 34,op 36 (.indexAddr 3 (.t 28) (.t 35)),mv 6 24,mv 7 36] (some [0, 1, 2, 6, 7])) (.seq (.seq (.ops [mv 37 6,op 38 (cl 63 [(.t 37)]),mv 39 7,op 40 (cl 63 [(.t 39)]),ib 41 .add 3 38 40,op 42 (.bin .leq 3 (.t 41) (ic 4))] (some [0, 1, 2, 6, 7, 42])) (.cond (.t 42) (.seq (.ops [mv 43 0,mv 44 1,mv 45 2,op 46 (cl 84 [(.t 43), (.t 44), (.t 45)])] (some [])) .ret) .skip)) (.seq (.seq (.ops [mv 47 6,op 48 (cl 60 [(.t 47)]),op 49 (.un .not (.t 48))] (some [1, 2, 6, 7, 49])) (.cond (.t 49) (.opsd [(0, 0, mv 50 6),(1, 0, mv 51 6),(2, 2, nc 52 51),(3, 6, fa 53 0 52),(4, 14, ld 54 1 53),(5, 0, mv 55 1),(6, 32, nc 56 55),(7, 96, fa 57 0 56),(8, 224, ld 58 1 57),(9, 0, mv 59 2),(10, 512, op 60 (.bin .sub 3 (.t 59) (ic 1))),(11, 2016, op 61 (.indexAddr 1 (.t 58) (.t 60))),(12, 4064, ld 62 1 61),(13, 8160, op 63 (.buildSlice [(.string .empty)] 1 1 [(0, (.t 62))])),(14, 16382, op 64 (.append 1 16 [(.string .empty)] (.t 54) (.t 63))),(15, 32767, nc 65 50),(16, 65535, fa 66 0 65),(17, 131071, st 1 66 64)] (some [1, 2, 6, 7])) .skip)) (.seq (.opsd [(0, 0, mv 67 6),(1, 1, nc 68 67),(2, 3, fa 69 0 68),(3, 7, ld 70 1 69),(4, 0, mv 71 7),(5, 16, nc 72 71),(6, 48, fa 73 0 72),(7, 112, ld 74 1 73),(8, 255, op 75 (.buildSlice [(.slice none 0 0)] 1 2 [(0, (.t 70)), (1, (.t 74))])),(9, 511, op 76 (cl 85 [(.t 75)])),(10, 1023, mv 8 76)] (some [1, 2, 6, 7, 8])) (.seq (.opsd [(0, 0, mv 77 6),(1, 1, nc 78 77),(2, 3, fa 79 1 78),(3, 7, ld 80 1 79),(4, 0, mv 81 7),(5, 16, nc 82 81),(6, 48, fa 83 1 82),(7, 112, ld 84 1 83),(8, 255, op 85 (.buildSlice [(.slice none 0 0)] 1 2 [(0, (.t 80)), (1, (.t 84))])),(10, 0, mv 87 6),(11, 1024, nc 88 87),(12, 3072, fa 89 2 88),(13, 7168, ld 90 1 89),(14, 0, mv 91 7),(15, 16384, nc 92 91),(16, 49152, fa 93 2 92),(17, 114688, ld 94 1 93),(18, 261120, op 95 (.buildSlice [(.slice none 0 0)] 1 2 [(0, (.t 90)), (1, (.t 94))])),(9, 511, op 86 (cl 86 [(.t 85)])),(19, 524287, op 96 (cl 86 [(.t 95)])),(20, 1048575, mv 9 86),(21, 2097151, mv 10 96)] (some [1, 2, 6, 7, 8, 9, 10])) (.seq (.ops [mv 97 6,op 98 (cl 63 [(.t 97)]),mv 99 7,op 100 (cl 63 [(.t 99)]),ib 101 .add 3 98 100,op 102 (.bin .quo 3 (.t 101) (ic 2)),mv 11 102] (some [1, 2, 6, 7, 8, 9, 10, 11])) (.seq (.seq (.ops [mv 103 6,op 104 (cl 60 [(.t 103)])] (some [1, 2, 6, 7, 8, 9, 10, 11, 104])) (.cond (.t 104) (.seq (.opsd [(0, 0, mv 105 6),(1, 0, mv 106 8),(2, 0, mv 107 11),(3, 6, op 108 (.slice 1 (.t 106) none (some (.t 107)) none)),(5, 0, mv 110 9),(6, 0, mv 111 11),(7, 96, op 112 (.slice 1 (.t 110) none (some (.t 111)) none)),(4, 14, op 109 (cl 78 [(.t 108)])),(8, 254, op 113 (cl 79 [(.t 112)])),(9, 510, op 114 (.build [(.slice none 0 0), (.slice none 0 0), (.slice none 0 0)] [(0, 1), (1, 1), (2, 1)] [(0, (.t 109)), (1, (.t 113))])),(10, 1023, nc 115 105),(11, 2047, st 3 115 114)] (some [1, 2, 7, 8, 9, 11])) (.seq (.opsd [(0, 0, mv 116 7),(1, 0, mv 117 8),(2, 0, mv 118 11),(3, 6, op 119 (.slice 1 (.t 117) (some (.t 118)) none none)),(5, 0, mv 121 9),(6, 0, mv 122 11),(7, 96, op 123 (.slice 1 (.t 121) (some (.t 122)) none none)),(4, 14, op 120 (cl 78 [(.t 119)])),(8, 254, op 124 (cl 79 [(.t 123)])),(9, 510, op 125 (.build [(.slice none 0 0), (.slice none 0 0), (.slice none 0 0)] [(0, 1), (1, 1), (2, 1)] [(0, (.t 120)), (1, (.t 124))])),(10, 1023, nc 126 116),(11, 2047, st 3 126 125)] (some [1, 2, 8, 11])) (.seq (.opsd [(0, 0, mv 127 1),(1, 1, nc 128 127),(2, 3, fa 129 0 128),(3, 7, ld 130 1 129),(4, 0, mv 131 2),(5, 16, op 132 (.bin .sub 3 (.t 131) (ic 1))),(6, 0, mv 133 8),(7, 0, mv 134 11),(8, 192, op 135 (.indexAddr 1 (.t 133) (.t 134))),(9, 448, ld 136 1 135),(10, 1023, op 137 (.indexAddr 1 (.t 130) (.t 132))),(11, 2047, st 1 137 136)] (some [])) .ret))) .skip)) (.seq (.opsd [(0, 0, mv 138 6),(1, 0, mv 139 8),(2, 0, mv 140 11),(3, 4, op 141 (.bin .sub 3 (.t 140) (ic 1))),(4, 14, op 142 (.slice 1 (.t 139) none (some (.t 141)) none)),(6, 0, mv 144 10),(7, 0, mv 145 11),(8, 192, op 146 (.slice 1 (.t 144) none (some (.t 145)) none)),(5, 30, op 143 (cl 78 [(.t 142)])),(9, 510, op 147 (cl 79 [(.t 146)])),(10, 1022, op 148 (.build [(.slice none 0 0), (.slice none 0 0), (.slice none 0 0)] [(0, 1), (1, 1), (2, 1)] [(0, (.t 143)), (2, (.t 147))])),(11, 2047, nc 149 138),(12, 4095, st 3 149 148)] (some [1, 2, 7, 8, 10, 11])) (.seq (.opsd [(0, 0, mv 150 7),(1, 0, mv 151 8),(2, 0, mv 152 11),(3, 6, op 153 (.slice 1 (.t 151) (some (.t 152)) none none)),(5, 0, mv 155 10),(6, 0, mv 156 11),(7, 96, op 157 (.slice 1 (.t 155) (some (.t 156)) none none)),(4, 14, op 154 (cl 78 [(.t 153)])),(8, 254, op 158 (cl 79 [(.t 157)])),(9, 510, op 159 (.build [(.slice none 0 0), (.slice none 0 0), (.slice none 0 0)] [(0, 1), (1, 1), (2, 1)] [(0, (.t 154)), (2, (.t 158))])),(10, 1023, nc 160 150),(11, 2047, st 3 160 159)] (some [1, 2, 8, 11])) (.opsd [(0, 0, mv 161 1),(1, 1, nc 162 161),(2, 3, fa 163 0 162),(3, 7, ld 164 1 163),(4, 0, mv 165 2),(5, 16, op 166 (.bin .sub 3 (.t 165) (ic 1))),(6, 0, mv 167 8),(7, 0, mv 168 11),(8, 128, op 169 (.bin .sub 3 (.t 168) (ic 1))),(9, 448, op 170 (.indexAddr 1 (.t 167) (.t 169))),(10, 960, ld 171 1 170),(11, 2047, op 172 (.indexAddr 1 (.t 164) (.t 166))),(12, 4095, st 1 172 171)] (some []))))))))))), []⟩

theorem is75 : FnIs Try.prog 75 x75 := ⟨Try.f75, _, Try.func75, by kernel_rfl, rfl, by kernel_rfl, by decide, by kernel_rfl⟩

def x76 : XDecl := .code ⟨3,  (.seq (.ops [op 6 (.move (.c (.slice none 0 0)))] (some [0, 1, 2])) (.seq (.ops [mv 10 0,mv 11 1,op 12 (.slice 1 (.t 10) (some (.t 11)) none none)] (some [0, 1, 2])) (.seq (.ops [mv 13 2,op 14 (.len (.t 13)),mv 7 14] (some [0, 1, 2, 7])) (.seq (.seq (.ops [mv 15 7,op 16 (.bin .eql 3 (.t 15) (ic 0))] (some [0, 1, 2, 7, 16])) (.cond (.t 16) (.seq (.ops [mv 17 0,mv 6 17] (some [6])) .ret) .skip)) (.seq (.ops [mv 18 0,op 19 (.len (.t 18)),mv 8 19] (some [0, 1, 2, 7, 8])) (.seq (.seq (.ops [mv 20 1,mv 21 8,ib 22 .eql 3 20 21] (some [0, 1, 2, 7, 8, 22])) (.cond (.t 22) (.seq (.ops [mv 23 0,mv 24 2,op 25 (.append 1 16 [(.string .empty)] (.t 23) (.t 24)),mv 6 25] (some [6])) .ret) .skip)) (.seq (.seq (.ops [mv 26 8,mv 27 7,ib 28 .add 3 26 27,mv 29 0,op 30 (.cap (.t 29)),ib 31 .gtr 3 28 30] (some [0, 1, 2, 7, 8, 31])) (.cond (.t 31) (.seq (.ops [mv 32 0,mv 33 1,op 34 (.slice 1 (.t 32) none (some (.t 33)) none),mv 35 8,mv 36 7,ib 37 .add 3 35 36,mv 38 1,ib 39 .sub 3 37 38,op 40 (.appendZeros 1 16 [(.string .empty)] (.t 34) (.t 39)),mv 9 40] (some [0, 1, 2, 7, 9])) (.seq (.ops [mv 41 9,mv 42 1,op 43 (.slice 1 (.t 41) (some (.t 42)) none none),mv 44 2,op 45 (.copy 1 (.t 43) (.t 44))] (some [0, 1, 7, 9])) (.seq (.opsd [(0, 0, mv 46 9),(1, 0, mv 47 1),(2, 0, mv 48 7),(3, 6, ib 49 .add 3 47 48),(4, 15, op 50 (.slice 1 (.t 46) (some (.t 49)) none none)),(5, 0, mv 51 0),(6, 0, mv 52 1),(7, 96, op 53 (.slice 1 (.t 51) (some (.t 52)) none none)),(8, 255, op 54 (.copy 1 (.t 50) (.t 53)))] (some [9])) (.seq (.ops [mv 55 9,mv 6 55] (some [6])) .ret)))) .skip)) (.seq (.ops [mv 56 0,mv 57 8,mv 58 7,ib 59 .add 3 57 58,op 60 (.slice 1 (.t 56) none (some (.t 59)) none),mv 0 60] (some [0, 1, 2, 7, 8])) (.seq (.seq (.ops [mv 61 2,mv 62 0,mv 63 1,mv 64 7,ib 65 .add 3 63 64,op 66 (.slice 1 (.t 62) (some (.t 65)) none none),op 67 (cl 87 [(.t 61), (.t 66)]),op 68 (.un .not (.t 67))] (some [0, 1, 2, 7, 8, 68])) (.cond (.t 68) (.seq (.opsd [(0, 0, mv 69 0),(1, 0, mv 70 1),(2, 0, mv 71 7),(3, 6, ib 72 .add 3 70 71),(4, 15, op 73 (.slice 1 (.t 69) (some (.t 72)) none none)),(5, 0, mv 74 0),(6, 0, mv 75 1),(7, 96, op 76 (.slice 1 (.t 74) (some (.t 75)) none none)),(8, 255, op 77 (.copy 1 (.t 73) (.t 76)))] (some [0, 1, 2])) (.seq (.ops [mv 78 0,mv 79 1,op 80 (.slice 1 (.t 78) (some (.t 79)) none none),mv 81 2,op 82 (.copy 1 (.t 80) (.t 81))] (some [0])) (.seq (.ops [mv 83 0,mv 6 83] (some [6])) .ret))) .skip)) (.seq (.ops [mv 84 0,mv 85 8,op 86 (.slice 1 (.t 84) (some (.t 85)) none none),mv 87 2,op 88 (.copy 1 (.t 86) (.t 87))] (some [0, 1, 7])) (.seq (.ops [mv 89 0,mv 90 1,op 91 (.slice 1 (.t 89) (some (.t 90)) none none),mv 92 7,op 93 (cl 88 [(.t 91), (.t 92)])] (some [0])) (.seq (.ops [mv 94 0,mv 6 94] (some [6])) .ret)))))))))))), [.tmp 6]⟩

theorem is76 : FnIs Try.prog 76 x76 := ⟨Try.f76, _, Try.func76, by kernel_rfl, rfl, by kernel_rfl, by decide, by kernel_rfl⟩

def x77 : XDecl := .code ⟨3,  (.seq (.ops [op 6 (.move (.c (.slice none 0 0)))] (some [0, 1, 2])) (.seq (.ops [mv 10 0,mv 11 1,op 12 (.slice 1 (.t 10) (some (.t 11)) none none)] (some [0, 1, 2])) (.seq (.ops [mv 13 2,op 14 (.len (.t 13)),mv 7 14] (some [0, 1, 2, 7])) (.seq (.seq (.ops [mv 15 7,op 16 (.bin .eql 3 (.t 15) (ic 0))] (some [0, 1, 2, 7, 16])) (.cond (.t 16) (.seq (.ops [mv 17 0,mv 6 17] (some [6])) .ret) .skip)) (.seq (.ops [mv 18 0,op 19 (.len (.t 18)),mv 8 19] (some [0, 1, 2, 7, 8])) (.seq (.seq (.ops [mv 20 1,mv 21 8,ib 22 .eql 3 20 21] (some [0, 1, 2, 7, 8, 22])) (.cond (.t 22) (.seq (.ops [mv 23 0,mv 24 2,op 25 (.append 1 8 [(.int .i64 0)] (.t 23) (.t 24)),mv 6 25] (some [6])) .ret) .skip)) (.seq (.seq (.ops [mv 26 8,mv 27 7,ib 28 .add 3 26 27,mv 29 0,op 30 (.cap (.t 29)),ib 31 .gtr 3 28 30] (some [0, 1, 2, 7, 8, 31])) (.cond (.t 31) (.seq (.ops [mv 32 0,mv 33 1,op 34 (.slice 1 (.t 32) none (some (.t 33)) none),mv 35 8,mv 36 7,ib 37 .add 3 35 36,mv 38 1,ib 39 .sub 3 37 38,op 40 (.appendZeros 1 8 [(.int .i64 0)] (.t 34) (.t 39)),mv 9 40] (some [0, 1, 2, 7, 9])) (.seq (.ops [mv 41 9,mv 42 1,op 43 (.slice 1 (.t 41) (some (.t 42)) none none),mv 44 2,op 45 (.copy 1 (.t 43) (.t 44))] (some [0, 1, 7, 9])) (.seq (.opsd [(0, 0, mv 46 9),(1, 0, mv 47 1),(2, 0, mv 48 7),(3, 6, ib 49 .add 3 47 48),(4, 15, op 50 (.slice 1 (.t 46) (some (.t 49)) none none)),(5, 0, mv 51 0),(6, 0, mv 52 1),(7, 96, op 53 (.slice 1 (.t 51) (some (.t 52)) none none)),(8, 255, op 54 (.copy 1 (.t 50) (.t 53)))] (some [9])) (.seq (.ops [mv 55 9,mv 6 55] (some [6])) .ret)))) .skip)) (.seq (.ops [mv 56 0,mv 57 8,mv 58 7,ib 59 .add 3 57 58,op 60 (.slice 1 (.t 56) none (some (.t 59)) none),mv 0 60] (some [0, 1, 2, 7, 8])) (.seq (.seq (.ops [mv 61 2,mv 62 0,mv 63 1,mv 64 7,ib 65 .add 3 63 64,op 66 (.slice 1 (.t 62) (some (.t 65)) none none),op 67 (cl 89 [(.t 61), (.t 66)]),op 68 (.un .not (.t 67))] (some [0, 1, 2, 7, 8, 68])) (.cond (.t 68) (.seq (.opsd [(0, 0, mv 69 0),(1, 0, mv 70 1),(2, 0, mv 71 7),(3, 6, ib 72 .add 3 70 71),(4, 15, op 73 (.slice 1 (.t 69) (some (.t 72)) none none)),(5, 0, mv 74 0),(6, 0, mv 75 1),(7, 96, op 76 (.slice 1 (.t 74) (some (.t 75)) none none)),(8, 255, op 77 (.copy 1 (.t 73) (.t 76)))] (some [0, 1, 2])) (.seq (.ops [mv 78 0,mv 79 1,op 80 (.slice 1 (.t 78) (some (.t 79)) none none),mv 81 2,op 82 (.copy 1 (.t 80) (.t 81))] (some [0])) (.seq (.ops [mv 83 0,mv 6 83] (some [6])) .ret))) .skip)) (.seq (.ops [mv 84 0,mv 85 8,op 86 (.slice 1 (.t 84) (some (.t 85)) none none),mv 87 2,op 88 (.copy 1 (.t 86) (.t 87))] (some [0, 1, 7])) (.seq (.ops [mv 89 0,mv 90 1,op 91 (.slice 1 (.t 89) (some (.t 90)) none none),mv 92 7,op 93 (cl 90 [(.t 91), (.t 92)])] (some [0])) (.seq (.ops [mv 94 0,mv 6 94] (some [6])) .ret)))))))))))), [.tmp 6]⟩

theorem is77 : FnIs Try.prog 77 x77 := ⟨Try.f77, _, Try.func77, by kernel_rfl, rfl, by kernel_rfl, by decide, by kernel_rfl⟩

def x78 : XDecl := .code ⟨1,  (.seq (.ops [op 2 (.move (.c (.slice none 0 0)))] (some [0])) (.seq (.seq (.ops [mv 3 0,op 4 (.isNil .slice false (.t 3))] (some [0, 4])) (.cond (.t 4) (.seq (.ops [op 2 (.move (.c (.slice none 0 0)))] (some [2])) .ret) .skip)) (.seq (.ops [op 5 (.buildSlice [(.string .empty)] 1 0 []),mv 6 0,op 7 (.append 1 16 [(.string .empty)] (.t 5) (.t 6)),mv 2 7] (some [2])) .ret))), [.tmp 2]⟩

theorem is78 : FnIs Try.prog 78 x78 := ⟨Try.f78, _, Try.func78, by kernel_rfl, rfl, by kernel_rfl, by decide, by kernel_rfl⟩

def x79 : XDecl := .code ⟨1,  (.seq (.ops [op 2 (.move (.c (.slice none 0 0)))] (some [0])) (.seq (.seq (.ops [mv 3 0,op 4 (.isNil .slice false (.t 3))] (some [0, 4])) (.cond (.t 4) (.seq (.ops [op 2 (.move (.c (.slice none 0 0)))] (some [2])) .ret) .skip)) (.seq (.ops [op 5 (.buildSlice [(.int .i64 0)] 1 0 []),mv 6 0,op 7 (.append 1 8 [(.int .i64 0)] (.t 5) (.t 6)),mv 2 7] (some [2])) .ret))), [.tmp 2]⟩

theorem is79 : FnIs Try.prog 79 x79 := ⟨Try.f79, _, Try.func79, by kernel_rfl, rfl, by kernel_rfl, by decide, by kernel_rfl⟩

def x80 : XDecl := .code ⟨1,  (.seq (.ops [op 2 (.move (.c (.int .u64 0)))] (some [0])) (.seq (.ops [mv 4 0,op 5 (cl 48 [(.t 4)]),mv 3 5] (some [3])) (.seq (.block 0 (.seq (.ops [mv 7 3,op 8 (.bin .eql 31 (.t 7) (.c (.int .u64 9221120237041090561))),mv 6 8] (some [3, 6])) (.cond (.t 6) (.seq (.ops [op 2 (.move (.c (.int .u64 18437736874454810626)))] (some [2])) .ret) (.seq (.ops [mv 10 3,op 11 (.bin .and 31 (.t 10) (.c (.int .u64 9223372036854775808))),op 12 (.bin .neq 31 (.t 11) (.c (.int .u64 0))),mv 9 12] (some [3, 9])) (.cond (.t 9) (.seq (.ops [mv 13 3,op 14 (.bin .andNot 31 (.t 13) (.c (.int .u64 9223372036854775808))),op 15 (.bin .sub 31 (.c (.int .u64 9218868437227405312)) (.t 14)),mv 2 15] (some [2])) .ret) .skip))))) (.seq (.ops [mv 16 3,op 17 (.bin .add 31 (.c (.int .u64 9218868437227405313)) (.t 16)),mv 2 17] (some [2])) .ret)))), [.tmp 2]⟩

theorem is80 : FnIs Try.prog 80 x80 := ⟨Try.f80, _, Try.func80, by kernel_rfl, rfl, by kernel_rfl, by decide, by kernel_rfl⟩

def x81 : XDecl := .code ⟨3,  (.seq (.ops [op 6 (.move (.c (.string .empty))),op 7 (.move (ic 0)),op 8 (.move (.c (.bool false)))] (some [0, 1, 2])) (.seq (.ops [mv 12 0,nc 13 12,fa 14 0 13,ld 15 1 14,mv 16 1,op 17 (.indexAddr 3 (.t 15) (.t 16)),mv 9 17] (some [0, 2, 9])) (.seq (.block 0 (.loop (.seq (.seq (.ops [mv 18 9,op 19 (cl 60 [(.t 18)]),op 20 (.un .not (.t 19))] (some [0, 2, 9, 20])) (.cond (.t 20) .skip (.exit 0))) (.block 1 (.seq (.ops [op 10 (.move (ic 0))] (some [0, 2, 9, 10])) (.seq (.seq (.ops [mv 21 2] (some [0, 2, 9, 10, 21])) (.cond (.t 21) (.ops [mv 22 9,nc 23 22,fa 24 2 23,ld 25 1 24,op 26 (.len (.t 25)),op 27 (.bin .sub 3 (.t 26) (ic 1)),mv 10 27] (some [0, 2, 9, 10])) .skip)) (.opsr [mv 28 0,nc 29 28,fa 30 0 29,ld 31 1 30,mv 32 9,nc 33 32,fa 34 2 33,ld 35 1 34,mv 36 10,op 37 (.indexAddr 1 (.t 35) (.t 36)),ld 38 1 37,op 39 (.indexAddr 3 (.t 31) (.t 38)),mv 9 39] (some [0, 2, 9])))))))) (.seq (.ops [op 11 (.move (ic 0))] (some [2, 9, 11])) (.seq (.seq (.ops [mv 40 2] (some [9, 11, 40])) (.cond (.t 40) (.ops [mv 41 9,nc 42 41,fa 43 0 42,ld 44 1 43,op 45 (.len (.t 44)),op 46 (.bin .sub 3 (.t 45) (ic 1)),mv 11 46] (some [9, 11])) .skip)) (.seq (.opsr [mv 47 9,nc 48 47,fa 49 0 48,ld 50 1 49,mv 51 11,op 52 (.indexAddr 1 (.t 50) (.t 51)),ld 53 1 52,mv 54 9,nc 55 54,fa 56 1 55,ld 57 1 56,mv 58 11,op 59 (.indexAddr 1 (.t 57) (.t 58)),ld 60 1 59,mv 6 53,mv 7 60,op 8 (.move (.c (.bool true)))] (some [6, 7, 8])) .ret)))))), [.tmp 6, .tmp 7, .tmp 8]⟩

theorem is81 : FnIs Try.prog 81 x81 := ⟨Try.f81, _, Try.func81, by kernel_rfl, rfl, by kernel_rfl, by decide, by kernel_rfl⟩

def x82 : XDecl := .code ⟨2,  (.seq (.ops [op 4 (.move (.c (.bool false)))] (some [0, 1])) (.seq (.ops [mv 5 0,op 6 (cl 91 [(.t 5)]),mv 7 6,og 8 7 (.move (.t 1)),og 9 7 (cl 91 [(.t 8)]),og 10 7 (.un .not (.t 9)),op 11 (.pick (.t 7) (.t 10) (.c (.bool false))),mv 12 11,on 13 12 (.move (.t 0)),on 14 12 (.move (.t 1)),on 15 12 (.bin .lss 9 (.t 13) (.t 14)),op 16 (.pick (.t 12) (.c (.bool true)) (.t 15)),mv 4 16] (some [4])) .ret)), [.tmp 4]⟩

theorem is82 : FnIs Try.prog 82 x82 := ⟨Try.f82, _, Try.func82, by kernel_rfl, rfl, by kernel_rfl, by decide, by kernel_rfl⟩

def x83 : XDecl := .code ⟨1,  (.seq (.ops [op 2 (.move (.c (.bool false)))] (some [0])) (.seq (.ops [mv 3 0,mv 4 0,ib 5 .neq 9 3 4,mv 2 5] (some [2])) .ret)), [.tmp 2]⟩

theorem is83 : FnIs Try.prog 83 x83 := ⟨Try.f83, _, Try.func83, by kernel_rfl, rfl, by kernel_rfl, by decide, by kernel_rfl⟩

def x84 : XDecl := .code ⟨3,  (.seq (.ops [mv 9 1,nc 10 9,fa 11 2 10,ld 12 1 11,mv 13 2,op 14 (.indexAddr 1 (.t 12) (.t 13)),ld 15 1 14,mv 6 15] (some [0, 1, 2, 6])) (.seq (.opsd [(0, 0, mv 16 0),(1, 1, nc 17 16),(2, 3, fa 18 0 17),(3, 7, ld 19 1 18),(4, 0, mv 20 1),(5, 16, nc 21 20),(6, 48, fa 22 2 21),(7, 112, ld 23 1 22),(8, 0, mv 24 2),(9, 256, op 25 (.bin .sub 3 (.t 24) (ic 1))),(10, 1008, op 26 (.indexAddr 1 (.t 23) (.t 25))),(11, 2032, ld 27 1 26),(12, 4095, op 28 (.indexAddr 3 (.t 19) (.t 27))),(13, 0, mv 29 0),(14, 8192, nc 30 29),(15, 24576, fa 31 0 30),(16, 57344, ld 32 1 31),(17, 0, mv 33 6),(18, 253952, op 34 (.indexAddr 3 (.t 32) (.t 33))),(19, 516096, op 35 (.load true 3 (.t 34))),(20, 0, op 8 (.alloc [(.slice none 0 0), (.slice none 0 0), (.slice none 0 0)])),(21, 1056767, mv 7 28),(22, 4194303, st 3 8 35)] (some [0, 1, 2, 6, 7, 8])) (.seq (.seq (.ops [mv 36 7,op 37 (cl 60 [(.t 36)]),op 38 (.un .not (.t 37))] (some [0, 1, 2, 6, 7, 8, 38])) (.cond (.t 38) (.opsd [(0, 0, mv 39 7),(1, 0, mv 40 7),(2, 2, nc 41 40),(3, 6, fa 42 0 41),(4, 14, ld 43 1 42),(5, 0, mv 44 1),(6, 32, nc 45 44),(7, 96, fa 46 0 45),(8, 224, ld 47 1 46),(9, 0, mv 48 2),(10, 512, op 49 (.bin .sub 3 (.t 48) (ic 1))),(11, 2016, op 50 (.indexAddr 1 (.t 47) (.t 49))),(12, 4064, ld 51 1 50),(13, 8160, op 52 (.buildSlice [(.string .empty)] 1 1 [(0, (.t 51))])),(14, 16382, op 53 (.append 1 16 [(.string .empty)] (.t 43) (.t 52))),(15, 32767, nc 54 39),(16, 65535, fa 55 0 54),(17, 131071, st 1 55 53)] (some [0, 1, 2, 6, 7, 8])) .skip)) (.seq (.opsd [(0, 0, mv 56 7),(1, 0, mv 57 7),(2, 0, mv 58 7),(3, 0, mv 59 7),(4, 8, nc 60 59),(5, 24, fa 61 0 60),(6, 56, ld 62 1 61),(7, 0, fa 63 0 8),(8, 128, ld 64 1 63),(10, 0, mv 66 7),(11, 1024, nc 67 66),(12, 3072, fa 68 1 67),(13, 7168, ld 69 1 68),(14, 0, fa 70 1 8),(15, 16384, ld 71 1 70),(17, 0, mv 73 7),(18, 131072, nc 74 73),(19, 393216, fa 75 2 74),(20, 917504, ld 76 1 75),(21, 0, fa 77 2 8),(22, 2097152, ld 78 1 77),(9, 504, op 65 (.append 1 16 [(.string .empty)] (.t 62) (.t 64))),(16, 65528, op 72 (.append 1 8 [(.int .i64 0)] (.t 69) (.t 71))),(23, 8388600, op 79 (.append 1 8 [(.int .i64 0)] (.t 76) (.t 78))),(24, 16777209, nc 80 56),(25, 33554425, fa 81 0 80),(26, 67108857, st 1 81 65),(27, 134217723, nc 82 57),(28, 268435451, fa 83 1 82),(29, 536870907, st 1 83 72),(30, 1073741823, nc 84 58),(31, 2147483647, fa 85 2 84),(32, 4294967295, st 1 85 79)] (some [0, 1, 2, 6])) (.seq (.opsd [(0, 0, mv 86 1),(1, 0, mv 87 1),(2, 0, mv 88 1),(3, 4, nc 89 88),(4, 12, fa 90 0 89),(5, 28, ld 91 1 90),(6, 0, mv 92 2),(7, 64, op 93 (.bin .sub 3 (.t 92) (ic 1))),(8, 0, mv 94 2),(10, 0, mv 96 1),(11, 1024, nc 97 96),(12, 3072, fa 98 2 97),(13, 7168, ld 99 1 98),(14, 0, mv 100 2),(15, 0, mv 101 2),(16, 32768, op 102 (.bin .add 3 (.t 101) (ic 1))),(9, 508, op 95 (cl 73 [(.t 91), (.t 93), (.t 94)])),(17, 131068, op 103 (cl 74 [(.t 99), (.t 100), (.t 102)])),(18, 262141, nc 104 86),(19, 524285, fa 105 0 104),(20, 1048573, st 1 105 95),(21, 2097151, nc 106 87),(22, 4194303, fa 107 2 106),(23, 8388607, st 1 107 103)] (some [0, 6])) (.ops [mv 108 0,mv 109 6,op 110 (cl 59 [(.t 108), (.t 109)])] (some []))))))), []⟩

theorem is84 : FnIs Try.prog 84 x84 := ⟨Try.f84, _, Try.func84, by kernel_rfl, rfl, by kernel_rfl, by decide, by kernel_rfl⟩

def x85 : XDecl := .code ⟨1,  (.seq (.ops [op 2 (.move (.c (.slice none 0 0)))] (some [0])) (.seq (.ops [op 3 (.move (ic 0))] (some [0, 3])) (.seq (.seq (.ops [mv 9 0,op 10 (.len (.t 9)),op 11 (.move (ic 0))] (some [0, 3, 9, 10, 11])) (.block 0 (.loop (.seq (.ops [ib 12 .lss 3 11 10] (some [0, 3, 9, 10, 11, 12])) (.seq (.cond (.t 12) .skip (.exit 0)) (.seq (.block 1 (.seq (.ops [op 13 (.indexAddr 1 (.t 9) (.t 11)),ld 14 1 13,mv 5 14] (some [0, 3, 5, 9, 10, 11])) (.seq (.ops [mv 15 3,mv 16 5,op 17 (.len (.t 16)),ib 18 .add 3 15 17,mv 3 18] (some [0, 3, 9, 10, 11])) (.seq (.ops [mv 19 3,op 20 (.bin .lss 3 (.t 19) (ic 0))] (some [0, 3, 9, 10, 11, 20])) (.cond (.t 20) (.ops [op 21 (.makeIface 9 (.c (.string ⟨#[108, 101, 110, 32, 111, 117, 116, 32, 111, 102, 32, 114, 97, 110, 103, 101]⟩))),sd (.fail)] (some [0, 3, 9, 10, 11])) .skip))))) (.ops [op 22 (.bin .add 3 (.t 11) (ic 1)),mv 11 22] (some [0, 3, 9, 10, 11])))))))) (.seq (.ops [mv 23 3,op 24 (cl 92 [(.c (.slice none 0 0)), (.t 23)]),mv 6 24] (some [0, 6])) (.seq (.seq (.ops [mv 25 0,op 26 (.len (.t 25)),op 27 (.move (ic 0))] (some [6, 25, 26, 27])) (.block 2 (.loop (.seq (.ops [ib 28 .lss 3 27 26] (some [6, 25, 26, 27, 28])) (.seq (.cond (.t 28) .skip (.exit 2)) (.seq (.block 3 (.seq (.ops [op 29 (.indexAddr 1 (.t 25) (.t 27)),ld 30 1 29,mv 8 30] (some [6, 8, 25, 26, 27])) (.ops [mv 31 6,mv 32 8,op 33 (.append 1 16 [(.string .empty)] (.t 31) (.t 32)),mv 6 33] (some [6, 25, 26, 27])))) (.ops [op 34 (.bin .add 3 (.t 27) (ic 1)),mv 27 34] (some [6, 25, 26, 27])))))))) (.seq (.ops [mv 35 6,mv 2 35] (some [2])) .ret)))))), [.tmp 2]⟩

theorem is85 : FnIs Try.prog 85 x85 := ⟨Try.f85, _, Try.func85, by kernel_rfl, rfl, by kernel_rfl, by decide, by kernel_rfl⟩

def x86 : XDecl := .code ⟨1,  (.seq (.ops [op 2 (.move (.c (.slice none 0 0)))] (some [0])) (.seq (.ops [op 3 (.move (ic 0))] (some [0, 3])) (.seq (.seq (.ops [mv 9 0,op 10 (.len (.t 9)),op 11 (.move (ic 0))] (some [0, 3, 9, 10, 11])) (.block 0 (.loop (.seq (.ops [ib 12 .lss 3 11 10] (some [0, 3, 9, 10, 11, 12])) (.seq (.cond (.t 12) .skip (.exit 0)) (.seq (.block 1 (.seq (.ops [op 13 (.indexAddr 1 (.t 9) (.t 11)),ld 14 1 13,mv 5 14] (some [0, 3, 5, 9, 10, 11])) (.seq (.ops [mv 15 3,mv 16 5,op 17 (.len (.t 16)),ib 18 .add 3 15 17,mv 3 18] (some [0, 3, 9, 10, 11])) (.seq (.ops [mv 19 3,op 20 (.bin .lss 3 (.t 19) (ic 0))] (some [0, 3, 9, 10, 11, 20])) (.cond (.t 20) (.ops [op 21 (.makeIface 9 (.c (.string ⟨#[108, 101, 110, 32, 111, 117, 116, 32, 111, 102, 32, 114, 97, 110, 103, 101]⟩))),sd (.fail)] (some [0, 3, 9, 10, 11])) .skip))))) (.ops [op 22 (.bin .add 3 (.t 11) (ic 1)),mv 11 22] (some [0, 3, 9, 10, 11])))))))) (.seq (.ops [mv 23 3,op 24 (cl 93 [(.c (.slice none 0 0)), (.t 23)]),mv 6 24] (some [0, 6])) (.seq (.seq (.ops [mv 25 0,op 26 (.len (.t 25)),op 27 (.move (ic 0))] (some [6, 25, 26, 27])) (.block 2 (.loop (.seq (.ops [ib 28 .lss 3 27 26] (some [6, 25, 26, 27, 28])) (.seq (.cond (.t 28) .skip (.exit 2)) (.seq (.block 3 (.seq (.ops [op 29 (.indexAddr 1 (.t 25) (.t 27)),ld 30 1 29,mv 8 30] (some [6, 8, 25, 26, 27])) (.ops [mv 31 6,mv 32 8,op 33 (.append 1 8 [(.int .i64 0)] (.t 31) (.t 32)),mv 6 33] (some [6, 25, 26, 27])))) (.ops [op 34 (.bin .add 3 (.t 27) (ic 1)),mv 27 34] (some [6, 25, 26, 27])))))))) (.seq (.ops [mv 35 6,mv 2 35] (some [2])) .ret)))))), [.tmp 2]⟩

theorem is86 : FnIs Try.prog 86 x86 := ⟨Try.f86, _, Try.func86, by kernel_rfl, rfl, by kernel_rfl, by decide, by kernel_rfl⟩

-- 87 slices.overlaps[string]: no body
def x87 : XDecl := .ext 87

theorem is87 : FnIs Try.prog 87 x87 := rfl

def x88 : XDecl := .code ⟨2,  (.ops [mv 4 0,mv 5 0,op 6 (.len (.t 5)),mv 7 1,ib 8 .sub 3 6 7,op 9 (cl 94 [(.t 4), (.t 8)])] (some [])), []⟩

theorem is88 : FnIs Try.prog 88 x88 := ⟨Try.f88, _, Try.func88, by kernel_rfl, rfl, by kernel_rfl, by decide, by kernel_rfl⟩

-- 89 slices.overlaps[int]: no body
def x89 : XDecl := .ext 89

theorem is89 : FnIs Try.prog 89 x89 := rfl

def x90 : XDecl := .code ⟨2,  (.ops [mv 4 0,mv 5 0,op 6 (.len (.t 5)),mv 7 1,ib 8 .sub 3 6 7,op 9 (cl 95 [(.t 4), (.t 8)])] (some [])), []⟩

theorem is90 : FnIs Try.prog 90 x90 := ⟨Try.f90, _, Try.func90, by kernel_rfl, rfl, by kernel_rfl, by decide, by kernel_rfl⟩

def x91 : XDecl := .code ⟨1,  (.seq (.ops [op 2 (.move (.c (.bool false)))] (some [0])) (.seq (.ops [mv 3 0,mv 4 0,ib 5 .neq 9 3 4,mv 2 5] (some [2])) .ret)), [.tmp 2]⟩

theorem is91 : FnIs Try.prog 91 x91 := ⟨Try.f91, _, Try.func91, by kernel_rfl, rfl, by kernel_rfl, by decide, by kernel_rfl⟩

def x92 : XDecl := .code ⟨2,  (.seq (.ops [op 4 (.move (.c (.slice none 0 0)))] (some [0, 1])) (.seq (.seq (.ops [mv 5 1,op 6 (.bin .lss 3 (.t 5) (ic 0))] (some [0, 1, 6])) (.cond (.t 6) (.ops [op 7 (.makeIface 9 (.c (.string ⟨#[99, 97, 110, 110, 111, 116, 32, 98, 101, 32, 110, 101, 103, 97, 116, 105, 118, 101]⟩))),sd (.fail)] (some [0, 1])) .skip)) (.seq (.seq (.ops [mv 8 1,mv 9 0,op 10 (.cap (.t 9)),mv 11 0,op 12 (.len (.t 11)),ib 13 .sub 3 10 12,ib 14 .sub 3 8 13,mv 1 14] (some [0, 1])) (.seq (.ops [mv 15 1,op 16 (.bin .gtr 3 (.t 15) (ic 0))] (some [0, 1, 16])) (.cond (.t 16) (.ops [mv 17 0,mv 18 0,op 19 (.cap (.t 18)),op 20 (.slice 1 (.t 17) none (some (.t 19)) none),mv 21 1,op 22 (.appendZeros 1 16 [(.string .empty)] (.t 20) (.t 21)),mv 23 0,op 24 (.len (.t 23)),op 25 (.slice 1 (.t 22) none (some (.t 24)) none),mv 0 25] (some [0])) .skip))) (.seq (.ops [mv 26 0,mv 4 26] (some [4])) .ret)))), [.tmp 4]⟩

theorem is92 : FnIs Try.prog 92 x92 := ⟨Try.f92, _, Try.func92, by kernel_rfl, rfl, by kernel_rfl, by decide, by kernel_rfl⟩

def x93 : XDecl := .code ⟨2,  (.seq (.ops [op 4 (.move (.c (.slice none 0 0)))] (some [0, 1])) (.seq (.seq (.ops [mv 5 1,op 6 (.bin .lss 3 (.t 5) (ic 0))] (some [0, 1, 6])) (.cond (.t 6) (.ops [op 7 (.makeIface 9 (.c (.string ⟨#[99, 97, 110, 110, 111, 116, 32, 98, 101, 32, 110, 101, 103, 97, 116, 105, 118, 101]⟩))),sd (.fail)] (some [0, 1])) .skip)) (.seq (.seq (.ops [mv 8 1,mv 9 0,op 10 (.cap (.t 9)),mv 11 0,op 12 (.len (.t 11)),ib 13 .sub 3 10 12,ib 14 .sub 3 8 13,mv 1 14] (some [0, 1])) (.seq (.ops [mv 15 1,op 16 (.bin .gtr 3 (.t 15) (ic 0))] (some [0, 1, 16])) (.cond (.t 16) (.ops [mv 17 0,mv 18 0,op 19 (.cap (.t 18)),op 20 (.slice 1 (.t 17) none (some (.t 19)) none),mv 21 1,op 22 (.appendZeros 1 8 [(.int .i64 0)] (.t 20) (.t 21)),mv 23 0,op 24 (.len (.t 23)),op 25 (.slice 1 (.t 22) none (some (.t 24)) none),mv 0 25] (some [0])) .skip))) (.seq (.ops [mv 26 0,mv 4 26] (some [4])) .ret)))), [.tmp 4]⟩

theorem is93 : FnIs Try.prog 93 x93 := ⟨Try.f93, _, Try.func93, by kernel_rfl, rfl, by kernel_rfl, by decide, by kernel_rfl⟩

def x94 : XDecl := .code ⟨2,  (.seq (.ops [mv 4 0,mv 5 1,op 6 (.slice 1 (.t 4) none (some (.t 5)) none),op 7 (cl 96 [(.t 6)])] (some [0, 1])) (.seq (.ops [mv 8 0,mv 9 1,op 10 (.slice 1 (.t 8) (some (.t 9)) none none),op 11 (cl 96 [(.t 10)])] (some [0])) (.ops [mv 12 0,op 13 (cl 96 [(.t 12)])] (some [])))), []⟩

theorem is94 : FnIs Try.prog 94 x94 := ⟨Try.f94, _, Try.func94, by kernel_rfl, rfl, by kernel_rfl, by decide, by kernel_rfl⟩

def x95 : XDecl := .code ⟨2,  (.seq (.ops [mv 4 0,mv 5 1,op 6 (.slice 1 (.t 4) none (some (.t 5)) none),op 7 (cl 97 [(.t 6)])] (some [0, 1])) (.seq (.ops [mv 8 0,mv 9 1,op 10 (.slice 1 (.t 8) (some (.t 9)) none none),op 11 (cl 97 [(.t 10)])] (some [0])) (.ops [mv 12 0,op 13 (cl 97 [(.t 12)])] (some [])))), []⟩

theorem is95 : FnIs Try.prog 95 x95 := ⟨Try.f95, _, Try.func95, by kernel_rfl, rfl, by kernel_rfl, by decide, by kernel_rfl⟩

def x96 : XDecl := .code ⟨1,  (.seq (.ops [mv 4 0,op 5 (.len (.t 4)),op 6 (.bin .sub 3 (.t 5) (ic 1)),op 2 (.move (ic 0)),mv 3 6] (some [0, 2, 3])) (.block 0 (.loop (.seq (.seq (.ops [mv 7 2,mv 8 3,ib 9 .lss 3 7 8] (some [0, 2, 3, 9])) (.cond (.t 9) .skip (.exit 0))) (.seq (.block 1 (.opsd [(0, 0, mv 14 0),(1, 0, mv 15 2),(2, 0, mv 16 0),(3, 0, mv 17 3),(4, 0, mv 18 0),(5, 0, mv 19 3),(6, 48, op 20 (.indexAddr 1 (.t 18) (.t 19))),(7, 112, ld 21 1 20),(8, 0, mv 22 0),(9, 0, mv 23 2),(10, 768, op 24 (.indexAddr 1 (.t 22) (.t 23))),(11, 1792, ld 25 1 24),(12, 4083, op 26 (.indexAddr 1 (.t 14) (.t 15))),(13, 8179, st 1 26 21),(14, 16383, op 27 (.indexAddr 1 (.t 16) (.t 17))),(15, 32767, st 1 27 25)] (some [0, 2, 3]))) (.ops [mv 10 2,op 11 (.bin .add 3 (.t 10) (ic 1)),mv 12 3,op 13 (.bin .sub 3 (.t 12) (ic 1)),mv 2 11,mv 3 13] (some [0, 2, 3]))))))), []⟩

theorem is96 : FnIs Try.prog 96 x96 := ⟨Try.f96, _, Try.func96, by kernel_rfl, rfl, by kernel_rfl, by decide, by kernel_rfl⟩

def x97 : XDecl := .code ⟨1,  (.seq (.ops [mv 4 0,op 5 (.len (.t 4)),op 6 (.bin .sub 3 (.t 5) (ic 1)),op 2 (.move (ic 0)),mv 3 6] (some [0, 2, 3])) (.block 0 (.loop (.seq (.seq (.ops [mv 7 2,mv 8 3,ib 9 .lss 3 7 8] (some [0, 2, 3, 9])) (.cond (.t 9) .skip (.exit 0))) (.seq (.block 1 (.opsd [(0, 0, mv 14 0),(1, 0, mv 15 2),(2, 0, mv 16 0),(3, 0, mv 17 3),(4, 0, mv 18 0),(5, 0, mv 19 3),(6, 48, op 20 (.indexAddr 1 (.t 18) (.t 19))),(7, 112, ld 21 1 20),(8, 0, mv 22 0),(9, 0, mv 23 2),(10, 768, op 24 (.indexAddr 1 (.t 22) (.t 23))),(11, 1792, ld 25 1 24),(12, 4083, op 26 (.indexAddr 1 (.t 14) (.t 15))),(13, 8179, st 1 26 21),(14, 16383, op 27 (.indexAddr 1 (.t 16) (.t 17))),(15, 32767, st 1 27 25)] (some [0, 2, 3]))) (.ops [mv 10 2,op 11 (.bin .add 3 (.t 10) (ic 1)),mv 12 3,op 13 (.bin .sub 3 (.t 12) (ic 1)),mv 2 11,mv 3 13] (some [0, 2, 3]))))))), []⟩

theorem is97 : FnIs Try.prog 97 x97 := ⟨Try.f97, _, Try.func97, by kernel_rfl, rfl, by kernel_rfl, by decide, by kernel_rfl⟩

def tabB : FuncId → Option XDecl
  | 63 => some x63
  | 64 => some x64
  | 65 => some x65
  | 66 => some x66
  | 67 => some x67
  | 68 => some x68
  | 69 => some x69
  | 70 => some x70
  | 71 => some x71
  | 72 => some x72
  | 73 => some x73
  | 74 => some x74
  | 75 => some x75
  | 76 => some x76
  | 77 => some x77
  | 78 => some x78
  | 79 => some x79
  | 80 => some x80
  | 81 => some x81
  | 82 => some x82
  | 83 => some x83
  | 84 => some x84
  | 85 => some x85
  | 86 => some x86
  | 87 => some x87
  | 88 => some x88
  | 89 => some x89
  | 90 => some x90
  | 91 => some x91
  | 92 => some x92
  | 93 => some x93
  | 94 => some x94
  | 95 => some x95
  | 96 => some x96
  | 97 => some x97
  | _ => none
theorem tabB_is : ∀ f d, tabB f = some d → FnIs Try.prog f d := by
  intro f d h
  unfold tabB at h
  split at h
  · cases h; exact is63
  · cases h; exact is64
  · cases h; exact is65
  · cases h; exact is66
  · cases h; exact is67
  · cases h; exact is68
  · cases h; exact is69
  · cases h; exact is70
  · cases h; exact is71
  · cases h; exact is72
  · cases h; exact is73
  · cases h; exact is74
  · cases h; exact is75
  · cases h; exact is76
  · cases h; exact is77
  · cases h; exact is78
  · cases h; exact is79
  · cases h; exact is80
  · cases h; exact is81
  · cases h; exact is82
  · cases h; exact is83
  · cases h; exact is84
  · cases h; exact is85
  · cases h; exact is86
  · cases h; exact is87
  · cases h; exact is88
  · cases h; exact is89
  · cases h; exact is90
  · cases h; exact is91
  · cases h; exact is92
  · cases h; exact is93
  · cases h; exact is94
  · cases h; exact is95
  · cases h; exact is96
  · cases h; exact is97
  · cases h

end Go.Proofs.Ytnlmnejellipdaa.X
