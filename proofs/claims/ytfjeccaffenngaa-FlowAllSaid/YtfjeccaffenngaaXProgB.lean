/-
  Own work, printed by a program of ours (mkprog.py): the functions of this seat as code of the abstract run, and that each is the model's.
-/
import Derived.Test.YtfjeccaffenngaaXLaw
import Derived.Test.YtfjeccaffenngaaChecked
set_option maxRecDepth 100000
namespace Go.Proofs.Ytfjeccaffenngaa.X
open Go

/-- cloisonne/label.Right -/
def x30 : XDecl := .code ⟨1, 
 (.seq (.ops [⟨(some 2), none, .move (.c (.bool false))⟩] (some [0]))
 (.seq (.seq (.ops [⟨(some 6), none, .move (.t 0)⟩,
   ⟨(some 7), none, .len (.t 6)⟩,
   ⟨(some 8), none, .bin .gtr 3 (.t 7) (.c (.int .i64 6))⟩] (some [0, 8]))
 (.cond (.t 8)
  (.seq (.ops [⟨(some 2), none, .move (.c (.bool false))⟩] (some [2]))
  .ret)
  .skip))
 (.seq (.ops [⟨(some 3), none, .move (.c (.int .u64 0))⟩] (some [0, 3]))
 (.seq (.seq (.ops [⟨(some 9), none, .move (.t 0)⟩,
   ⟨(some 10), none, .len (.t 9)⟩,
   ⟨(some 11), none, .move (.c (.int .i64 0))⟩] (some [3, 9, 10, 11]))
 (.block 0
  (.loop
   (.seq (.ops [⟨(some 12), none, .bin .lss 3 (.t 11) (.t 10)⟩] (some [3, 9, 10, 11, 12]))
   (.seq (.cond (.t 12)
    .skip
    (.exit 0))
   (.seq (.block 1
    (.seq (.ops [⟨(some 13), none, .indexAddr 1 (.t 9) (.t 11)⟩,
      ⟨(some 14), none, .load false 1 (.t 13)⟩,
      ⟨(some 5), none, .move (.t 14)⟩] (some [3, 5, 9, 10, 11]))
    (.seq (.seq (.ops [⟨(some 15), none, .move (.t 5)⟩,
      ⟨(some 16), none, .move (.t 3)⟩,
      ⟨(some 17), none, .bin .leq 30 (.t 15) (.t 16)⟩] (some [5, 9, 10, 11, 17]))
    (.cond (.t 17)
     (.seq (.ops [⟨(some 2), none, .move (.c (.bool false))⟩] (some [2]))
     .ret)
     .skip))
    (.ops [⟨(some 18), none, .move (.t 5)⟩,
      ⟨(some 3), none, .move (.t 18)⟩] (some [3, 9, 10, 11])))))
   (.ops [⟨(some 19), none, .bin .add 3 (.t 11) (.c (.int .i64 1))⟩,
     ⟨(some 11), none, .move (.t 19)⟩] (some [3, 9, 10, 11]))))))))
 (.seq (.ops [⟨(some 2), none, .move (.c (.bool true))⟩] (some [2]))
 .ret))))), [.tmp 2]⟩

theorem is30 : FnIs Try.prog 30 x30 := ⟨Try.f30, _, Try.func30, by kernel_rfl, rfl, by kernel_rfl, by decide, by kernel_rfl⟩

/-- cloisonne/flow.Comes$1 -/
def x31 : XDecl := .code ⟨3, 
 (.seq (.ops [⟨(some 4), none, .move (.c (.bool false))⟩] (some [0, 1, 2]))
 (.seq (.ops [⟨(some 5), none, .load false 1 (.t 1)⟩,
   ⟨(some 6), none, .load false 1 (.t 2)⟩,
   ⟨(some 7), none, .move (.t 0)⟩,
   ⟨(some 8), none, .call (.c (.func (.func 32) #[] #[])) [(.t 5), (.t 6), (.t 7)]⟩,
   ⟨(some 9), none, .un .not (.t 8)⟩,
   ⟨(some 4), none, .move (.t 9)⟩] (some [4]))
 .ret)), [.tmp 4]⟩

theorem is31 : FnIs Try.prog 31 x31 := ⟨Try.f31, _, Try.func31, by kernel_rfl, rfl, by kernel_rfl, by decide, by kernel_rfl⟩

/-- (*cloisonne/caps.Table).MayDrop -/
def x32 : XDecl := .code ⟨3, 
 (.seq (.ops [⟨(some 6), none, .move (.c (.bool false))⟩] (some [0, 1, 2]))
 (.seq (.ops [⟨(some 7), none, .move (.t 0)⟩,
   ⟨(some 8), none, .move (.t 1)⟩,
   ⟨(some 9), none, .call (.c (.func (.func 49) #[] #[])) [(.t 7), (.t 8)]⟩,
   ⟨(some 10), none, .move (.t 9)⟩,
   ⟨(some 11), (some (10, true)), .move (.t 0)⟩,
   ⟨(some 12), (some (10, true)), .nilCheck (.t 11)⟩,
   ⟨(some 13), (some (10, true)), .fieldAddr 1 (.t 12)⟩,
   ⟨(some 14), (some (10, true)), .load false 1 (.t 13)⟩,
   ⟨(some 15), (some (10, true)), .move (.t 1)⟩,
   ⟨(some 16), (some (10, true)), .indexAddr 2 (.t 14) (.t 15)⟩,
   ⟨(some 17), (some (10, true)), .fieldAddr 1 (.t 16)⟩,
   ⟨(some 18), (some (10, true)), .load false 1 (.t 17)⟩,
   ⟨(some 19), (some (10, true)), .move (.t 2)⟩,
   ⟨(some 20), (some (10, true)), .call (.c (.func (.func 50) #[] #[])) [(.t 18), (.t 19)]⟩,
   ⟨(some 21), none, .pick (.t 10) (.t 20) (.c (.bool false))⟩,
   ⟨(some 6), none, .move (.t 21)⟩] (some [6]))
 .ret)), [.tmp 6]⟩

theorem is32 : FnIs Try.prog 32 x32 := ⟨Try.f32, _, Try.func32, by kernel_rfl, rfl, by kernel_rfl, by decide, by kernel_rfl⟩

/-- slices.ContainsFunc[[]uint64,uint64] -/
def x33 : XDecl := .code ⟨2, 
 (.seq (.ops [⟨(some 4), none, .move (.c (.bool false))⟩] (some [0, 1]))
 (.seq (.ops [⟨(some 5), none, .move (.t 0)⟩,
   ⟨(some 6), none, .move (.t 1)⟩,
   ⟨(some 7), none, .call (.c (.func (.func 51) #[] #[])) [(.t 5), (.t 6)]⟩,
   ⟨(some 8), none, .bin .geq 3 (.t 7) (.c (.int .i64 0))⟩,
   ⟨(some 4), none, .move (.t 8)⟩] (some [4]))
 .ret)), [.tmp 4]⟩

theorem is33 : FnIs Try.prog 33 x33 := ⟨Try.f33, _, Try.func33, by kernel_rfl, rfl, by kernel_rfl, by decide, by kernel_rfl⟩

/-- cloisonne/label.Less -/
def x34 : XDecl := .code ⟨2, 
 (.seq (.ops [⟨(some 4), none, .move (.c (.slice none 0 0))⟩] (some [0, 1]))
 (.seq (.ops [⟨(some 5), none, .move (.t 0)⟩,
   ⟨(some 6), none, .move (.t 1)⟩,
   ⟨(some 7), none, .call (.c (.func (.func 52) #[] #[])) [(.t 5), (.t 6), (.c (.bool false))]⟩,
   ⟨(some 4), none, .move (.t 7)⟩] (some [4]))
 .ret)), [.tmp 4]⟩

theorem is34 : FnIs Try.prog 34 x34 := ⟨Try.f34, _, Try.func34, by kernel_rfl, rfl, by kernel_rfl, by decide, by kernel_rfl⟩

/-- (*cloisonne/caps.Table).Clear -/
def x35 : XDecl := .code ⟨4, 
 (.seq (.ops [⟨(some 6), none, .box (.t 2)⟩,
   ⟨(some 8), none, .move (.c (.bool false))⟩] (some [0, 1, 3, 6]))
 (.seq (.seq (.ops [⟨(some 10), none, .move (.t 0)⟩,
   ⟨(some 11), none, .move (.t 1)⟩,
   ⟨(some 12), none, .call (.c (.func (.func 49) #[] #[])) [(.t 10), (.t 11)]⟩,
   ⟨(some 13), none, .un .not (.t 12)⟩] (some [0, 1, 3, 6, 13]))
 (.cond (.t 13)
  (.seq (.ops [⟨(some 8), none, .move (.c (.bool false))⟩] (some [8]))
  .ret)
  .skip))
 (.seq (.ops [⟨(some 14), none, .move (.t 0)⟩,
   ⟨(some 15), none, .nilCheck (.t 14)⟩,
   ⟨(some 16), none, .fieldAddr 1 (.t 15)⟩,
   ⟨(some 17), none, .load false 1 (.t 16)⟩,
   ⟨(some 18), none, .move (.t 1)⟩,
   ⟨(some 19), none, .indexAddr 2 (.t 17) (.t 18)⟩,
   ⟨(some 20), none, .fieldAddr 0 (.t 19)⟩,
   ⟨(some 21), none, .load false 1 (.t 20)⟩,
   ⟨(some 9), none, .alloc [(.int .u64 0)]⟩,
   ⟨none, none, .store 1 (.t 9) (.t 21)⟩] (some [3, 6, 9]))
 (.seq (.ops [⟨(some 22), none, .move (.t 3)⟩,
   ⟨(some 23), none, .makeFunc (.func 53) [] [(.t 9), (.t 6)]⟩,
   ⟨(some 24), none, .call (.c (.func (.func 33) #[] #[])) [(.t 22), (.t 23)]⟩,
   ⟨(some 25), none, .un .not (.t 24)⟩,
   ⟨(some 8), none, .move (.t 25)⟩] (some [8]))
 .ret)))), [.tmp 8]⟩

theorem is35 : FnIs Try.prog 35 x35 := ⟨Try.f35, _, Try.func35, by kernel_rfl, rfl, by kernel_rfl, by decide, by kernel_rfl⟩

/-- (*cloisonne/caps.Table).Check -/
def x36 : XDecl := .code ⟨2, 
 (.seq (.ops [⟨(some 3), none, .box (.t 1)⟩,
   ⟨(some 4), none, .move (.c (.int .i64 0))⟩] (some [0, 3]))
 (.seq (.ops [⟨(some 6), none, .fieldAddr 1 (.t 3)⟩,
   ⟨(some 7), none, .load false 1 (.t 6)⟩,
   ⟨(some 8), none, .build [(.int .i64 0), (.int .i64 0), (.int .i64 0), (.int .u64 0), (.bool false)] [(0, 1), (1, 1), (2, 1), (3, 1), (4, 1)] [(0, (.c (.int .i64 1))), (1, (.t 7))]⟩,
   ⟨(some 5), none, .alloc [(.int .i64 0), (.int .i64 0), (.int .i64 0), (.int .u64 0), (.bool false)]⟩,
   ⟨none, none, .store 5 (.t 5) (.t 8)⟩] (some [0, 3, 5]))
 (.seq (.block 0
  (.seq (.ops [⟨(some 10), none, .move (.t 0)⟩,
    ⟨(some 11), none, .isNil .ptr false (.t 10)⟩,
    ⟨(some 9), none, .move (.t 11)⟩] (some [0, 3, 5, 9]))
  (.cond (.t 9)
   (.seq (.ops [⟨(some 4), none, .move (.c (.int .i64 2))⟩] (some [4]))
   .ret)
   (.seq (.ops [⟨(some 13), none, .fieldAddr 0 (.t 3)⟩,
     ⟨(some 14), none, .load false 1 (.t 13)⟩,
     ⟨(some 15), none, .bin .eql 3 (.t 14) (.c (.int .i64 1))⟩,
     ⟨(some 16), none, .move (.t 15)⟩,
     ⟨(some 17), (some (16, true)), .load true 5 (.t 3)⟩,
     ⟨(some 18), (some (16, true)), .load true 5 (.t 5)⟩,
     ⟨(some 19), (some (16, true)), .bin .eql 35 (.t 17) (.t 18)⟩,
     ⟨(some 20), none, .pick (.t 16) (.t 19) (.c (.bool false))⟩,
     ⟨(some 21), none, .move (.t 20)⟩,
     ⟨(some 22), (some (21, true)), .move (.t 0)⟩,
     ⟨(some 23), (some (21, true)), .fieldAddr 1 (.t 3)⟩,
     ⟨(some 24), (some (21, true)), .load false 1 (.t 23)⟩,
     ⟨(some 25), (some (21, true)), .call (.c (.func (.func 49) #[] #[])) [(.t 22), (.t 24)]⟩,
     ⟨(some 26), none, .pick (.t 21) (.t 25) (.c (.bool false))⟩,
     ⟨(some 12), none, .move (.t 26)⟩] (some [0, 3, 12]))
   (.cond (.t 12)
    (.seq (.seq (.ops [⟨(some 27), none, .move (.t 0)⟩,
      ⟨(some 28), none, .nilCheck (.t 27)⟩,
      ⟨(some 29), none, .fieldAddr 0 (.t 28)⟩,
      ⟨(some 30), none, .load false 1 (.t 29)⟩,
      ⟨(some 31), none, .bin .geq 3 (.t 30) (.c (.int .i64 16))⟩] (some [31]))
    (.cond (.t 31)
     (.seq (.ops [⟨(some 4), none, .move (.c (.int .i64 5))⟩] (some [4]))
     .ret)
     .skip))
    (.seq (.ops [⟨(some 4), none, .move (.c (.int .i64 0))⟩] (some [4]))
    .ret))
    (.seq (.ops [⟨(some 33), none, .fieldAddr 0 (.t 3)⟩,
      ⟨(some 34), none, .load false 1 (.t 33)⟩,
      ⟨(some 35), none, .bin .neq 3 (.t 34) (.c (.int .i64 2))⟩,
      ⟨(some 36), none, .move (.t 35)⟩,
      ⟨(some 37), (some (36, false)), .move (.t 0)⟩,
      ⟨(some 38), (some (36, false)), .fieldAddr 1 (.t 3)⟩,
      ⟨(some 39), (some (36, false)), .load false 1 (.t 38)⟩,
      ⟨(some 40), (some (36, false)), .call (.c (.func (.func 49) #[] #[])) [(.t 37), (.t 39)]⟩,
      ⟨(some 41), (some (36, false)), .un .not (.t 40)⟩,
      ⟨(some 42), none, .pick (.t 36) (.c (.bool true)) (.t 41)⟩,
      ⟨(some 43), none, .move (.t 42)⟩,
      ⟨(some 44), (some (43, false)), .move (.t 0)⟩,
      ⟨(some 45), (some (43, false)), .fieldAddr 2 (.t 3)⟩,
      ⟨(some 46), (some (43, false)), .load false 1 (.t 45)⟩,
      ⟨(some 47), (some (43, false)), .call (.c (.func (.func 49) #[] #[])) [(.t 44), (.t 46)]⟩,
      ⟨(some 48), (some (43, false)), .un .not (.t 47)⟩,
      ⟨(some 49), none, .pick (.t 43) (.c (.bool true)) (.t 48)⟩,
      ⟨(some 32), none, .move (.t 49)⟩] (some [0, 3, 32]))
    (.cond (.t 32)
     (.seq (.ops [⟨(some 4), none, .move (.c (.int .i64 1))⟩] (some [4]))
     .ret)
     (.seq (.opsr [⟨(some 51), none, .fieldAddr 3 (.t 3)⟩,
       ⟨(some 52), none, .load false 1 (.t 51)⟩,
       ⟨(some 53), none, .bin .lss 30 (.t 52) (.c (.int .u64 1))⟩,
       ⟨(some 54), none, .move (.t 53)⟩,
       ⟨(some 55), (some (54, false)), .fieldAddr 3 (.t 3)⟩,
       ⟨(some 56), (some (54, false)), .load false 1 (.t 55)⟩,
       ⟨(some 57), (some (54, false)), .move (.t 0)⟩,
       ⟨(some 58), (some (54, false)), .nilCheck (.t 57)⟩,
       ⟨(some 59), (some (54, false)), .fieldAddr 0 (.t 58)⟩,
       ⟨(some 60), (some (54, false)), .load false 1 (.t 59)⟩,
       ⟨(some 61), (some (54, false)), .conv 3 30 (.t 60)⟩,
       ⟨(some 62), (some (54, false)), .bin .gtr 30 (.t 56) (.t 61)⟩,
       ⟨(some 63), none, .pick (.t 54) (.c (.bool true)) (.t 62)⟩,
       ⟨(some 50), none, .move (.t 63)⟩] (some [0, 3, 50]))
     (.cond (.t 50)
      (.seq (.ops [⟨(some 4), none, .move (.c (.int .i64 7))⟩] (some [4]))
      .ret)
      (.seq (.opsd [(0, 0, ⟨(some 65), none, .move (.t 0)⟩),
        (1, 1, ⟨(some 66), none, .nilCheck (.t 65)⟩),
        (2, 3, ⟨(some 67), none, .fieldAddr 1 (.t 66)⟩),
        (3, 7, ⟨(some 68), none, .load false 1 (.t 67)⟩),
        (4, 0, ⟨(some 69), none, .fieldAddr 1 (.t 3)⟩),
        (5, 16, ⟨(some 70), none, .load false 1 (.t 69)⟩),
        (6, 63, ⟨(some 71), none, .indexAddr 2 (.t 68) (.t 70)⟩),
        (7, 0, ⟨(some 72), none, .fieldAddr 4 (.t 3)⟩),
        (8, 128, ⟨(some 73), none, .load false 1 (.t 72)⟩),
        (12, 0, ⟨(some 77), none, .fieldAddr 3 (.t 3)⟩),
        (13, 4096, ⟨(some 78), none, .load false 1 (.t 77)⟩),
        (9, 511, ⟨(some 74), none, .call (.c (.func (.func 37) #[] #[])) [(.t 71), (.t 73)]⟩),
        (10, 1023, ⟨(some 75), none, .nilCheck (.t 74)⟩),
        (11, 2047, ⟨(some 76), none, .load false 1 (.t 75)⟩),
        (14, 16383, ⟨(some 79), none, .call (.c (.func (.func 50) #[] #[])) [(.t 76), (.t 78)]⟩),
        (15, 32767, ⟨(some 80), none, .un .not (.t 79)⟩),
        (16, 65535, ⟨(some 64), none, .move (.t 80)⟩)] (some [0, 3, 64]))
      (.cond (.t 64)
       (.seq (.ops [⟨(some 4), none, .move (.c (.int .i64 10))⟩] (some [4]))
       .ret)
       (.seq (.opsd [(0, 0, ⟨(some 82), none, .move (.t 0)⟩),
         (1, 1, ⟨(some 83), none, .nilCheck (.t 82)⟩),
         (2, 3, ⟨(some 84), none, .fieldAddr 1 (.t 83)⟩),
         (3, 7, ⟨(some 85), none, .load false 1 (.t 84)⟩),
         (4, 0, ⟨(some 86), none, .fieldAddr 2 (.t 3)⟩),
         (5, 16, ⟨(some 87), none, .load false 1 (.t 86)⟩),
         (6, 63, ⟨(some 88), none, .indexAddr 2 (.t 85) (.t 87)⟩),
         (7, 0, ⟨(some 89), none, .fieldAddr 4 (.t 3)⟩),
         (8, 128, ⟨(some 90), none, .load false 1 (.t 89)⟩),
         (12, 0, ⟨(some 94), none, .fieldAddr 3 (.t 3)⟩),
         (13, 4096, ⟨(some 95), none, .load false 1 (.t 94)⟩),
         (9, 511, ⟨(some 91), none, .call (.c (.func (.func 37) #[] #[])) [(.t 88), (.t 90)]⟩),
         (10, 1023, ⟨(some 92), none, .nilCheck (.t 91)⟩),
         (11, 2047, ⟨(some 93), none, .load false 1 (.t 92)⟩),
         (14, 16383, ⟨(some 96), none, .call (.c (.func (.func 50) #[] #[])) [(.t 93), (.t 95)]⟩),
         (15, 32767, ⟨(some 81), none, .move (.t 96)⟩)] (some [81]))
       (.cond (.t 81)
        (.seq (.ops [⟨(some 4), none, .move (.c (.int .i64 8))⟩] (some [4]))
        .ret)
        .skip)))))))))))))
 (.seq (.ops [⟨(some 4), none, .move (.c (.int .i64 0))⟩] (some [4]))
 .ret)))), [.tmp 4]⟩

theorem is36 : FnIs Try.prog 36 x36 := ⟨Try.f36, _, Try.func36, by kernel_rfl, rfl, by kernel_rfl, by decide, by kernel_rfl⟩

/-- (*cloisonne/caps.rights).at -/
def x37 : XDecl := .code ⟨2, 
 (.seq (.ops [⟨(some 4), none, .move (.c (.pointer none))⟩] (some [0, 1]))
 (.seq (.seq (.ops [⟨(some 5), none, .move (.t 1)⟩] (some [0, 5]))
 (.cond (.t 5)
  (.seq (.ops [⟨(some 6), none, .move (.t 0)⟩,
    ⟨(some 7), none, .nilCheck (.t 6)⟩,
    ⟨(some 8), none, .fieldAddr 1 (.t 7)⟩,
    ⟨(some 4), none, .move (.t 8)⟩] (some [4]))
  .ret)
  .skip))
 (.seq (.ops [⟨(some 9), none, .move (.t 0)⟩,
   ⟨(some 10), none, .nilCheck (.t 9)⟩,
   ⟨(some 11), none, .fieldAddr 0 (.t 10)⟩,
   ⟨(some 4), none, .move (.t 11)⟩] (some [4]))
 .ret))), [.tmp 4]⟩

theorem is37 : FnIs Try.prog 37 x37 := ⟨Try.f37, _, Try.func37, by kernel_rfl, rfl, by kernel_rfl, by decide, by kernel_rfl⟩

/-- cloisonne/caps.bit -/
def x38 : XDecl := .code ⟨1, 
 (.seq (.ops [⟨(some 2), none, .move (.c (.int .u64 0))⟩] (some [0]))
 (.seq (.seq (.ops [⟨(some 3), none, .move (.t 0)⟩,
   ⟨(some 4), none, .bin .lss 30 (.t 3) (.c (.int .u64 1))⟩,
   ⟨(some 5), none, .move (.t 4)⟩,
   ⟨(some 6), (some (5, false)), .move (.t 0)⟩,
   ⟨(some 7), (some (5, false)), .bin .gtr 30 (.t 6) (.c (.int .u64 16))⟩,
   ⟨(some 8), none, .pick (.t 5) (.c (.bool true)) (.t 7)⟩] (some [0, 8]))
 (.cond (.t 8)
  (.seq (.ops [⟨(some 2), none, .move (.c (.int .u64 0))⟩] (some [2]))
  .ret)
  .skip))
 (.seq (.ops [⟨(some 9), none, .move (.t 0)⟩,
   ⟨(some 10), none, .bin .sub 30 (.t 9) (.c (.int .u64 1))⟩,
   ⟨(some 11), none, .bin .shl 76 (.c (.int .u64 1)) (.t 10)⟩,
   ⟨(some 2), none, .move (.t 11)⟩] (some [2]))
 .ret))), [.tmp 2]⟩

theorem is38 : FnIs Try.prog 38 x38 := ⟨Try.f38, _, Try.func38, by kernel_rfl, rfl, by kernel_rfl, by decide, by kernel_rfl⟩

/-- cloisonne/cloisonneref02.Put -/
def x39 : XDecl := .code ⟨2, 
 (.seq (.ops [⟨(some 4), none, .move (.c (.slice none 0 0))⟩] (some [0, 1]))
 (.seq (.ops [⟨(some 8), none, .buildSlice [(.int .u64 0)] 1 0 []⟩,
   ⟨(some 5), none, .move (.t 8)⟩] (some [0, 1, 5]))
 (.seq (.ops [⟨(some 6), none, .move (.c (.bool false))⟩] (some [0, 1, 5, 6]))
 (.seq (.seq (.ops [⟨(some 7), none, .move (.c (.int .i64 0))⟩] (some [0, 1, 5, 6, 7]))
 (.block 0
  (.loop
   (.seq (.seq (.ops [⟨(some 9), none, .move (.t 7)⟩,
     ⟨(some 10), none, .move (.t 0)⟩,
     ⟨(some 11), none, .len (.t 10)⟩,
     ⟨(some 12), none, .bin .lss 3 (.t 9) (.t 11)⟩] (some [0, 1, 5, 6, 7, 12]))
   (.cond (.t 12)
    .skip
    (.exit 0)))
   (.seq (.block 1
    (.seq (.seq (.ops [⟨(some 15), none, .move (.t 6)⟩,
      ⟨(some 16), none, .un .not (.t 15)⟩,
      ⟨(some 17), none, .move (.t 16)⟩,
      ⟨(some 18), (some (17, true)), .move (.t 1)⟩,
      ⟨(some 19), (some (17, true)), .move (.t 0)⟩,
      ⟨(some 20), (some (17, true)), .move (.t 7)⟩,
      ⟨(some 21), (some (17, true)), .indexAddr 1 (.t 19) (.t 20)⟩,
      ⟨(some 22), (some (17, true)), .load false 1 (.t 21)⟩,
      ⟨(some 23), (some (17, true)), .bin .leq 30 (.t 18) (.t 22)⟩,
      ⟨(some 24), none, .pick (.t 17) (.t 23) (.c (.bool false))⟩] (some [0, 1, 5, 6, 7, 24]))
    (.cond (.t 24)
     (.seq (.ops [⟨(some 25), none, .move (.t 5)⟩,
       ⟨(some 26), none, .move (.t 1)⟩,
       ⟨(some 27), none, .buildSlice [(.int .u64 0)] 1 1 [(0, (.t 26))]⟩,
       ⟨(some 28), none, .append 1 8 [(.int .u64 0)] (.t 25) (.t 27)⟩,
       ⟨(some 5), none, .move (.t 28)⟩] (some [0, 1, 5, 7]))
     (.ops [⟨(some 6), none, .move (.c (.bool true))⟩] (some [0, 1, 5, 6, 7])))
     .skip))
    (.seq (.ops [⟨(some 29), none, .move (.t 0)⟩,
      ⟨(some 30), none, .move (.t 7)⟩,
      ⟨(some 31), none, .indexAddr 1 (.t 29) (.t 30)⟩,
      ⟨(some 32), none, .load false 1 (.t 31)⟩,
      ⟨(some 33), none, .move (.t 1)⟩,
      ⟨(some 34), none, .bin .neq 30 (.t 32) (.t 33)⟩] (some [0, 1, 5, 6, 7, 34]))
    (.cond (.t 34)
     (.ops [⟨(some 35), none, .move (.t 5)⟩,
       ⟨(some 36), none, .move (.t 0)⟩,
       ⟨(some 37), none, .move (.t 7)⟩,
       ⟨(some 38), none, .indexAddr 1 (.t 36) (.t 37)⟩,
       ⟨(some 39), none, .load false 1 (.t 38)⟩,
       ⟨(some 40), none, .buildSlice [(.int .u64 0)] 1 1 [(0, (.t 39))]⟩,
       ⟨(some 41), none, .append 1 8 [(.int .u64 0)] (.t 35) (.t 40)⟩,
       ⟨(some 5), none, .move (.t 41)⟩] (some [0, 1, 5, 6, 7]))
     .skip))))
   (.ops [⟨(some 13), none, .move (.t 7)⟩,
     ⟨(some 14), none, .bin .add 3 (.t 13) (.c (.int .i64 1))⟩,
     ⟨(some 7), none, .move (.t 14)⟩] (some [0, 1, 5, 6, 7])))))))
 (.seq (.seq (.ops [⟨(some 42), none, .move (.t 6)⟩,
   ⟨(some 43), none, .un .not (.t 42)⟩] (some [1, 5, 43]))
 (.cond (.t 43)
  (.ops [⟨(some 44), none, .move (.t 5)⟩,
    ⟨(some 45), none, .move (.t 1)⟩,
    ⟨(some 46), none, .buildSlice [(.int .u64 0)] 1 1 [(0, (.t 45))]⟩,
    ⟨(some 47), none, .append 1 8 [(.int .u64 0)] (.t 44) (.t 46)⟩,
    ⟨(some 5), none, .move (.t 47)⟩] (some [5]))
  .skip))
 (.seq (.ops [⟨(some 48), none, .move (.t 5)⟩,
   ⟨(some 4), none, .move (.t 48)⟩] (some [4]))
 .ret)))))), [.tmp 4]⟩

theorem is39 : FnIs Try.prog 39 x39 := ⟨Try.f39, _, Try.func39, by kernel_rfl, rfl, by kernel_rfl, by decide, by kernel_rfl⟩

/-- cloisonne/cloisonneref02.Same -/
def x40 : XDecl := .code ⟨2, 
 (.seq (.ops [⟨(some 4), none, .move (.c (.bool false))⟩] (some [0, 1]))
 (.seq (.ops [⟨(some 5), none, .move (.t 0)⟩,
   ⟨(some 6), none, .move (.t 1)⟩,
   ⟨(some 7), none, .call (.c (.func (.func 55) #[] #[])) [(.t 5), (.t 6)]⟩,
   ⟨(some 8), none, .bin .eql 3 (.t 7) (.c (.int .i64 0))⟩,
   ⟨(some 4), none, .move (.t 8)⟩] (some [4]))
 .ret)), [.tmp 4]⟩

theorem is40 : FnIs Try.prog 40 x40 := ⟨Try.f40, _, Try.func40, by kernel_rfl, rfl, by kernel_rfl, by decide, by kernel_rfl⟩

/-- (*cloisonne/cloisonneref16.Table).Clear -/
def x41 : XDecl := .code ⟨4, 
 (.seq (.ops [⟨(some 8), none, .move (.c (.bool false))⟩] (some [0, 1, 2, 3]))
 (.seq (.seq (.ops [⟨(some 9), none, .move (.c (.int .i64 0))⟩] (some [0, 1, 2, 3, 9]))
 (.block 0
  (.loop
   (.seq (.seq (.ops [⟨(some 10), none, .move (.t 9)⟩,
     ⟨(some 11), none, .move (.t 3)⟩,
     ⟨(some 12), none, .len (.t 11)⟩,
     ⟨(some 13), none, .bin .lss 3 (.t 10) (.t 12)⟩] (some [0, 1, 2, 3, 9, 13]))
   (.cond (.t 13)
    .skip
    (.exit 0)))
   (.seq (.block 1
    (.seq (.ops [⟨(some 16), none, .move (.t 2)⟩,
      ⟨(some 17), none, .move (.t 3)⟩,
      ⟨(some 18), none, .move (.t 9)⟩,
      ⟨(some 19), none, .indexAddr 1 (.t 17) (.t 18)⟩,
      ⟨(some 20), none, .load false 1 (.t 19)⟩,
      ⟨(some 21), none, .call (.c (.func (.func 22) #[] #[])) [(.t 16), (.t 20)]⟩,
      ⟨(some 22), none, .un .not (.t 21)⟩,
      ⟨(some 23), none, .move (.t 22)⟩,
      ⟨(some 24), (some (23, true)), .move (.t 0)⟩,
      ⟨(some 25), (some (23, true)), .move (.t 1)⟩,
      ⟨(some 26), (some (23, true)), .move (.t 3)⟩,
      ⟨(some 27), (some (23, true)), .move (.t 9)⟩,
      ⟨(some 28), (some (23, true)), .indexAddr 1 (.t 26) (.t 27)⟩,
      ⟨(some 29), (some (23, true)), .load false 1 (.t 28)⟩,
      ⟨(some 30), (some (23, true)), .call (.c (.func (.func 21) #[] #[])) [(.t 24), (.t 25), (.t 29), (.c (.bool false))]⟩,
      ⟨(some 31), (some (23, true)), .un .not (.t 30)⟩,
      ⟨(some 32), none, .pick (.t 23) (.t 31) (.c (.bool false))⟩] (some [0, 1, 2, 3, 9, 32]))
    (.cond (.t 32)
     (.seq (.ops [⟨(some 8), none, .move (.c (.bool false))⟩] (some [8]))
     .ret)
     .skip)))
   (.ops [⟨(some 14), none, .move (.t 9)⟩,
     ⟨(some 15), none, .bin .add 3 (.t 14) (.c (.int .i64 1))⟩,
     ⟨(some 9), none, .move (.t 15)⟩] (some [0, 1, 2, 3, 9])))))))
 (.seq (.ops [⟨(some 33), none, .move (.t 0)⟩,
   ⟨(some 34), none, .move (.t 1)⟩,
   ⟨(some 35), none, .call (.c (.func (.func 56) #[] #[])) [(.t 33), (.t 34)]⟩,
   ⟨(some 8), none, .move (.t 35)⟩] (some [8]))
 .ret))), [.tmp 8]⟩

theorem is41 : FnIs Try.prog 41 x41 := ⟨Try.f41, _, Try.func41, by kernel_rfl, rfl, by kernel_rfl, by decide, by kernel_rfl⟩

/-- cloisonne/flow.Flows$1 -/
def x42 : XDecl := .code ⟨1, 
 (.seq (.ops [⟨(some 2), none, .move (.c (.bool false))⟩] (some [0]))
 (.seq (.ops [⟨(some 3), none, .move (.t 0)⟩,
   ⟨(some 4), none, .call (.c (.func (.func 30) #[] #[])) [(.t 3)]⟩,
   ⟨(some 5), none, .un .not (.t 4)⟩,
   ⟨(some 2), none, .move (.t 5)⟩] (some [2]))
 .ret)), [.tmp 2]⟩

theorem is42 : FnIs Try.prog 42 x42 := ⟨Try.f42, _, Try.func42, by kernel_rfl, rfl, by kernel_rfl, by decide, by kernel_rfl⟩

/-- slices.ContainsFunc[[][]uint64,[]uint64] -/
def x43 : XDecl := .code ⟨2, 
 (.seq (.ops [⟨(some 4), none, .move (.c (.bool false))⟩] (some [0, 1]))
 (.seq (.ops [⟨(some 5), none, .move (.t 0)⟩,
   ⟨(some 6), none, .move (.t 1)⟩,
   ⟨(some 7), none, .call (.c (.func (.func 57) #[] #[])) [(.t 5), (.t 6)]⟩,
   ⟨(some 8), none, .bin .geq 3 (.t 7) (.c (.int .i64 0))⟩,
   ⟨(some 4), none, .move (.t 8)⟩] (some [4]))
 .ret)), [.tmp 4]⟩

theorem is43 : FnIs Try.prog 43 x43 := ⟨Try.f43, _, Try.func43, by kernel_rfl, rfl, by kernel_rfl, by decide, by kernel_rfl⟩

/-- cloisonne/flow.anybody -/
def x44 : XDecl := .code ⟨3, 
 (.seq (.ops [⟨(some 6), none, .move (.c (.bool false))⟩] (some [0, 1, 2]))
 (.seq (.seq (.ops [⟨(some 8), none, .move (.t 0)⟩,
   ⟨(some 9), none, .call (.c (.func (.func 46) #[] #[])) [(.t 8)]⟩,
   ⟨(some 10), none, .move (.c (.int .i64 0))⟩] (some [0, 1, 2, 9, 10]))
 (.block 0
  (.loop
   (.seq (.ops [⟨(some 11), none, .bin .lss 3 (.t 10) (.t 9)⟩] (some [0, 1, 2, 9, 10, 11]))
   (.seq (.cond (.t 11)
    .skip
    (.exit 0))
   (.seq (.block 1
    (.seq (.ops [⟨(some 12), none, .move (.t 10)⟩,
      ⟨(some 7), none, .move (.t 12)⟩] (some [0, 1, 2, 7, 9, 10]))
    (.seq (.ops [⟨(some 13), none, .move (.t 0)⟩,
      ⟨(some 14), none, .move (.t 7)⟩,
      ⟨(some 15), none, .move (.t 1)⟩,
      ⟨(some 16), none, .move (.t 2)⟩,
      ⟨(some 17), none, .call (.c (.func (.func 14) #[] #[])) [(.t 13), (.t 14), (.t 15), (.t 16)]⟩] (some [0, 1, 2, 9, 10, 17]))
    (.cond (.t 17)
     (.seq (.ops [⟨(some 6), none, .move (.c (.bool true))⟩] (some [6]))
     .ret)
     .skip))))
   (.ops [⟨(some 18), none, .bin .add 3 (.t 10) (.c (.int .i64 1))⟩,
     ⟨(some 10), none, .move (.t 18)⟩] (some [0, 1, 2, 9, 10]))))))))
 (.seq (.ops [⟨(some 6), none, .move (.c (.bool false))⟩] (some [6]))
 .ret))), [.tmp 6]⟩

theorem is44 : FnIs Try.prog 44 x44 := ⟨Try.f44, _, Try.func44, by kernel_rfl, rfl, by kernel_rfl, by decide, by kernel_rfl⟩

/-- cloisonne/label.In -/
def x45 : XDecl := .code ⟨2, 
 (.seq (.ops [⟨(some 3), none, .box (.t 1)⟩,
   ⟨(some 4), none, .move (.c (.bool false))⟩] (some [0, 3]))
 (.seq (.ops [⟨(some 5), none, .move (.t 0)⟩,
   ⟨(some 6), none, .makeFunc (.func 58) [] [(.t 3)]⟩,
   ⟨(some 7), none, .call (.c (.func (.func 33) #[] #[])) [(.t 5), (.t 6)]⟩,
   ⟨(some 8), none, .un .not (.t 7)⟩,
   ⟨(some 4), none, .move (.t 8)⟩] (some [4]))
 .ret)), [.tmp 4]⟩

theorem is45 : FnIs Try.prog 45 x45 := ⟨Try.f45, _, Try.func45, by kernel_rfl, rfl, by kernel_rfl, by decide, by kernel_rfl⟩

/-- (*cloisonne/caps.Table).People -/
def x46 : XDecl := .code ⟨1, 
 (.seq (.ops [⟨(some 2), none, .move (.c (.int .i64 0))⟩] (some [0]))
 (.seq (.seq (.ops [⟨(some 3), none, .move (.t 0)⟩,
   ⟨(some 4), none, .isNil .ptr false (.t 3)⟩] (some [0, 4]))
 (.cond (.t 4)
  (.seq (.ops [⟨(some 2), none, .move (.c (.int .i64 0))⟩] (some [2]))
  .ret)
  .skip))
 (.seq (.ops [⟨(some 5), none, .move (.t 0)⟩,
   ⟨(some 6), none, .nilCheck (.t 5)⟩,
   ⟨(some 7), none, .fieldAddr 1 (.t 6)⟩,
   ⟨(some 8), none, .load false 1 (.t 7)⟩,
   ⟨(some 9), none, .len (.t 8)⟩,
   ⟨(some 2), none, .move (.t 9)⟩] (some [2]))
 .ret))), [.tmp 2]⟩

theorem is46 : FnIs Try.prog 46 x46 := ⟨Try.f46, _, Try.func46, by kernel_rfl, rfl, by kernel_rfl, by decide, by kernel_rfl⟩

/-- cloisonne/caps.Load$1 -/
def x47 : XDecl := .code ⟨2, 
 (.seq (.ops [⟨(some 3), none, .move (.c (.bool false))⟩] (some [0, 1]))
 (.seq (.ops [⟨(some 4), none, .move (.t 0)⟩,
   ⟨(some 5), none, .load false 1 (.t 1)⟩,
   ⟨(some 6), none, .conv 3 98 (.t 5)⟩,
   ⟨(some 7), none, .bin .shr 30 (.t 4) (.t 6)⟩,
   ⟨(some 8), none, .bin .neq 30 (.t 7) (.c (.int .u64 0))⟩,
   ⟨(some 3), none, .move (.t 8)⟩] (some [3]))
 .ret)), [.tmp 3]⟩

theorem is47 : FnIs Try.prog 47 x47 := ⟨Try.f47, _, Try.func47, by kernel_rfl, rfl, by kernel_rfl, by decide, by kernel_rfl⟩

/-- (*cloisonne/cloisonneref16.Table).Check -/
def x48 : XDecl := .code ⟨2, 
 (.seq (.ops [⟨(some 3), none, .box (.t 1)⟩,
   ⟨(some 4), none, .move (.c (.int .i64 0))⟩] (some [0, 3]))
 (.seq (.seq (.ops [⟨(some 5), none, .fieldAddr 0 (.t 3)⟩,
   ⟨(some 6), none, .load false 1 (.t 5)⟩,
   ⟨(some 7), none, .bin .neq 3 (.t 6) (.c (.int .i64 1))⟩,
   ⟨(some 8), none, .move (.t 7)⟩,
   ⟨(some 9), (some (8, true)), .fieldAddr 0 (.t 3)⟩,
   ⟨(some 10), (some (8, true)), .load false 1 (.t 9)⟩,
   ⟨(some 11), (some (8, true)), .bin .neq 3 (.t 10) (.c (.int .i64 2))⟩,
   ⟨(some 12), none, .pick (.t 8) (.t 11) (.c (.bool false))⟩,
   ⟨(some 13), none, .move (.t 12)⟩,
   ⟨(some 14), (some (13, false)), .move (.t 0)⟩,
   ⟨(some 15), (some (13, false)), .fieldAddr 1 (.t 3)⟩,
   ⟨(some 16), (some (13, false)), .load false 1 (.t 15)⟩,
   ⟨(some 17), (some (13, false)), .call (.c (.func (.func 56) #[] #[])) [(.t 14), (.t 16)]⟩,
   ⟨(some 18), (some (13, false)), .un .not (.t 17)⟩,
   ⟨(some 19), none, .pick (.t 13) (.c (.bool true)) (.t 18)⟩] (some [0, 3, 19]))
 (.cond (.t 19)
  (.seq (.ops [⟨(some 4), none, .move (.c (.int .i64 1))⟩] (some [4]))
  .ret)
  .skip))
 (.seq (.seq (.ops [⟨(some 20), none, .fieldAddr 0 (.t 3)⟩,
   ⟨(some 21), none, .load false 1 (.t 20)⟩,
   ⟨(some 22), none, .bin .eql 3 (.t 21) (.c (.int .i64 1))⟩] (some [0, 3, 22]))
 (.cond (.t 22)
  (.seq (.seq (.ops [⟨(some 23), none, .fieldAddr 2 (.t 3)⟩,
    ⟨(some 24), none, .load false 1 (.t 23)⟩,
    ⟨(some 25), none, .bin .neq 3 (.t 24) (.c (.int .i64 0))⟩,
    ⟨(some 26), none, .move (.t 25)⟩,
    ⟨(some 27), (some (26, false)), .fieldAddr 3 (.t 3)⟩,
    ⟨(some 28), (some (26, false)), .load false 1 (.t 27)⟩,
    ⟨(some 29), (some (26, false)), .bin .neq 30 (.t 28) (.c (.int .u64 0))⟩,
    ⟨(some 30), none, .pick (.t 26) (.c (.bool true)) (.t 29)⟩,
    ⟨(some 31), none, .move (.t 30)⟩,
    ⟨(some 32), (some (31, false)), .fieldAddr 4 (.t 3)⟩,
    ⟨(some 33), (some (31, false)), .load false 1 (.t 32)⟩,
    ⟨(some 34), none, .pick (.t 31) (.c (.bool true)) (.t 33)⟩] (some [0, 34]))
  (.cond (.t 34)
   (.seq (.ops [⟨(some 4), none, .move (.c (.int .i64 1))⟩] (some [4]))
   .ret)
   .skip))
  (.seq (.seq (.ops [⟨(some 35), none, .move (.t 0)⟩,
    ⟨(some 36), none, .nilCheck (.t 35)⟩,
    ⟨(some 37), none, .fieldAddr 1 (.t 36)⟩,
    ⟨(some 38), none, .load false 1 (.t 37)⟩,
    ⟨(some 39), none, .bin .geq 3 (.t 38) (.c (.int .i64 16))⟩] (some [39]))
  (.cond (.t 39)
   (.seq (.ops [⟨(some 4), none, .move (.c (.int .i64 5))⟩] (some [4]))
   .ret)
   .skip))
  (.seq (.ops [⟨(some 4), none, .move (.c (.int .i64 0))⟩] (some [4]))
  .ret)))
  .skip))
 (.seq (.seq (.ops [⟨(some 40), none, .move (.t 0)⟩,
   ⟨(some 41), none, .fieldAddr 2 (.t 3)⟩,
   ⟨(some 42), none, .load false 1 (.t 41)⟩,
   ⟨(some 43), none, .call (.c (.func (.func 56) #[] #[])) [(.t 40), (.t 42)]⟩,
   ⟨(some 44), none, .un .not (.t 43)⟩] (some [0, 3, 44]))
 (.cond (.t 44)
  (.seq (.ops [⟨(some 4), none, .move (.c (.int .i64 1))⟩] (some [4]))
  .ret)
  .skip))
 (.seq (.seq (.opsr [⟨(some 45), none, .fieldAddr 3 (.t 3)⟩,
   ⟨(some 46), none, .load false 1 (.t 45)⟩,
   ⟨(some 47), none, .bin .eql 30 (.t 46) (.c (.int .u64 0))⟩,
   ⟨(some 48), none, .move (.t 47)⟩,
   ⟨(some 49), (some (48, false)), .fieldAddr 3 (.t 3)⟩,
   ⟨(some 50), (some (48, false)), .load false 1 (.t 49)⟩,
   ⟨(some 51), (some (48, false)), .move (.t 0)⟩,
   ⟨(some 52), (some (48, false)), .nilCheck (.t 51)⟩,
   ⟨(some 53), (some (48, false)), .fieldAddr 1 (.t 52)⟩,
   ⟨(some 54), (some (48, false)), .load false 1 (.t 53)⟩,
   ⟨(some 55), (some (48, false)), .conv 3 30 (.t 54)⟩,
   ⟨(some 56), (some (48, false)), .bin .gtr 30 (.t 50) (.t 55)⟩,
   ⟨(some 57), none, .pick (.t 48) (.c (.bool true)) (.t 56)⟩] (some [0, 3, 57]))
 (.cond (.t 57)
  (.seq (.ops [⟨(some 4), none, .move (.c (.int .i64 7))⟩] (some [4]))
  .ret)
  .skip))
 (.seq (.seq (.ops [⟨(some 58), none, .move (.t 0)⟩,
   ⟨(some 59), none, .fieldAddr 1 (.t 3)⟩,
   ⟨(some 60), none, .load false 1 (.t 59)⟩,
   ⟨(some 61), none, .fieldAddr 3 (.t 3)⟩,
   ⟨(some 62), none, .load false 1 (.t 61)⟩,
   ⟨(some 63), none, .fieldAddr 4 (.t 3)⟩,
   ⟨(some 64), none, .load false 1 (.t 63)⟩,
   ⟨(some 65), none, .call (.c (.func (.func 21) #[] #[])) [(.t 58), (.t 60), (.t 62), (.t 64)]⟩,
   ⟨(some 66), none, .un .not (.t 65)⟩] (some [0, 3, 66]))
 (.cond (.t 66)
  (.seq (.ops [⟨(some 4), none, .move (.c (.int .i64 10))⟩] (some [4]))
  .ret)
  .skip))
 (.seq (.seq (.ops [⟨(some 67), none, .move (.t 0)⟩,
   ⟨(some 68), none, .fieldAddr 2 (.t 3)⟩,
   ⟨(some 69), none, .load false 1 (.t 68)⟩,
   ⟨(some 70), none, .fieldAddr 3 (.t 3)⟩,
   ⟨(some 71), none, .load false 1 (.t 70)⟩,
   ⟨(some 72), none, .fieldAddr 4 (.t 3)⟩,
   ⟨(some 73), none, .load false 1 (.t 72)⟩,
   ⟨(some 74), none, .call (.c (.func (.func 21) #[] #[])) [(.t 67), (.t 69), (.t 71), (.t 73)]⟩] (some [74]))
 (.cond (.t 74)
  (.seq (.ops [⟨(some 4), none, .move (.c (.int .i64 8))⟩] (some [4]))
  .ret)
  .skip))
 (.seq (.ops [⟨(some 4), none, .move (.c (.int .i64 0))⟩] (some [4]))
 .ret)))))))), [.tmp 4]⟩

theorem is48 : FnIs Try.prog 48 x48 := ⟨Try.f48, _, Try.func48, by kernel_rfl, rfl, by kernel_rfl, by decide, by kernel_rfl⟩

/-- (*cloisonne/caps.Table).one -/
def x49 : XDecl := .code ⟨2, 
 (.seq (.ops [⟨(some 4), none, .move (.c (.bool false))⟩] (some [0, 1]))
 (.seq (.ops [⟨(some 5), none, .move (.t 0)⟩,
   ⟨(some 6), none, .isNil .ptr true (.t 5)⟩,
   ⟨(some 7), none, .move (.t 6)⟩,
   ⟨(some 8), (some (7, true)), .move (.t 1)⟩,
   ⟨(some 9), (some (7, true)), .bin .geq 3 (.t 8) (.c (.int .i64 0))⟩,
   ⟨(some 10), none, .pick (.t 7) (.t 9) (.c (.bool false))⟩,
   ⟨(some 11), none, .move (.t 10)⟩,
   ⟨(some 12), (some (11, true)), .move (.t 1)⟩,
   ⟨(some 13), (some (11, true)), .move (.t 0)⟩,
   ⟨(some 14), (some (11, true)), .nilCheck (.t 13)⟩,
   ⟨(some 15), (some (11, true)), .fieldAddr 1 (.t 14)⟩,
   ⟨(some 16), (some (11, true)), .load false 1 (.t 15)⟩,
   ⟨(some 17), (some (11, true)), .len (.t 16)⟩,
   ⟨(some 18), (some (11, true)), .bin .lss 3 (.t 12) (.t 17)⟩,
   ⟨(some 19), none, .pick (.t 11) (.t 18) (.c (.bool false))⟩,
   ⟨(some 4), none, .move (.t 19)⟩] (some [4]))
 .ret)), [.tmp 4]⟩

theorem is49 : FnIs Try.prog 49 x49 := ⟨Try.f49, _, Try.func49, by kernel_rfl, rfl, by kernel_rfl, by decide, by kernel_rfl⟩

/-- (cloisonne/caps.set).has -/
def x50 : XDecl := .code ⟨2, 
 (.seq (.ops [⟨(some 4), none, .move (.c (.bool false))⟩] (some [0, 1]))
 (.seq (.ops [⟨(some 5), none, .move (.t 0)⟩,
   ⟨(some 6), none, .move (.t 1)⟩,
   ⟨(some 7), none, .call (.c (.func (.func 38) #[] #[])) [(.t 6)]⟩,
   ⟨(some 8), none, .bin .and 76 (.t 5) (.t 7)⟩,
   ⟨(some 9), none, .bin .neq 76 (.t 8) (.c (.int .u64 0))⟩,
   ⟨(some 4), none, .move (.t 9)⟩] (some [4]))
 .ret)), [.tmp 4]⟩

theorem is50 : FnIs Try.prog 50 x50 := ⟨Try.f50, _, Try.func50, by kernel_rfl, rfl, by kernel_rfl, by decide, by kernel_rfl⟩

/-- slices.IndexFunc[[]uint64,uint64] -/
def x51 : XDecl := .code ⟨2, 
 (.seq (.ops [⟨(some 4), none, .move (.c (.int .i64 0))⟩] (some [0, 1]))
 (.seq (.seq (.ops [⟨(some 6), none, .move (.t 0)⟩,
   ⟨(some 7), none, .len (.t 6)⟩,
   ⟨(some 8), none, .move (.c (.int .i64 0))⟩] (some [0, 1, 7, 8]))
 (.block 0
  (.loop
   (.seq (.ops [⟨(some 9), none, .bin .lss 3 (.t 8) (.t 7)⟩] (some [0, 1, 7, 8, 9]))
   (.seq (.cond (.t 9)
    .skip
    (.exit 0))
   (.seq (.block 1
    (.seq (.ops [⟨(some 10), none, .move (.t 8)⟩,
      ⟨(some 5), none, .move (.t 10)⟩] (some [0, 1, 5, 7, 8]))
    (.seq (.ops [⟨(some 11), none, .move (.t 1)⟩,
      ⟨(some 12), none, .move (.t 0)⟩,
      ⟨(some 13), none, .move (.t 5)⟩,
      ⟨(some 14), none, .indexAddr 1 (.t 12) (.t 13)⟩,
      ⟨(some 15), none, .load false 1 (.t 14)⟩,
      ⟨(some 16), none, .call (.t 11) [(.t 15)]⟩] (some [0, 1, 5, 7, 8, 16]))
    (.cond (.t 16)
     (.seq (.ops [⟨(some 17), none, .move (.t 5)⟩,
       ⟨(some 4), none, .move (.t 17)⟩] (some [4]))
     .ret)
     .skip))))
   (.ops [⟨(some 18), none, .bin .add 3 (.t 8) (.c (.int .i64 1))⟩,
     ⟨(some 8), none, .move (.t 18)⟩] (some [0, 1, 7, 8]))))))))
 (.seq (.ops [⟨(some 4), none, .move (.c (.int .i64 (-1)))⟩] (some [4]))
 .ret))), [.tmp 4]⟩

theorem is51 : FnIs Try.prog 51 x51 := ⟨Try.f51, _, Try.func51, by kernel_rfl, rfl, by kernel_rfl, by decide, by kernel_rfl⟩

/-- cloisonne/label.kept -/
def x52 : XDecl := .code ⟨3, 
 (.seq (.ops [⟨(some 4), none, .box (.t 1)⟩,
   ⟨(some 5), none, .box (.t 2)⟩,
   ⟨(some 6), none, .move (.c (.slice none 0 0))⟩] (some [0, 4, 5]))
 (.seq (.seq (.ops [⟨(some 7), none, .move (.t 0)⟩,
   ⟨(some 8), none, .call (.c (.func (.func 30) #[] #[])) [(.t 7)]⟩,
   ⟨(some 9), none, .un .not (.t 8)⟩,
   ⟨(some 10), none, .move (.t 9)⟩,
   ⟨(some 11), (some (10, false)), .load false 1 (.t 4)⟩,
   ⟨(some 12), (some (10, false)), .call (.c (.func (.func 30) #[] #[])) [(.t 11)]⟩,
   ⟨(some 13), (some (10, false)), .un .not (.t 12)⟩,
   ⟨(some 14), none, .pick (.t 10) (.c (.bool true)) (.t 13)⟩] (some [0, 4, 5, 14]))
 (.cond (.t 14)
  (.seq (.ops [⟨(some 6), none, .move (.c (.slice none 0 0))⟩] (some [6]))
  .ret)
  .skip))
 (.seq (.ops [⟨(some 15), none, .move (.t 0)⟩,
   ⟨(some 16), none, .call (.c (.func (.func 60) #[] #[])) [(.t 15)]⟩,
   ⟨(some 17), none, .makeFunc (.func 61) [] [(.t 4), (.t 5)]⟩,
   ⟨(some 18), none, .call (.c (.func (.func 59) #[] #[])) [(.t 16), (.t 17)]⟩,
   ⟨(some 6), none, .move (.t 18)⟩] (some [6]))
 .ret))), [.tmp 6]⟩

theorem is52 : FnIs Try.prog 52 x52 := ⟨Try.f52, _, Try.func52, by kernel_rfl, rfl, by kernel_rfl, by decide, by kernel_rfl⟩

/-- (*cloisonne/caps.Table).Clear$1 -/
def x53 : XDecl := .code ⟨3, 
 (.seq (.ops [⟨(some 4), none, .move (.c (.bool false))⟩] (some [0, 1, 2]))
 (.seq (.ops [⟨(some 5), none, .load false 1 (.t 1)⟩,
   ⟨(some 6), none, .move (.t 0)⟩,
   ⟨(some 7), none, .call (.c (.func (.func 50) #[] #[])) [(.t 5), (.t 6)]⟩,
   ⟨(some 8), none, .un .not (.t 7)⟩,
   ⟨(some 9), none, .move (.t 8)⟩,
   ⟨(some 10), (some (9, true)), .load false 1 (.t 2)⟩,
   ⟨(some 11), (some (9, true)), .move (.t 0)⟩,
   ⟨(some 12), (some (9, true)), .call (.c (.func (.func 54) #[] #[])) [(.t 10), (.t 11)]⟩,
   ⟨(some 13), (some (9, true)), .un .not (.t 12)⟩,
   ⟨(some 14), none, .pick (.t 9) (.t 13) (.c (.bool false))⟩,
   ⟨(some 4), none, .move (.t 14)⟩] (some [4]))
 .ret)), [.tmp 4]⟩

theorem is53 : FnIs Try.prog 53 x53 := ⟨Try.f53, _, Try.func53, by kernel_rfl, rfl, by kernel_rfl, by decide, by kernel_rfl⟩

/-- cloisonne/label.Has -/
def x54 : XDecl := .code ⟨2, 
 (.seq (.ops [⟨(some 4), none, .move (.c (.bool false))⟩] (some [0, 1]))
 (.seq (.ops [⟨(some 5), none, .move (.t 0)⟩,
   ⟨(some 6), none, .move (.t 1)⟩,
   ⟨(some 7), none, .call (.c (.func (.func 62) #[] #[])) [(.t 5), (.t 6)]⟩,
   ⟨(some 4), none, .move (.t 7)⟩] (some [4]))
 .ret)), [.tmp 4]⟩

theorem is54 : FnIs Try.prog 54 x54 := ⟨Try.f54, _, Try.func54, by kernel_rfl, rfl, by kernel_rfl, by decide, by kernel_rfl⟩

/-- cloisonne/cloisonneref02.Compare -/
def x55 : XDecl := .code ⟨2, 
 (.seq (.ops [⟨(some 4), none, .move (.c (.int .i64 0))⟩] (some [0, 1]))
 (.seq (.seq (.ops [⟨(some 6), none, .move (.t 0)⟩,
   ⟨(some 7), none, .len (.t 6)⟩,
   ⟨(some 8), none, .move (.t 1)⟩,
   ⟨(some 9), none, .len (.t 8)⟩,
   ⟨(some 10), none, .bin .lss 3 (.t 7) (.t 9)⟩] (some [0, 1, 10]))
 (.cond (.t 10)
  (.seq (.ops [⟨(some 4), none, .move (.c (.int .i64 (-1)))⟩] (some [4]))
  .ret)
  .skip))
 (.seq (.seq (.ops [⟨(some 11), none, .move (.t 0)⟩,
   ⟨(some 12), none, .len (.t 11)⟩,
   ⟨(some 13), none, .move (.t 1)⟩,
   ⟨(some 14), none, .len (.t 13)⟩,
   ⟨(some 15), none, .bin .gtr 3 (.t 12) (.t 14)⟩] (some [0, 1, 15]))
 (.cond (.t 15)
  (.seq (.ops [⟨(some 4), none, .move (.c (.int .i64 1))⟩] (some [4]))
  .ret)
  .skip))
 (.seq (.seq (.ops [⟨(some 5), none, .move (.c (.int .i64 0))⟩] (some [0, 1, 5]))
 (.block 0
  (.loop
   (.seq (.seq (.ops [⟨(some 16), none, .move (.t 5)⟩,
     ⟨(some 17), none, .move (.t 0)⟩,
     ⟨(some 18), none, .len (.t 17)⟩,
     ⟨(some 19), none, .bin .lss 3 (.t 16) (.t 18)⟩] (some [0, 1, 5, 19]))
   (.cond (.t 19)
    .skip
    (.exit 0)))
   (.seq (.block 1
    (.seq (.seq (.opsr [⟨(some 22), none, .move (.t 0)⟩,
      ⟨(some 23), none, .move (.t 5)⟩,
      ⟨(some 24), none, .indexAddr 1 (.t 22) (.t 23)⟩,
      ⟨(some 25), none, .load false 1 (.t 24)⟩,
      ⟨(some 26), none, .move (.t 1)⟩,
      ⟨(some 27), none, .move (.t 5)⟩,
      ⟨(some 28), none, .indexAddr 1 (.t 26) (.t 27)⟩,
      ⟨(some 29), none, .load false 1 (.t 28)⟩,
      ⟨(some 30), none, .bin .lss 30 (.t 25) (.t 29)⟩] (some [0, 1, 5, 30]))
    (.cond (.t 30)
     (.seq (.ops [⟨(some 4), none, .move (.c (.int .i64 (-1)))⟩] (some [4]))
     .ret)
     .skip))
    (.seq (.opsr [⟨(some 31), none, .move (.t 0)⟩,
      ⟨(some 32), none, .move (.t 5)⟩,
      ⟨(some 33), none, .indexAddr 1 (.t 31) (.t 32)⟩,
      ⟨(some 34), none, .load false 1 (.t 33)⟩,
      ⟨(some 35), none, .move (.t 1)⟩,
      ⟨(some 36), none, .move (.t 5)⟩,
      ⟨(some 37), none, .indexAddr 1 (.t 35) (.t 36)⟩,
      ⟨(some 38), none, .load false 1 (.t 37)⟩,
      ⟨(some 39), none, .bin .gtr 30 (.t 34) (.t 38)⟩] (some [0, 1, 5, 39]))
    (.cond (.t 39)
     (.seq (.ops [⟨(some 4), none, .move (.c (.int .i64 1))⟩] (some [4]))
     .ret)
     .skip))))
   (.ops [⟨(some 20), none, .move (.t 5)⟩,
     ⟨(some 21), none, .bin .add 3 (.t 20) (.c (.int .i64 1))⟩,
     ⟨(some 5), none, .move (.t 21)⟩] (some [0, 1, 5])))))))
 (.seq (.ops [⟨(some 4), none, .move (.c (.int .i64 0))⟩] (some [4]))
 .ret))))), [.tmp 4]⟩

theorem is55 : FnIs Try.prog 55 x55 := ⟨Try.f55, _, Try.func55, by kernel_rfl, rfl, by kernel_rfl, by decide, by kernel_rfl⟩

/-- (*cloisonne/cloisonneref16.Table).One -/
def x56 : XDecl := .code ⟨2, 
 (.seq (.ops [⟨(some 4), none, .move (.c (.bool false))⟩] (some [0, 1]))
 (.seq (.ops [⟨(some 5), none, .move (.t 1)⟩,
   ⟨(some 6), none, .bin .geq 3 (.t 5) (.c (.int .i64 0))⟩,
   ⟨(some 7), none, .move (.t 6)⟩,
   ⟨(some 8), (some (7, true)), .move (.t 1)⟩,
   ⟨(some 9), (some (7, true)), .move (.t 0)⟩,
   ⟨(some 10), (some (7, true)), .nilCheck (.t 9)⟩,
   ⟨(some 11), (some (7, true)), .fieldAddr 0 (.t 10)⟩,
   ⟨(some 12), (some (7, true)), .load false 1 (.t 11)⟩,
   ⟨(some 13), (some (7, true)), .bin .lss 3 (.t 8) (.t 12)⟩,
   ⟨(some 14), none, .pick (.t 7) (.t 13) (.c (.bool false))⟩,
   ⟨(some 4), none, .move (.t 14)⟩] (some [4]))
 .ret)), [.tmp 4]⟩

theorem is56 : FnIs Try.prog 56 x56 := ⟨Try.f56, _, Try.func56, by kernel_rfl, rfl, by kernel_rfl, by decide, by kernel_rfl⟩

/-- slices.IndexFunc[[][]uint64,[]uint64] -/
def x57 : XDecl := .code ⟨2, 
 (.seq (.ops [⟨(some 4), none, .move (.c (.int .i64 0))⟩] (some [0, 1]))
 (.seq (.seq (.ops [⟨(some 6), none, .move (.t 0)⟩,
   ⟨(some 7), none, .len (.t 6)⟩,
   ⟨(some 8), none, .move (.c (.int .i64 0))⟩] (some [0, 1, 7, 8]))
 (.block 0
  (.loop
   (.seq (.ops [⟨(some 9), none, .bin .lss 3 (.t 8) (.t 7)⟩] (some [0, 1, 7, 8, 9]))
   (.seq (.cond (.t 9)
    .skip
    (.exit 0))
   (.seq (.block 1
    (.seq (.ops [⟨(some 10), none, .move (.t 8)⟩,
      ⟨(some 5), none, .move (.t 10)⟩] (some [0, 1, 5, 7, 8]))
    (.seq (.ops [⟨(some 11), none, .move (.t 1)⟩,
      ⟨(some 12), none, .move (.t 0)⟩,
      ⟨(some 13), none, .move (.t 5)⟩,
      ⟨(some 14), none, .indexAddr 1 (.t 12) (.t 13)⟩,
      ⟨(some 15), none, .load false 1 (.t 14)⟩,
      ⟨(some 16), none, .call (.t 11) [(.t 15)]⟩] (some [0, 1, 5, 7, 8, 16]))
    (.cond (.t 16)
     (.seq (.ops [⟨(some 17), none, .move (.t 5)⟩,
       ⟨(some 4), none, .move (.t 17)⟩] (some [4]))
     .ret)
     .skip))))
   (.ops [⟨(some 18), none, .bin .add 3 (.t 8) (.c (.int .i64 1))⟩,
     ⟨(some 8), none, .move (.t 18)⟩] (some [0, 1, 7, 8]))))))))
 (.seq (.ops [⟨(some 4), none, .move (.c (.int .i64 (-1)))⟩] (some [4]))
 .ret))), [.tmp 4]⟩

theorem is57 : FnIs Try.prog 57 x57 := ⟨Try.f57, _, Try.func57, by kernel_rfl, rfl, by kernel_rfl, by decide, by kernel_rfl⟩

/-- cloisonne/label.In$1 -/
def x58 : XDecl := .code ⟨2, 
 (.seq (.ops [⟨(some 3), none, .move (.c (.bool false))⟩] (some [0, 1]))
 (.seq (.ops [⟨(some 4), none, .load false 1 (.t 1)⟩,
   ⟨(some 5), none, .move (.t 0)⟩,
   ⟨(some 6), none, .call (.c (.func (.func 54) #[] #[])) [(.t 4), (.t 5)]⟩,
   ⟨(some 7), none, .un .not (.t 6)⟩,
   ⟨(some 3), none, .move (.t 7)⟩] (some [3]))
 .ret)), [.tmp 3]⟩

theorem is58 : FnIs Try.prog 58 x58 := ⟨Try.f58, _, Try.func58, by kernel_rfl, rfl, by kernel_rfl, by decide, by kernel_rfl⟩

/-- slices.DeleteFunc[[]uint64,uint64] -/
def x59 : XDecl := .code ⟨2, 
 (.seq (.ops [⟨(some 4), none, .move (.c (.slice none 0 0))⟩] (some [0, 1]))
 (.seq (.ops [⟨(some 8), none, .move (.t 0)⟩,
   ⟨(some 9), none, .move (.t 1)⟩,
   ⟨(some 10), none, .call (.c (.func (.func 51) #[] #[])) [(.t 8), (.t 9)]⟩,
   ⟨(some 5), none, .move (.t 10)⟩] (some [0, 1, 5]))
 (.seq (.seq (.ops [⟨(some 11), none, .move (.t 5)⟩,
   ⟨(some 12), none, .bin .eql 3 (.t 11) (.c (.int .i64 (-1)))⟩] (some [0, 1, 5, 12]))
 (.cond (.t 12)
  (.seq (.ops [⟨(some 13), none, .move (.t 0)⟩,
    ⟨(some 4), none, .move (.t 13)⟩] (some [4]))
  .ret)
  .skip))
 (.seq (.seq (.ops [⟨(some 14), none, .move (.t 5)⟩,
   ⟨(some 15), none, .bin .add 3 (.t 14) (.c (.int .i64 1))⟩,
   ⟨(some 6), none, .move (.t 15)⟩] (some [0, 1, 5, 6]))
 (.block 0
  (.loop
   (.seq (.seq (.ops [⟨(some 16), none, .move (.t 6)⟩,
     ⟨(some 17), none, .move (.t 0)⟩,
     ⟨(some 18), none, .len (.t 17)⟩,
     ⟨(some 19), none, .bin .lss 3 (.t 16) (.t 18)⟩] (some [0, 1, 5, 6, 19]))
   (.cond (.t 19)
    .skip
    (.exit 0)))
   (.seq (.block 1
    (.seq (.ops [⟨(some 22), none, .move (.t 0)⟩,
      ⟨(some 23), none, .move (.t 6)⟩,
      ⟨(some 24), none, .indexAddr 1 (.t 22) (.t 23)⟩,
      ⟨(some 25), none, .load false 1 (.t 24)⟩,
      ⟨(some 7), none, .move (.t 25)⟩] (some [0, 1, 5, 6, 7]))
    (.seq (.ops [⟨(some 26), none, .move (.t 1)⟩,
      ⟨(some 27), none, .move (.t 7)⟩,
      ⟨(some 28), none, .call (.t 26) [(.t 27)]⟩,
      ⟨(some 29), none, .un .not (.t 28)⟩] (some [0, 1, 5, 6, 7, 29]))
    (.cond (.t 29)
     (.seq (.ops [⟨(some 30), none, .move (.t 0)⟩,
       ⟨(some 31), none, .move (.t 5)⟩,
       ⟨(some 32), none, .move (.t 7)⟩,
       ⟨(some 33), none, .indexAddr 1 (.t 30) (.t 31)⟩,
       ⟨none, none, .store 1 (.t 33) (.t 32)⟩] (some [0, 1, 5, 6]))
     (.ops [⟨(some 34), none, .move (.t 5)⟩,
       ⟨(some 35), none, .bin .add 3 (.t 34) (.c (.int .i64 1))⟩,
       ⟨(some 5), none, .move (.t 35)⟩] (some [0, 1, 5, 6])))
     .skip))))
   (.ops [⟨(some 20), none, .move (.t 6)⟩,
     ⟨(some 21), none, .bin .add 3 (.t 20) (.c (.int .i64 1))⟩,
     ⟨(some 6), none, .move (.t 21)⟩] (some [0, 1, 5, 6])))))))
 (.seq (.ops [⟨(some 36), none, .move (.t 0)⟩,
   ⟨(some 37), none, .move (.t 5)⟩,
   ⟨(some 38), none, .slice 1 (.t 36) (some (.t 37)) none none⟩,
   ⟨none, none, .clear [(.int .u64 0)] (.t 38)⟩] (some [0, 5]))
 (.seq (.ops [⟨(some 39), none, .move (.t 0)⟩,
   ⟨(some 40), none, .move (.t 5)⟩,
   ⟨(some 41), none, .slice 1 (.t 39) none (some (.t 40)) none⟩,
   ⟨(some 4), none, .move (.t 41)⟩] (some [4]))
 .ret)))))), [.tmp 4]⟩

theorem is59 : FnIs Try.prog 59 x59 := ⟨Try.f59, _, Try.func59, by kernel_rfl, rfl, by kernel_rfl, by decide, by kernel_rfl⟩

/-- slices.Clone[[]uint64,uint64] -/
def x60 : XDecl := .code ⟨1, 
 (.seq (.ops [⟨(some 2), none, .move (.c (.slice none 0 0))⟩] (some [0]))
 (.seq (.seq (.ops [⟨(some 3), none, .move (.t 0)⟩,
   ⟨(some 4), none, .isNil .slice false (.t 3)⟩] (some [0, 4]))
 (.cond (.t 4)
  (.seq (.ops [⟨(some 2), none, .move (.c (.slice none 0 0))⟩] (some [2]))
  .ret)
  .skip))
 (.seq (.ops [⟨(some 5), none, .buildSlice [(.int .u64 0)] 1 0 []⟩,
   ⟨(some 6), none, .move (.t 0)⟩,
   ⟨(some 7), none, .append 1 8 [(.int .u64 0)] (.t 5) (.t 6)⟩,
   ⟨(some 2), none, .move (.t 7)⟩] (some [2]))
 .ret))), [.tmp 2]⟩

theorem is60 : FnIs Try.prog 60 x60 := ⟨Try.f60, _, Try.func60, by kernel_rfl, rfl, by kernel_rfl, by decide, by kernel_rfl⟩

/-- cloisonne/label.kept$1 -/
def x61 : XDecl := .code ⟨3, 
 (.seq (.ops [⟨(some 4), none, .move (.c (.bool false))⟩] (some [0, 1, 2]))
 (.seq (.opsd [(0, 0, ⟨(some 5), none, .load false 1 (.t 1)⟩),
   (1, 0, ⟨(some 6), none, .move (.t 0)⟩),
   (3, 0, ⟨(some 8), none, .load false 1 (.t 2)⟩),
   (2, 3, ⟨(some 7), none, .call (.c (.func (.func 54) #[] #[])) [(.t 5), (.t 6)]⟩),
   (4, 15, ⟨(some 9), none, .bin .neq 4 (.t 7) (.t 8)⟩),
   (5, 31, ⟨(some 4), none, .move (.t 9)⟩)] (some [4]))
 .ret)), [.tmp 4]⟩

theorem is61 : FnIs Try.prog 61 x61 := ⟨Try.f61, _, Try.func61, by kernel_rfl, rfl, by kernel_rfl, by decide, by kernel_rfl⟩

/-- slices.Contains[[]uint64,uint64] -/
def x62 : XDecl := .code ⟨2, 
 (.seq (.ops [⟨(some 4), none, .move (.c (.bool false))⟩] (some [0, 1]))
 (.seq (.ops [⟨(some 5), none, .move (.t 0)⟩,
   ⟨(some 6), none, .move (.t 1)⟩,
   ⟨(some 7), none, .call (.c (.func (.func 63) #[] #[])) [(.t 5), (.t 6)]⟩,
   ⟨(some 8), none, .bin .geq 3 (.t 7) (.c (.int .i64 0))⟩,
   ⟨(some 4), none, .move (.t 8)⟩] (some [4]))
 .ret)), [.tmp 4]⟩

theorem is62 : FnIs Try.prog 62 x62 := ⟨Try.f62, _, Try.func62, by kernel_rfl, rfl, by kernel_rfl, by decide, by kernel_rfl⟩

/-- slices.Index[[]uint64,uint64] -/
def x63 : XDecl := .code ⟨2, 
 (.seq (.ops [⟨(some 4), none, .move (.c (.int .i64 0))⟩] (some [0, 1]))
 (.seq (.seq (.ops [⟨(some 6), none, .move (.t 0)⟩,
   ⟨(some 7), none, .len (.t 6)⟩,
   ⟨(some 8), none, .move (.c (.int .i64 0))⟩] (some [0, 1, 7, 8]))
 (.block 0
  (.loop
   (.seq (.ops [⟨(some 9), none, .bin .lss 3 (.t 8) (.t 7)⟩] (some [0, 1, 7, 8, 9]))
   (.seq (.cond (.t 9)
    .skip
    (.exit 0))
   (.seq (.block 1
    (.seq (.ops [⟨(some 10), none, .move (.t 8)⟩,
      ⟨(some 5), none, .move (.t 10)⟩] (some [0, 1, 5, 7, 8]))
    (.seq (.ops [⟨(some 11), none, .move (.t 1)⟩,
      ⟨(some 12), none, .move (.t 0)⟩,
      ⟨(some 13), none, .move (.t 5)⟩,
      ⟨(some 14), none, .indexAddr 1 (.t 12) (.t 13)⟩,
      ⟨(some 15), none, .load false 1 (.t 14)⟩,
      ⟨(some 16), none, .bin .eql 30 (.t 11) (.t 15)⟩] (some [0, 1, 5, 7, 8, 16]))
    (.cond (.t 16)
     (.seq (.ops [⟨(some 17), none, .move (.t 5)⟩,
       ⟨(some 4), none, .move (.t 17)⟩] (some [4]))
     .ret)
     .skip))))
   (.ops [⟨(some 18), none, .bin .add 3 (.t 8) (.c (.int .i64 1))⟩,
     ⟨(some 8), none, .move (.t 18)⟩] (some [0, 1, 7, 8]))))))))
 (.seq (.ops [⟨(some 4), none, .move (.c (.int .i64 (-1)))⟩] (some [4]))
 .ret))), [.tmp 4]⟩

theorem is63 : FnIs Try.prog 63 x63 := ⟨Try.f63, _, Try.func63, by kernel_rfl, rfl, by kernel_rfl, by decide, by kernel_rfl⟩


end Go.Proofs.Ytfjeccaffenngaa.X
