/-
  Own work, printed by a program of ours (mkprog.py): the functions of this seat as code of the abstract run, and that each is the model's.
-/
import Derived.Test.YtlldfkapaeidoaaXLaw
import Derived.Test.YtlldfkapaeidoaaChecked
set_option maxRecDepth 100000
namespace Go.Proofs.Ytlldfkapaeidoaa.X
open Go

/-- cloisonne/cloisonneref01.Key -/
def x34 : XDecl := .code ⟨1, 
 (.seq (.ops [⟨(some 2), none, .move (.c (.string .empty))⟩] (some [0]))
 (.seq (.ops [⟨(some 6), none, .move (.t 0)⟩,
   ⟨(some 7), none, .call (.c (.func (.func 43) #[] #[])) [(.t 6)]⟩,
   ⟨(some 3), none, .move (.t 7)⟩] (some [3]))
 (.seq (.ops [⟨(some 8), none, .makeSlice [(.int .u8 0)] 1 (.c (.int .i64 8)) (.c (.int .i64 8))⟩,
   ⟨(some 4), none, .move (.t 8)⟩] (some [3, 4]))
 (.seq (.seq (.ops [⟨(some 5), none, .move (.c (.int .i64 7))⟩] (some [3, 4, 5]))
 (.block 0
  (.loop
   (.seq (.seq (.ops [⟨(some 9), none, .move (.t 5)⟩,
     ⟨(some 10), none, .bin .geq 3 (.t 9) (.c (.int .i64 0))⟩] (some [3, 4, 5, 10]))
   (.cond (.t 10)
    .skip
    (.exit 0)))
   (.seq (.block 1
    (.seq (.ops [⟨(some 13), none, .move (.t 4)⟩,
      ⟨(some 14), none, .move (.t 5)⟩,
      ⟨(some 15), none, .move (.t 3)⟩,
      ⟨(some 16), none, .bin .rem 32 (.t 15) (.c (.int .u64 256))⟩,
      ⟨(some 17), none, .conv 32 5 (.t 16)⟩,
      ⟨(some 18), none, .indexAddr 1 (.t 13) (.t 14)⟩,
      ⟨none, none, .store 1 (.t 18) (.t 17)⟩] (some [3, 4, 5]))
    (.ops [⟨(some 19), none, .move (.t 3)⟩,
      ⟨(some 20), none, .bin .quo 32 (.t 19) (.c (.int .u64 256))⟩,
      ⟨(some 3), none, .move (.t 20)⟩] (some [3, 4, 5]))))
   (.ops [⟨(some 11), none, .move (.t 5)⟩,
     ⟨(some 12), none, .bin .sub 3 (.t 11) (.c (.int .i64 1))⟩,
     ⟨(some 5), none, .move (.t 12)⟩] (some [3, 4, 5])))))))
 (.seq (.ops [⟨(some 21), none, .move (.t 4)⟩,
   ⟨(some 22), none, .bstr (.t 21)⟩,
   ⟨(some 2), none, .move (.t 22)⟩] (some [2]))
 .ret))))), [.tmp 2]⟩

theorem is34 : FnIs Try.prog 34 x34 := ⟨Try.f34, _, Try.func34, by kernel_rfl, rfl, by kernel_rfl, by decide, by kernel_rfl⟩

-- 35 math.Float64frombits: no body
def x35 : XDecl := .ext 35

theorem is35 : FnIs Try.prog 35 x35 := rfl

/-- cloisonne/value.Weight -/
def x36 : XDecl := .code ⟨1, 
 (.seq (.ops [⟨(some 1), none, .box (.t 0)⟩,
   ⟨(some 2), none, .move (.c (.int .i64 0))⟩] (some [1]))
 (.seq (.ops [⟨(some 6), none, .load true 3 (.t 1)⟩,
   ⟨(some 7), none, .call (.c (.func (.func 44) #[] #[])) [(.t 6)]⟩,
   ⟨(some 5), none, .move (.t 7)⟩,
   ⟨(some 8), none, .extract (.t 5) 0⟩,
   ⟨(some 9), none, .extract (.t 5) 1⟩,
   ⟨(some 3), none, .move (.t 8)⟩,
   ⟨(some 4), none, .move (.t 9)⟩] (some [3]))
 (.seq (.ops [⟨(some 10), none, .move (.t 3)⟩,
   ⟨(some 11), none, .calcB .len [9] 3 [(.t 10)]⟩,
   ⟨(some 2), none, .move (.t 11)⟩] (some [2]))
 .ret))), [.tmp 2]⟩

theorem is36 : FnIs Try.prog 36 x36 := ⟨Try.f36, _, Try.func36, by kernel_rfl, rfl, by kernel_rfl, by decide, by kernel_rfl⟩

/-- cloisonne/cloisonneref01.Bits -/
def x37 : XDecl := .code ⟨1, 
 (.seq (.ops [⟨(some 2), none, .move (.c (.int .u64 0))⟩] (some [0]))
 (.seq (.seq (.ops [⟨(some 3), none, .move (.t 0)⟩,
   ⟨(some 4), none, .call (.c (.func (.func 45) #[] #[])) [(.t 3)]⟩] (some [0, 4]))
 (.cond (.t 4)
  (.seq (.ops [⟨(some 2), none, .move (.c (.int .u64 9221120237041090561))⟩] (some [2]))
  .ret)
  .skip))
 (.seq (.ops [⟨(some 5), none, .move (.t 0)⟩,
   ⟨(some 6), none, .call (.c (.func (.func 46) #[] #[])) [(.t 5)]⟩,
   ⟨(some 2), none, .move (.t 6)⟩] (some [2]))
 .ret))), [.tmp 2]⟩

theorem is37 : FnIs Try.prog 37 x37 := ⟨Try.f37, _, Try.func37, by kernel_rfl, rfl, by kernel_rfl, by decide, by kernel_rfl⟩

/-- slices.Sort[[]string,string] -/
def x38 : XDecl := .code ⟨1, 
 (.seq (.ops [⟨(some 3), none, .move (.t 0)⟩,
   ⟨(some 4), none, .len (.t 3)⟩,
   ⟨(some 2), none, .move (.t 4)⟩] (some [0, 2]))
 (.ops [⟨(some 5), none, .move (.t 0)⟩,
   ⟨(some 6), none, .move (.t 2)⟩,
   ⟨(some 7), none, .move (.t 2)⟩,
   ⟨(some 8), none, .conv 3 78 (.t 7)⟩,
   ⟨(some 9), none, .call (.c (.func (.func 48) #[] #[])) [(.t 8)]⟩,
   ⟨(some 10), none, .call (.c (.func (.func 47) #[] #[])) [(.t 5), (.c (.int .i64 0)), (.t 6), (.t 9)]⟩] (some []))), []⟩

theorem is38 : FnIs Try.prog 38 x38 := ⟨Try.f38, _, Try.func38, by kernel_rfl, rfl, by kernel_rfl, by decide, by kernel_rfl⟩

/-- slices.Compact[[]string,string] -/
def x39 : XDecl := .code ⟨1, 
 (.seq (.ops [⟨(some 2), none, .move (.c (.slice none 0 0))⟩] (some [0]))
 (.seq (.seq (.ops [⟨(some 6), none, .move (.t 0)⟩,
   ⟨(some 7), none, .len (.t 6)⟩,
   ⟨(some 8), none, .bin .lss 3 (.t 7) (.c (.int .i64 2))⟩] (some [0, 8]))
 (.cond (.t 8)
  (.seq (.ops [⟨(some 9), none, .move (.t 0)⟩,
    ⟨(some 2), none, .move (.t 9)⟩] (some [2]))
  .ret)
  .skip))
 (.seq (.seq (.ops [⟨(some 3), none, .move (.c (.int .i64 1))⟩] (some [0, 3]))
 (.block 0
  (.loop
   (.seq (.seq (.ops [⟨(some 10), none, .move (.t 3)⟩,
     ⟨(some 11), none, .move (.t 0)⟩,
     ⟨(some 12), none, .len (.t 11)⟩,
     ⟨(some 13), none, .bin .lss 3 (.t 10) (.t 12)⟩] (some [0, 3, 13]))
   (.cond (.t 13)
    .skip
    (.exit 0)))
   (.seq (.block 1
    (.seq (.opsr [⟨(some 16), none, .move (.t 0)⟩,
      ⟨(some 17), none, .move (.t 3)⟩,
      ⟨(some 18), none, .indexAddr 1 (.t 16) (.t 17)⟩,
      ⟨(some 19), none, .load false 1 (.t 18)⟩,
      ⟨(some 20), none, .move (.t 0)⟩,
      ⟨(some 21), none, .move (.t 3)⟩,
      ⟨(some 22), none, .bin .sub 3 (.t 21) (.c (.int .i64 1))⟩,
      ⟨(some 23), none, .indexAddr 1 (.t 20) (.t 22)⟩,
      ⟨(some 24), none, .load false 1 (.t 23)⟩,
      ⟨(some 25), none, .bin .eql 9 (.t 19) (.t 24)⟩] (some [0, 3, 25]))
    (.cond (.t 25)
     (.seq (.ops [⟨(some 26), none, .move (.t 0)⟩,
       ⟨(some 27), none, .move (.t 3)⟩,
       ⟨(some 28), none, .slice 1 (.t 26) (some (.t 27)) none none⟩,
       ⟨(some 4), none, .move (.t 28)⟩] (some [0, 3, 4]))
     (.seq (.seq (.ops [⟨(some 5), none, .move (.c (.int .i64 1))⟩] (some [0, 3, 4, 5]))
     (.block 2
      (.loop
       (.seq (.seq (.ops [⟨(some 29), none, .move (.t 5)⟩,
         ⟨(some 30), none, .move (.t 4)⟩,
         ⟨(some 31), none, .len (.t 30)⟩,
         ⟨(some 32), none, .bin .lss 3 (.t 29) (.t 31)⟩] (some [0, 3, 4, 5, 32]))
       (.cond (.t 32)
        .skip
        (.exit 2)))
       (.seq (.block 3
        (.seq (.opsr [⟨(some 35), none, .move (.t 4)⟩,
          ⟨(some 36), none, .move (.t 5)⟩,
          ⟨(some 37), none, .indexAddr 1 (.t 35) (.t 36)⟩,
          ⟨(some 38), none, .load false 1 (.t 37)⟩,
          ⟨(some 39), none, .move (.t 4)⟩,
          ⟨(some 40), none, .move (.t 5)⟩,
          ⟨(some 41), none, .bin .sub 3 (.t 40) (.c (.int .i64 1))⟩,
          ⟨(some 42), none, .indexAddr 1 (.t 39) (.t 41)⟩,
          ⟨(some 43), none, .load false 1 (.t 42)⟩,
          ⟨(some 44), none, .bin .neq 9 (.t 38) (.t 43)⟩] (some [0, 3, 4, 5, 44]))
        (.cond (.t 44)
         (.seq (.ops [⟨(some 45), none, .move (.t 0)⟩,
           ⟨(some 46), none, .move (.t 3)⟩,
           ⟨(some 47), none, .move (.t 4)⟩,
           ⟨(some 48), none, .move (.t 5)⟩,
           ⟨(some 49), none, .indexAddr 1 (.t 47) (.t 48)⟩,
           ⟨(some 50), none, .load false 1 (.t 49)⟩,
           ⟨(some 51), none, .indexAddr 1 (.t 45) (.t 46)⟩,
           ⟨none, none, .store 1 (.t 51) (.t 50)⟩] (some [0, 3, 4, 5]))
         (.ops [⟨(some 52), none, .move (.t 3)⟩,
           ⟨(some 53), none, .bin .add 3 (.t 52) (.c (.int .i64 1))⟩,
           ⟨(some 3), none, .move (.t 53)⟩] (some [0, 3, 4, 5])))
         .skip)))
       (.ops [⟨(some 33), none, .move (.t 5)⟩,
         ⟨(some 34), none, .bin .add 3 (.t 33) (.c (.int .i64 1))⟩,
         ⟨(some 5), none, .move (.t 34)⟩] (some [0, 3, 4, 5])))))))
     (.seq (.ops [⟨(some 54), none, .move (.t 0)⟩,
       ⟨(some 55), none, .move (.t 3)⟩,
       ⟨(some 56), none, .slice 1 (.t 54) (some (.t 55)) none none⟩,
       ⟨none, none, .clear [(.string .empty)] (.t 56)⟩] (some [0, 3]))
     (.seq (.ops [⟨(some 57), none, .move (.t 0)⟩,
       ⟨(some 58), none, .move (.t 3)⟩,
       ⟨(some 59), none, .slice 1 (.t 57) none (some (.t 58)) none⟩,
       ⟨(some 2), none, .move (.t 59)⟩] (some [2]))
     .ret))))
     .skip)))
   (.ops [⟨(some 14), none, .move (.t 3)⟩,
     ⟨(some 15), none, .bin .add 3 (.t 14) (.c (.int .i64 1))⟩,
     ⟨(some 3), none, .move (.t 15)⟩] (some [0, 3])))))))
 (.seq (.ops [⟨(some 60), none, .move (.t 0)⟩,
   ⟨(some 2), none, .move (.t 60)⟩] (some [2]))
 .ret)))), [.tmp 2]⟩

theorem is39 : FnIs Try.prog 39 x39 := ⟨Try.f39, _, Try.func39, by kernel_rfl, rfl, by kernel_rfl, by decide, by kernel_rfl⟩

/-- cloisonne/diff.find -/
def x40 : XDecl := .code ⟨2, 
 (.seq (.ops [⟨(some 4), none, .alloc [(.string .empty), (.int .i64 0), (.bool false), (.string .empty), (.int .u64 0)]⟩,
   ⟨(some 5), none, .move (.c (.bool false))⟩] (some [0, 1, 4]))
 (.seq (.ops [⟨(some 9), none, .move (.t 0)⟩,
   ⟨(some 10), none, .move (.t 1)⟩,
   ⟨(some 11), none, .call (.c (.func (.func 49) #[] #[])) [(.t 9), (.t 10), (.c (.func (.func 50) #[] #[]))]⟩,
   ⟨(some 8), none, .move (.t 11)⟩,
   ⟨(some 12), none, .extract (.t 8) 0⟩,
   ⟨(some 13), none, .extract (.t 8) 1⟩,
   ⟨(some 6), none, .move (.t 12)⟩,
   ⟨(some 7), none, .move (.t 13)⟩] (some [0, 4, 6, 7]))
 (.seq (.seq (.ops [⟨(some 14), none, .move (.t 7)⟩,
   ⟨(some 15), none, .un .not (.t 14)⟩] (some [0, 4, 6, 15]))
 (.cond (.t 15)
  (.seq (.ops [⟨(some 16), none, .build [(.string .empty), (.int .i64 0), (.bool false), (.string .empty), (.int .u64 0)] [(0, 1), (1, 1), (2, 3)] []⟩,
    ⟨none, none, .store 5 (.t 4) (.t 16)⟩,
    ⟨(some 5), none, .move (.c (.bool false))⟩] (some [4, 5]))
  .ret)
  .skip))
 (.seq (.ops [⟨(some 17), none, .move (.t 0)⟩,
   ⟨(some 18), none, .move (.t 6)⟩,
   ⟨(some 19), none, .indexAddr 5 (.t 17) (.t 18)⟩,
   ⟨(some 20), none, .load true 5 (.t 19)⟩,
   ⟨none, none, .store 5 (.t 4) (.t 20)⟩,
   ⟨(some 5), none, .move (.c (.bool true))⟩] (some [4, 5]))
 .ret)))), [.cell true 5 4, .tmp 5]⟩

theorem is40 : FnIs Try.prog 40 x40 := ⟨Try.f40, _, Try.func40, by kernel_rfl, rfl, by kernel_rfl, by decide, by kernel_rfl⟩

/-- cloisonne/num.Bits -/
def x41 : XDecl := .code ⟨1, 
 (.seq (.ops [⟨(some 2), none, .move (.c (.int .u64 0))⟩] (some [0]))
 (.seq (.seq (.ops [⟨(some 3), none, .move (.t 0)⟩,
   ⟨(some 4), none, .call (.c (.func (.func 52) #[] #[])) [(.t 3)]⟩] (some [0, 4]))
 (.cond (.t 4)
  (.seq (.ops [⟨(some 2), none, .move (.c (.int .u64 9221120237041090561))⟩] (some [2]))
  .ret)
  .skip))
 (.seq (.ops [⟨(some 5), none, .move (.t 0)⟩,
   ⟨(some 6), none, .call (.c (.func (.func 46) #[] #[])) [(.t 5)]⟩,
   ⟨(some 2), none, .move (.t 6)⟩] (some [2]))
 .ret))), [.tmp 2]⟩

theorem is41 : FnIs Try.prog 41 x41 := ⟨Try.f41, _, Try.func41, by kernel_rfl, rfl, by kernel_rfl, by decide, by kernel_rfl⟩

/-- cloisonne/num.From -/
def x42 : XDecl := .code ⟨1, 
 (.seq (.ops [⟨(some 2), none, .move (.c (.float .f64 0))⟩] (some [0]))
 (.seq (.ops [⟨(some 3), none, .move (.t 0)⟩,
   ⟨(some 4), none, .call (.c (.func (.func 35) #[] #[])) [(.t 3)]⟩,
   ⟨(some 5), none, .call (.c (.func (.func 41) #[] #[])) [(.t 4)]⟩,
   ⟨(some 6), none, .call (.c (.func (.func 35) #[] #[])) [(.t 5)]⟩,
   ⟨(some 2), none, .move (.t 6)⟩] (some [2]))
 .ret)), [.tmp 2]⟩

theorem is42 : FnIs Try.prog 42 x42 := ⟨Try.f42, _, Try.func42, by kernel_rfl, rfl, by kernel_rfl, by decide, by kernel_rfl⟩

/-- cloisonne/cloisonneref01.Place -/
def x43 : XDecl := .code ⟨1, 
 (.seq (.ops [⟨(some 2), none, .move (.c (.int .u64 0))⟩] (some [0]))
 (.seq (.seq (.ops [⟨(some 7), none, .move (.t 0)⟩,
   ⟨(some 8), none, .call (.c (.func (.func 45) #[] #[])) [(.t 7)]⟩] (some [0, 8]))
 (.cond (.t 8)
  (.seq (.ops [⟨(some 2), none, .move (.c (.int .u64 18437736874454810626))⟩] (some [2]))
  .ret)
  .skip))
 (.seq (.ops [⟨(some 10), none, .move (.t 0)⟩,
   ⟨(some 11), none, .call (.c (.func (.func 53) #[] #[])) [(.t 10)]⟩,
   ⟨(some 9), none, .move (.t 11)⟩,
   ⟨(some 12), none, .extract (.t 9) 0⟩,
   ⟨(some 13), none, .extract (.t 9) 1⟩,
   ⟨(some 14), none, .extract (.t 9) 2⟩,
   ⟨(some 3), none, .move (.t 12)⟩,
   ⟨(some 4), none, .move (.t 13)⟩,
   ⟨(some 5), none, .move (.t 14)⟩] (some [3, 4, 5]))
 (.seq (.ops [⟨(some 15), none, .move (.t 4)⟩,
   ⟨(some 16), none, .bin .mul 32 (.t 15) (.c (.int .u64 4503599627370496))⟩,
   ⟨(some 17), none, .move (.t 5)⟩,
   ⟨(some 18), none, .bin .add 32 (.t 16) (.t 17)⟩,
   ⟨(some 6), none, .move (.t 18)⟩] (some [3, 6]))
 (.seq (.seq (.ops [⟨(some 19), none, .move (.t 3)⟩] (some [6, 19]))
 (.cond (.t 19)
  (.seq (.ops [⟨(some 20), none, .move (.t 6)⟩,
    ⟨(some 21), none, .bin .sub 32 (.c (.int .u64 9218868437227405312)) (.t 20)⟩,
    ⟨(some 2), none, .move (.t 21)⟩] (some [2]))
  .ret)
  .skip))
 (.seq (.ops [⟨(some 22), none, .move (.t 6)⟩,
   ⟨(some 23), none, .bin .add 32 (.c (.int .u64 9218868437227405313)) (.t 22)⟩,
   ⟨(some 2), none, .move (.t 23)⟩] (some [2]))
 .ret)))))), [.tmp 2]⟩

theorem is43 : FnIs Try.prog 43 x43 := ⟨Try.f43, _, Try.func43, by kernel_rfl, rfl, by kernel_rfl, by decide, by kernel_rfl⟩

/-- cloisonne/value.Pack -/
def x44 : XDecl := .code ⟨1, 
 (.seq (.ops [⟨(some 1), none, .box (.t 0)⟩,
   ⟨(some 2), none, .move (.c (.string .empty))⟩,
   ⟨(some 3), none, .move (.c (.int .i64 0))⟩] (some [1]))
 (.seq (.block 0
  (.seq (.ops [⟨(some 5), none, .load true 3 (.t 1)⟩,
    ⟨(some 6), none, .call (.c (.func (.func 33) #[] #[])) [(.t 5)]⟩,
    ⟨(some 7), none, .un .not (.t 6)⟩,
    ⟨(some 4), none, .move (.t 7)⟩] (some [1, 4]))
  (.cond (.t 4)
   (.seq (.ops [⟨(some 2), none, .move (.c (.string .empty))⟩,
     ⟨(some 3), none, .move (.c (.int .i64 1))⟩] (some [2, 3]))
   .ret)
   (.seq (.ops [⟨(some 9), none, .fieldAddr 0 (.t 1)⟩,
     ⟨(some 10), none, .load false 1 (.t 9)⟩,
     ⟨(some 8), none, .move (.t 10)⟩] (some [1, 8]))
   (.cond (.t 8)
    (.seq (.ops [⟨(some 11), none, .fieldAddr 2 (.t 1)⟩,
      ⟨(some 12), none, .load false 1 (.t 11)⟩,
      ⟨(some 13), none, .call (.c (.func (.func 42) #[] #[])) [(.t 12)]⟩,
      ⟨(some 14), none, .call (.c (.func (.func 54) #[] #[])) [(.t 13)]⟩,
      ⟨(some 15), none, .bin .add 9 (.c (.string ⟨#[1]⟩)) (.t 14)⟩,
      ⟨(some 2), none, .move (.t 15)⟩,
      ⟨(some 3), none, .move (.c (.int .i64 0))⟩] (some [2, 3]))
    .ret)
    .skip)))))
 (.seq (.ops [⟨(some 16), none, .fieldAddr 1 (.t 1)⟩,
   ⟨(some 17), none, .load false 1 (.t 16)⟩,
   ⟨(some 18), none, .bin .add 9 (.c (.string ⟨#[0]⟩)) (.t 17)⟩,
   ⟨(some 2), none, .move (.t 18)⟩,
   ⟨(some 3), none, .move (.c (.int .i64 0))⟩] (some [2, 3]))
 .ret))), [.tmp 2, .tmp 3]⟩

theorem is44 : FnIs Try.prog 44 x44 := ⟨Try.f44, _, Try.func44, by kernel_rfl, rfl, by kernel_rfl, by decide, by kernel_rfl⟩

/-- cloisonne/cloisonneref01.NaN -/
def x45 : XDecl := .code ⟨1, 
 (.seq (.ops [⟨(some 2), none, .move (.c (.bool false))⟩] (some [0]))
 (.seq (.ops [⟨(some 7), none, .move (.t 0)⟩,
   ⟨(some 8), none, .call (.c (.func (.func 53) #[] #[])) [(.t 7)]⟩,
   ⟨(some 6), none, .move (.t 8)⟩,
   ⟨(some 9), none, .extract (.t 6) 0⟩,
   ⟨(some 10), none, .extract (.t 6) 1⟩,
   ⟨(some 11), none, .extract (.t 6) 2⟩,
   ⟨(some 3), none, .move (.t 9)⟩,
   ⟨(some 4), none, .move (.t 10)⟩,
   ⟨(some 5), none, .move (.t 11)⟩] (some [4, 5]))
 (.seq (.ops [⟨(some 12), none, .move (.t 4)⟩,
   ⟨(some 13), none, .bin .eql 32 (.t 12) (.c (.int .u64 2047))⟩,
   ⟨(some 14), none, .move (.t 13)⟩,
   ⟨(some 15), (some (14, true)), .move (.t 5)⟩,
   ⟨(some 16), (some (14, true)), .bin .gtr 32 (.t 15) (.c (.int .u64 0))⟩,
   ⟨(some 17), none, .pick (.t 14) (.t 16) (.c (.bool false))⟩,
   ⟨(some 2), none, .move (.t 17)⟩] (some [2]))
 .ret))), [.tmp 2]⟩

theorem is45 : FnIs Try.prog 45 x45 := ⟨Try.f45, _, Try.func45, by kernel_rfl, rfl, by kernel_rfl, by decide, by kernel_rfl⟩

-- 46 math.Float64bits: no body
def x46 : XDecl := .ext 46

theorem is46 : FnIs Try.prog 46 x46 := rfl

/-- slices.pdqsortOrdered[string] -/
def x47 : XDecl := .code ⟨4, 
 (.seq (.ops [⟨(some 8), none, .move (.c (.bool true))⟩] (some [0, 1, 2, 3, 8]))
 (.seq (.ops [⟨(some 9), none, .move (.c (.bool true))⟩] (some [0, 1, 2, 3, 8, 9]))
 (.block 0
  (.loop
   (.block 1
    (.seq (.ops [⟨(some 19), none, .move (.t 2)⟩,
      ⟨(some 20), none, .move (.t 1)⟩,
      ⟨(some 21), none, .bin .sub 3 (.t 19) (.t 20)⟩,
      ⟨(some 10), none, .move (.t 21)⟩] (some [0, 1, 2, 3, 8, 9, 10]))
    (.seq (.seq (.ops [⟨(some 22), none, .move (.t 10)⟩,
      ⟨(some 23), none, .bin .leq 3 (.t 22) (.c (.int .i64 12))⟩] (some [0, 1, 2, 3, 8, 9, 10, 23]))
    (.cond (.t 23)
     (.seq (.ops [⟨(some 24), none, .move (.t 0)⟩,
       ⟨(some 25), none, .move (.t 1)⟩,
       ⟨(some 26), none, .move (.t 2)⟩,
       ⟨(some 27), none, .call (.c (.func (.func 55) #[] #[])) [(.t 24), (.t 25), (.t 26)]⟩] (some []))
     .ret)
     .skip))
    (.seq (.seq (.ops [⟨(some 28), none, .move (.t 3)⟩,
      ⟨(some 29), none, .bin .eql 3 (.t 28) (.c (.int .i64 0))⟩] (some [0, 1, 2, 3, 8, 9, 10, 29]))
    (.cond (.t 29)
     (.seq (.ops [⟨(some 30), none, .move (.t 0)⟩,
       ⟨(some 31), none, .move (.t 1)⟩,
       ⟨(some 32), none, .move (.t 2)⟩,
       ⟨(some 33), none, .call (.c (.func (.func 56) #[] #[])) [(.t 30), (.t 31), (.t 32)]⟩] (some []))
     .ret)
     .skip))
    (.seq (.seq (.ops [⟨(some 34), none, .move (.t 8)⟩,
      ⟨(some 35), none, .un .not (.t 34)⟩] (some [0, 1, 2, 3, 8, 9, 10, 35]))
    (.cond (.t 35)
     (.seq (.ops [⟨(some 36), none, .move (.t 0)⟩,
       ⟨(some 37), none, .move (.t 1)⟩,
       ⟨(some 38), none, .move (.t 2)⟩,
       ⟨(some 39), none, .call (.c (.func (.func 57) #[] #[])) [(.t 36), (.t 37), (.t 38)]⟩] (some [0, 1, 2, 3, 8, 9, 10]))
     (.ops [⟨(some 40), none, .move (.t 3)⟩,
       ⟨(some 41), none, .bin .sub 3 (.t 40) (.c (.int .i64 1))⟩,
       ⟨(some 3), none, .move (.t 41)⟩] (some [0, 1, 2, 3, 8, 9, 10])))
     .skip))
    (.seq (.ops [⟨(some 43), none, .move (.t 0)⟩,
      ⟨(some 44), none, .move (.t 1)⟩,
      ⟨(some 45), none, .move (.t 2)⟩,
      ⟨(some 46), none, .call (.c (.func (.func 58) #[] #[])) [(.t 43), (.t 44), (.t 45)]⟩,
      ⟨(some 42), none, .move (.t 46)⟩,
      ⟨(some 47), none, .extract (.t 42) 0⟩,
      ⟨(some 48), none, .extract (.t 42) 1⟩,
      ⟨(some 11), none, .move (.t 47)⟩,
      ⟨(some 12), none, .move (.t 48)⟩] (some [0, 1, 2, 3, 8, 9, 10, 11, 12]))
    (.seq (.seq (.ops [⟨(some 49), none, .move (.t 12)⟩,
      ⟨(some 50), none, .bin .eql 86 (.t 49) (.c (.int .i64 2))⟩] (some [0, 1, 2, 3, 8, 9, 10, 11, 12, 50]))
    (.cond (.t 50)
     (.seq (.ops [⟨(some 51), none, .move (.t 0)⟩,
       ⟨(some 52), none, .move (.t 1)⟩,
       ⟨(some 53), none, .move (.t 2)⟩,
       ⟨(some 54), none, .call (.c (.func (.func 59) #[] #[])) [(.t 51), (.t 52), (.t 53)]⟩] (some [0, 1, 2, 3, 8, 9, 10, 11]))
     (.seq (.ops [⟨(some 55), none, .move (.t 2)⟩,
       ⟨(some 56), none, .bin .sub 3 (.t 55) (.c (.int .i64 1))⟩,
       ⟨(some 57), none, .move (.t 11)⟩,
       ⟨(some 58), none, .move (.t 1)⟩,
       ⟨(some 59), none, .bin .sub 3 (.t 57) (.t 58)⟩,
       ⟨(some 60), none, .bin .sub 3 (.t 56) (.t 59)⟩,
       ⟨(some 11), none, .move (.t 60)⟩] (some [0, 1, 2, 3, 8, 9, 10, 11]))
     (.ops [⟨(some 12), none, .move (.c (.int .i64 1))⟩] (some [0, 1, 2, 3, 8, 9, 10, 11, 12]))))
     .skip))
    (.seq (.seq (.ops [⟨(some 61), none, .move (.t 8)⟩,
      ⟨(some 62), none, .move (.t 61)⟩,
      ⟨(some 63), (some (62, true)), .move (.t 9)⟩,
      ⟨(some 64), none, .pick (.t 62) (.t 63) (.c (.bool false))⟩,
      ⟨(some 65), none, .move (.t 64)⟩,
      ⟨(some 66), (some (65, true)), .move (.t 12)⟩,
      ⟨(some 67), (some (65, true)), .bin .eql 86 (.t 66) (.c (.int .i64 1))⟩,
      ⟨(some 68), none, .pick (.t 65) (.t 67) (.c (.bool false))⟩] (some [0, 1, 2, 3, 8, 9, 10, 11, 68]))
    (.cond (.t 68)
     (.seq (.ops [⟨(some 69), none, .move (.t 0)⟩,
       ⟨(some 70), none, .move (.t 1)⟩,
       ⟨(some 71), none, .move (.t 2)⟩,
       ⟨(some 72), none, .call (.c (.func (.func 60) #[] #[])) [(.t 69), (.t 70), (.t 71)]⟩] (some [0, 1, 2, 3, 8, 9, 10, 11, 72]))
     (.cond (.t 72)
      .ret
      .skip))
     .skip))
    (.seq (.seq (.opsd [(0, 0, ⟨(some 73), none, .move (.t 1)⟩),
      (1, 1, ⟨(some 74), none, .bin .gtr 3 (.t 73) (.c (.int .i64 0))⟩),
      (2, 3, ⟨(some 75), none, .move (.t 74)⟩),
      (3, 7, ⟨(some 76), (some (75, true)), .move (.t 0)⟩),
      (4, 7, ⟨(some 77), (some (75, true)), .move (.t 1)⟩),
      (5, 23, ⟨(some 78), (some (75, true)), .bin .sub 3 (.t 77) (.c (.int .i64 1))⟩),
      (6, 63, ⟨(some 79), (some (75, true)), .indexAddr 1 (.t 76) (.t 78)⟩),
      (7, 127, ⟨(some 80), (some (75, true)), .load false 1 (.t 79)⟩),
      (8, 7, ⟨(some 81), (some (75, true)), .move (.t 0)⟩),
      (9, 7, ⟨(some 82), (some (75, true)), .move (.t 11)⟩),
      (10, 775, ⟨(some 83), (some (75, true)), .indexAddr 1 (.t 81) (.t 82)⟩),
      (11, 1799, ⟨(some 84), (some (75, true)), .load false 1 (.t 83)⟩),
      (12, 4095, ⟨(some 85), (some (75, true)), .call (.c (.func (.func 61) #[] #[])) [(.t 80), (.t 84)]⟩),
      (13, 8191, ⟨(some 86), (some (75, true)), .un .not (.t 85)⟩),
      (14, 16383, ⟨(some 87), none, .pick (.t 75) (.t 86) (.c (.bool false))⟩)] (some [0, 1, 2, 3, 8, 9, 10, 11, 87]))
    (.cond (.t 87)
     (.seq (.ops [⟨(some 88), none, .move (.t 0)⟩,
       ⟨(some 89), none, .move (.t 1)⟩,
       ⟨(some 90), none, .move (.t 2)⟩,
       ⟨(some 91), none, .move (.t 11)⟩,
       ⟨(some 92), none, .call (.c (.func (.func 62) #[] #[])) [(.t 88), (.t 89), (.t 90), (.t 91)]⟩,
       ⟨(some 13), none, .move (.t 92)⟩] (some [0, 2, 3, 8, 9, 13]))
     (.seq (.ops [⟨(some 93), none, .move (.t 13)⟩,
       ⟨(some 1), none, .move (.t 93)⟩] (some [0, 1, 2, 3, 8, 9]))
     (.exit 1)))
     .skip))
    (.seq (.ops [⟨(some 95), none, .move (.t 0)⟩,
      ⟨(some 96), none, .move (.t 1)⟩,
      ⟨(some 97), none, .move (.t 2)⟩,
      ⟨(some 98), none, .move (.t 11)⟩,
      ⟨(some 99), none, .call (.c (.func (.func 63) #[] #[])) [(.t 95), (.t 96), (.t 97), (.t 98)]⟩,
      ⟨(some 94), none, .move (.t 99)⟩,
      ⟨(some 100), none, .extract (.t 94) 0⟩,
      ⟨(some 101), none, .extract (.t 94) 1⟩,
      ⟨(some 14), none, .move (.t 100)⟩,
      ⟨(some 15), none, .move (.t 101)⟩] (some [0, 1, 2, 3, 10, 14, 15]))
    (.seq (.ops [⟨(some 102), none, .move (.t 15)⟩,
      ⟨(some 9), none, .move (.t 102)⟩] (some [0, 1, 2, 3, 9, 10, 14]))
    (.seq (.ops [⟨(some 103), none, .move (.t 14)⟩,
      ⟨(some 104), none, .move (.t 1)⟩,
      ⟨(some 105), none, .bin .sub 3 (.t 103) (.t 104)⟩,
      ⟨(some 106), none, .move (.t 2)⟩,
      ⟨(some 107), none, .move (.t 14)⟩,
      ⟨(some 108), none, .bin .sub 3 (.t 106) (.t 107)⟩,
      ⟨(some 16), none, .move (.t 105)⟩,
      ⟨(some 17), none, .move (.t 108)⟩] (some [0, 1, 2, 3, 9, 10, 14, 16, 17]))
    (.seq (.ops [⟨(some 109), none, .move (.t 10)⟩,
      ⟨(some 110), none, .bin .quo 3 (.t 109) (.c (.int .i64 8))⟩,
      ⟨(some 18), none, .move (.t 110)⟩] (some [0, 1, 2, 3, 9, 14, 16, 17, 18]))
    (.seq (.ops [⟨(some 111), none, .move (.t 16)⟩,
      ⟨(some 112), none, .move (.t 17)⟩,
      ⟨(some 113), none, .bin .lss 3 (.t 111) (.t 112)⟩] (some [0, 1, 2, 3, 9, 14, 16, 17, 18, 113]))
    (.cond (.t 113)
     (.seq (.ops [⟨(some 114), none, .move (.t 16)⟩,
       ⟨(some 115), none, .move (.t 18)⟩,
       ⟨(some 116), none, .bin .geq 3 (.t 114) (.t 115)⟩,
       ⟨(some 8), none, .move (.t 116)⟩] (some [0, 1, 2, 3, 8, 9, 14]))
     (.seq (.ops [⟨(some 117), none, .move (.t 0)⟩,
       ⟨(some 118), none, .move (.t 1)⟩,
       ⟨(some 119), none, .move (.t 14)⟩,
       ⟨(some 120), none, .move (.t 3)⟩,
       ⟨(some 121), none, .call (.c (.func (.func 47) #[] #[])) [(.t 117), (.t 118), (.t 119), (.t 120)]⟩] (some [0, 2, 3, 8, 9, 14]))
     (.ops [⟨(some 122), none, .move (.t 14)⟩,
       ⟨(some 123), none, .bin .add 3 (.t 122) (.c (.int .i64 1))⟩,
       ⟨(some 1), none, .move (.t 123)⟩] (some [0, 1, 2, 3, 8, 9]))))
     (.seq (.ops [⟨(some 124), none, .move (.t 17)⟩,
       ⟨(some 125), none, .move (.t 18)⟩,
       ⟨(some 126), none, .bin .geq 3 (.t 124) (.t 125)⟩,
       ⟨(some 8), none, .move (.t 126)⟩] (some [0, 1, 2, 3, 8, 9, 14]))
     (.seq (.ops [⟨(some 127), none, .move (.t 0)⟩,
       ⟨(some 128), none, .move (.t 14)⟩,
       ⟨(some 129), none, .bin .add 3 (.t 128) (.c (.int .i64 1))⟩,
       ⟨(some 130), none, .move (.t 2)⟩,
       ⟨(some 131), none, .move (.t 3)⟩,
       ⟨(some 132), none, .call (.c (.func (.func 47) #[] #[])) [(.t 127), (.t 129), (.t 130), (.t 131)]⟩] (some [0, 1, 3, 8, 9, 14]))
     (.ops [⟨(some 133), none, .move (.t 14)⟩,
       ⟨(some 2), none, .move (.t 133)⟩] (some [0, 1, 2, 3, 8, 9]))))))))))))))))))))))), []⟩

theorem is47 : FnIs Try.prog 47 x47 := ⟨Try.f47, _, Try.func47, by kernel_rfl, rfl, by kernel_rfl, by decide, by kernel_rfl⟩

/-- math/bits.Len -/
def x48 : XDecl := .code ⟨1, 
 (.seq (.ops [⟨(some 2), none, .move (.c (.int .i64 0))⟩] (some [0]))
 (.seq (.cond (.c (.bool false))
  (.seq (.ops [⟨(some 3), none, .move (.t 0)⟩,
    ⟨(some 4), none, .conv 78 94 (.t 3)⟩,
    ⟨(some 5), none, .call (.c (.func (.func 64) #[] #[])) [(.t 4)]⟩,
    ⟨(some 2), none, .move (.t 5)⟩] (some [2]))
  .ret)
  .skip)
 (.seq (.ops [⟨(some 6), none, .move (.t 0)⟩,
   ⟨(some 7), none, .call (.c (.func (.func 65) #[] #[])) [(.t 6)]⟩,
   ⟨(some 2), none, .move (.t 7)⟩] (some [2]))
 .ret))), [.tmp 2]⟩

theorem is48 : FnIs Try.prog 48 x48 := ⟨Try.f48, _, Try.func48, by kernel_rfl, rfl, by kernel_rfl, by decide, by kernel_rfl⟩

/-- slices.BinarySearchFunc[[]cloisonne/api.Entry,cloisonne/api.Entry,string] -/
def x49 : XDecl := .code ⟨3, 
 (.seq (.ops [⟨(some 6), none, .move (.c (.int .i64 0))⟩,
   ⟨(some 7), none, .move (.c (.bool false))⟩] (some [0, 1, 2]))
 (.seq (.ops [⟨(some 12), none, .move (.t 0)⟩,
   ⟨(some 13), none, .len (.t 12)⟩,
   ⟨(some 8), none, .move (.t 13)⟩] (some [0, 1, 2, 8]))
 (.seq (.ops [⟨(some 14), none, .move (.t 8)⟩,
   ⟨(some 9), none, .move (.c (.int .i64 0))⟩,
   ⟨(some 10), none, .move (.t 14)⟩] (some [0, 1, 2, 8, 9, 10]))
 (.seq (.block 0
  (.loop
   (.seq (.seq (.ops [⟨(some 15), none, .move (.t 9)⟩,
     ⟨(some 16), none, .move (.t 10)⟩,
     ⟨(some 17), none, .bin .lss 3 (.t 15) (.t 16)⟩] (some [0, 1, 2, 8, 9, 10, 17]))
   (.cond (.t 17)
    .skip
    (.exit 0)))
   (.block 1
    (.seq (.ops [⟨(some 18), none, .move (.t 9)⟩,
      ⟨(some 19), none, .move (.t 10)⟩,
      ⟨(some 20), none, .bin .add 3 (.t 18) (.t 19)⟩,
      ⟨(some 21), none, .conv 3 78 (.t 20)⟩,
      ⟨(some 22), none, .bin .shr 78 (.t 21) (.c (.int .u64 1))⟩,
      ⟨(some 23), none, .conv 78 3 (.t 22)⟩,
      ⟨(some 11), none, .move (.t 23)⟩] (some [0, 1, 2, 8, 9, 10, 11]))
    (.seq (.ops [⟨(some 24), none, .move (.t 2)⟩,
      ⟨(some 25), none, .move (.t 0)⟩,
      ⟨(some 26), none, .move (.t 11)⟩,
      ⟨(some 27), none, .indexAddr 5 (.t 25) (.t 26)⟩,
      ⟨(some 28), none, .load true 5 (.t 27)⟩,
      ⟨(some 29), none, .move (.t 1)⟩,
      ⟨(some 30), none, .call (.t 24) [(.t 28), (.t 29)]⟩,
      ⟨(some 31), none, .bin .lss 3 (.t 30) (.c (.int .i64 0))⟩] (some [0, 1, 2, 8, 9, 10, 11, 31]))
    (.cond (.t 31)
     (.ops [⟨(some 32), none, .move (.t 11)⟩,
       ⟨(some 33), none, .bin .add 3 (.t 32) (.c (.int .i64 1))⟩,
       ⟨(some 9), none, .move (.t 33)⟩] (some [0, 1, 2, 8, 9, 10]))
     (.ops [⟨(some 34), none, .move (.t 11)⟩,
       ⟨(some 10), none, .move (.t 34)⟩] (some [0, 1, 2, 8, 9, 10])))))))))
 (.seq (.ops [⟨(some 35), none, .move (.t 9)⟩,
   ⟨(some 36), none, .move (.t 9)⟩,
   ⟨(some 37), none, .move (.t 8)⟩,
   ⟨(some 38), none, .bin .lss 3 (.t 36) (.t 37)⟩,
   ⟨(some 39), none, .move (.t 38)⟩,
   ⟨(some 40), (some (39, true)), .move (.t 2)⟩,
   ⟨(some 41), (some (39, true)), .move (.t 0)⟩,
   ⟨(some 42), (some (39, true)), .move (.t 9)⟩,
   ⟨(some 43), (some (39, true)), .indexAddr 5 (.t 41) (.t 42)⟩,
   ⟨(some 44), (some (39, true)), .load true 5 (.t 43)⟩,
   ⟨(some 45), (some (39, true)), .move (.t 1)⟩,
   ⟨(some 46), (some (39, true)), .call (.t 40) [(.t 44), (.t 45)]⟩,
   ⟨(some 47), (some (39, true)), .bin .eql 3 (.t 46) (.c (.int .i64 0))⟩,
   ⟨(some 48), none, .pick (.t 39) (.t 47) (.c (.bool false))⟩,
   ⟨(some 6), none, .move (.t 35)⟩,
   ⟨(some 7), none, .move (.t 48)⟩] (some [6, 7]))
 .ret))))), [.tmp 6, .tmp 7]⟩

theorem is49 : FnIs Try.prog 49 x49 := ⟨Try.f49, _, Try.func49, by kernel_rfl, rfl, by kernel_rfl, by decide, by kernel_rfl⟩

/-- cloisonne/diff.find$1 -/
def x50 : XDecl := .code ⟨2, 
 (.seq (.ops [⟨(some 2), none, .box (.t 0)⟩,
   ⟨(some 4), none, .move (.c (.int .i64 0))⟩] (some [1, 2]))
 (.seq (.ops [⟨(some 5), none, .fieldAddr 0 (.t 2)⟩,
   ⟨(some 6), none, .load false 1 (.t 5)⟩,
   ⟨(some 7), none, .move (.t 1)⟩,
   ⟨(some 8), none, .call (.c (.func (.func 51) #[] #[])) [(.t 6), (.t 7)]⟩,
   ⟨(some 4), none, .move (.t 8)⟩] (some [4]))
 .ret)), [.tmp 4]⟩

theorem is50 : FnIs Try.prog 50 x50 := ⟨Try.f50, _, Try.func50, by kernel_rfl, rfl, by kernel_rfl, by decide, by kernel_rfl⟩

/-- strings.Compare -/
def x51 : XDecl := .code ⟨2, 
 (.seq (.ops [⟨(some 4), none, .move (.c (.int .i64 0))⟩] (some [0, 1]))
 (.seq (.ops [⟨(some 5), none, .move (.t 0)⟩,
   ⟨(some 6), none, .move (.t 1)⟩,
   ⟨(some 7), none, .call (.c (.func (.func 66) #[] #[])) [(.t 5), (.t 6)]⟩,
   ⟨(some 4), none, .move (.t 7)⟩] (some [4]))
 .ret)), [.tmp 4]⟩

theorem is51 : FnIs Try.prog 51 x51 := ⟨Try.f51, _, Try.func51, by kernel_rfl, rfl, by kernel_rfl, by decide, by kernel_rfl⟩

/-- math.IsNaN -/
def x52 : XDecl := .code ⟨1, 
 (.seq (.ops [⟨(some 2), none, .move (.c (.bool false))⟩] (some [0]))
 (.seq (.ops [⟨(some 3), none, .move (.t 0)⟩,
   ⟨(some 4), none, .move (.t 0)⟩,
   ⟨(some 5), none, .bin .neq 64 (.t 3) (.t 4)⟩,
   ⟨(some 2), none, .move (.t 5)⟩] (some [2]))
 .ret)), [.tmp 2]⟩

theorem is52 : FnIs Try.prog 52 x52 := ⟨Try.f52, _, Try.func52, by kernel_rfl, rfl, by kernel_rfl, by decide, by kernel_rfl⟩

/-- cloisonne/cloisonneref01.Parts -/
def x53 : XDecl := .code ⟨1, 
 (.seq (.ops [⟨(some 2), none, .move (.c (.bool false))⟩,
   ⟨(some 3), none, .move (.c (.int .u64 0))⟩,
   ⟨(some 4), none, .move (.c (.int .u64 0))⟩] (some [0]))
 (.seq (.ops [⟨(some 6), none, .move (.t 0)⟩,
   ⟨(some 7), none, .call (.c (.func (.func 46) #[] #[])) [(.t 6)]⟩,
   ⟨(some 5), none, .move (.t 7)⟩] (some [5]))
 (.seq (.ops [⟨(some 8), none, .move (.t 5)⟩,
   ⟨(some 9), none, .bin .geq 32 (.t 8) (.c (.int .u64 9223372036854775808))⟩,
   ⟨(some 10), none, .move (.t 5)⟩,
   ⟨(some 11), none, .bin .quo 32 (.t 10) (.c (.int .u64 4503599627370496))⟩,
   ⟨(some 12), none, .bin .rem 32 (.t 11) (.c (.int .u64 2048))⟩,
   ⟨(some 13), none, .move (.t 5)⟩,
   ⟨(some 14), none, .bin .rem 32 (.t 13) (.c (.int .u64 4503599627370496))⟩,
   ⟨(some 2), none, .move (.t 9)⟩,
   ⟨(some 3), none, .move (.t 12)⟩,
   ⟨(some 4), none, .move (.t 14)⟩] (some [2, 3, 4]))
 .ret))), [.tmp 2, .tmp 3, .tmp 4]⟩

theorem is53 : FnIs Try.prog 53 x53 := ⟨Try.f53, _, Try.func53, by kernel_rfl, rfl, by kernel_rfl, by decide, by kernel_rfl⟩

/-- cloisonne/num.Key -/
def x54 : XDecl := .code ⟨1, 
 (.seq (.ops [⟨(some 2), none, .move (.c (.string .empty))⟩] (some [0]))
 (.seq (.ops [⟨(some 3), none, .alloc [(.int .u8 0), (.int .u8 0), (.int .u8 0), (.int .u8 0), (.int .u8 0), (.int .u8 0), (.int .u8 0), (.int .u8 0)]⟩] (some [0, 3]))
 (.seq (.ops [⟨(some 6), none, .move (.t 0)⟩,
   ⟨(some 7), none, .call (.c (.func (.func 67) #[] #[])) [(.t 6)]⟩,
   ⟨(some 4), none, .move (.t 7)⟩] (some [3, 4]))
 (.seq (.seq (.ops [⟨(some 8), none, .move (.c (.int .i64 0))⟩] (some [3, 4, 8]))
 (.block 0
  (.loop
   (.seq (.ops [⟨(some 9), none, .bin .lss 3 (.t 8) (.c (.int .i64 8))⟩] (some [3, 4, 8, 9]))
   (.seq (.cond (.t 9)
    .skip
    (.exit 0))
   (.seq (.block 1
    (.seq (.ops [⟨(some 10), none, .move (.t 8)⟩,
      ⟨(some 5), none, .move (.t 10)⟩] (some [3, 4, 5, 8]))
    (.ops [⟨(some 11), none, .move (.t 5)⟩,
      ⟨(some 12), none, .move (.t 4)⟩,
      ⟨(some 13), none, .move (.t 5)⟩,
      ⟨(some 14), none, .bin .sub 3 (.c (.int .i64 7)) (.t 13)⟩,
      ⟨(some 15), none, .bin .mul 3 (.c (.int .i64 8)) (.t 14)⟩,
      ⟨(some 16), none, .bin .shr 32 (.t 12) (.t 15)⟩,
      ⟨(some 17), none, .conv 32 5 (.t 16)⟩,
      ⟨(some 18), none, .indexAddrArr 8 1 (.t 3) (.t 11)⟩,
      ⟨none, none, .store 1 (.t 18) (.t 17)⟩] (some [3, 4, 8]))))
   (.ops [⟨(some 19), none, .bin .add 3 (.t 8) (.c (.int .i64 1))⟩,
     ⟨(some 8), none, .move (.t 19)⟩] (some [3, 4, 8]))))))))
 (.seq (.ops [⟨(some 20), none, .arrSlice 8 (.t 3)⟩,
   ⟨(some 21), none, .bstr (.t 20)⟩,
   ⟨(some 2), none, .move (.t 21)⟩] (some [2]))
 .ret))))), [.tmp 2]⟩

theorem is54 : FnIs Try.prog 54 x54 := ⟨Try.f54, _, Try.func54, by kernel_rfl, rfl, by kernel_rfl, by decide, by kernel_rfl⟩

/-- slices.insertionSortOrdered[string] -/
def x55 : XDecl := .code ⟨3, 
 (.seq (.ops [⟨(some 8), none, .move (.t 1)⟩,
   ⟨(some 9), none, .bin .add 3 (.t 8) (.c (.int .i64 1))⟩,
   ⟨(some 6), none, .move (.t 9)⟩] (some [0, 1, 2, 6]))
 (.block 0
  (.loop
   (.seq (.seq (.ops [⟨(some 10), none, .move (.t 6)⟩,
     ⟨(some 11), none, .move (.t 2)⟩,
     ⟨(some 12), none, .bin .lss 3 (.t 10) (.t 11)⟩] (some [0, 1, 2, 6, 12]))
   (.cond (.t 12)
    .skip
    (.exit 0)))
   (.seq (.block 1
    (.seq (.ops [⟨(some 15), none, .move (.t 6)⟩,
      ⟨(some 7), none, .move (.t 15)⟩] (some [0, 1, 2, 6, 7]))
    (.block 2
     (.loop
      (.seq (.seq (.opsd [(0, 0, ⟨(some 16), none, .move (.t 7)⟩),
        (1, 0, ⟨(some 17), none, .move (.t 1)⟩),
        (2, 3, ⟨(some 18), none, .bin .gtr 3 (.t 16) (.t 17)⟩),
        (3, 7, ⟨(some 19), none, .move (.t 18)⟩),
        (4, 15, ⟨(some 20), (some (19, true)), .move (.t 0)⟩),
        (5, 15, ⟨(some 21), (some (19, true)), .move (.t 7)⟩),
        (6, 63, ⟨(some 22), (some (19, true)), .indexAddr 1 (.t 20) (.t 21)⟩),
        (7, 127, ⟨(some 23), (some (19, true)), .load false 1 (.t 22)⟩),
        (8, 15, ⟨(some 24), (some (19, true)), .move (.t 0)⟩),
        (9, 15, ⟨(some 25), (some (19, true)), .move (.t 7)⟩),
        (10, 527, ⟨(some 26), (some (19, true)), .bin .sub 3 (.t 25) (.c (.int .i64 1))⟩),
        (11, 1807, ⟨(some 27), (some (19, true)), .indexAddr 1 (.t 24) (.t 26)⟩),
        (12, 3855, ⟨(some 28), (some (19, true)), .load false 1 (.t 27)⟩),
        (13, 8191, ⟨(some 29), (some (19, true)), .call (.c (.func (.func 61) #[] #[])) [(.t 23), (.t 28)]⟩),
        (14, 16383, ⟨(some 30), none, .pick (.t 19) (.t 29) (.c (.bool false))⟩)] (some [0, 1, 2, 6, 7, 30]))
      (.cond (.t 30)
       .skip
       (.exit 2)))
      (.seq (.block 3
       (.opsd [(0, 0, ⟨(some 33), none, .move (.t 0)⟩),
         (1, 0, ⟨(some 34), none, .move (.t 7)⟩),
         (2, 0, ⟨(some 35), none, .move (.t 0)⟩),
         (3, 0, ⟨(some 36), none, .move (.t 7)⟩),
         (4, 8, ⟨(some 37), none, .bin .sub 3 (.t 36) (.c (.int .i64 1))⟩),
         (5, 0, ⟨(some 38), none, .move (.t 0)⟩),
         (6, 0, ⟨(some 39), none, .move (.t 7)⟩),
         (7, 64, ⟨(some 40), none, .bin .sub 3 (.t 39) (.c (.int .i64 1))⟩),
         (8, 224, ⟨(some 41), none, .indexAddr 1 (.t 38) (.t 40)⟩),
         (9, 480, ⟨(some 42), none, .load false 1 (.t 41)⟩),
         (10, 0, ⟨(some 43), none, .move (.t 0)⟩),
         (11, 0, ⟨(some 44), none, .move (.t 7)⟩),
         (12, 3072, ⟨(some 45), none, .indexAddr 1 (.t 43) (.t 44)⟩),
         (13, 7168, ⟨(some 46), none, .load false 1 (.t 45)⟩),
         (14, 16355, ⟨(some 47), none, .indexAddr 1 (.t 33) (.t 34)⟩),
         (15, 32739, ⟨none, none, .store 1 (.t 47) (.t 42)⟩),
         (16, 65535, ⟨(some 48), none, .indexAddr 1 (.t 35) (.t 37)⟩),
         (17, 131071, ⟨none, none, .store 1 (.t 48) (.t 46)⟩)] (some [0, 1, 2, 6, 7])))
      (.ops [⟨(some 31), none, .move (.t 7)⟩,
        ⟨(some 32), none, .bin .sub 3 (.t 31) (.c (.int .i64 1))⟩,
        ⟨(some 7), none, .move (.t 32)⟩] (some [0, 1, 2, 6, 7]))))))))
   (.ops [⟨(some 13), none, .move (.t 6)⟩,
     ⟨(some 14), none, .bin .add 3 (.t 13) (.c (.int .i64 1))⟩,
     ⟨(some 6), none, .move (.t 14)⟩] (some [0, 1, 2, 6]))))))), []⟩

theorem is55 : FnIs Try.prog 55 x55 := ⟨Try.f55, _, Try.func55, by kernel_rfl, rfl, by kernel_rfl, by decide, by kernel_rfl⟩

/-- slices.heapSortOrdered[string] -/
def x56 : XDecl := .code ⟨3, 
 (.seq (.ops [⟨(some 11), none, .move (.t 1)⟩,
   ⟨(some 6), none, .move (.t 11)⟩] (some [0, 1, 2, 6]))
 (.seq (.ops [⟨(some 7), none, .move (.c (.int .i64 0))⟩] (some [0, 1, 2, 6, 7]))
 (.seq (.ops [⟨(some 12), none, .move (.t 2)⟩,
   ⟨(some 13), none, .move (.t 1)⟩,
   ⟨(some 14), none, .bin .sub 3 (.t 12) (.t 13)⟩,
   ⟨(some 8), none, .move (.t 14)⟩] (some [0, 6, 7, 8]))
 (.seq (.seq (.ops [⟨(some 15), none, .move (.t 8)⟩,
   ⟨(some 16), none, .bin .sub 3 (.t 15) (.c (.int .i64 1))⟩,
   ⟨(some 17), none, .bin .quo 3 (.t 16) (.c (.int .i64 2))⟩,
   ⟨(some 9), none, .move (.t 17)⟩] (some [0, 6, 7, 8, 9]))
 (.block 0
  (.loop
   (.seq (.seq (.ops [⟨(some 18), none, .move (.t 9)⟩,
     ⟨(some 19), none, .bin .geq 3 (.t 18) (.c (.int .i64 0))⟩] (some [0, 6, 7, 8, 9, 19]))
   (.cond (.t 19)
    .skip
    (.exit 0)))
   (.seq (.block 1
    (.ops [⟨(some 22), none, .move (.t 0)⟩,
      ⟨(some 23), none, .move (.t 9)⟩,
      ⟨(some 24), none, .move (.t 8)⟩,
      ⟨(some 25), none, .move (.t 6)⟩,
      ⟨(some 26), none, .call (.c (.func (.func 68) #[] #[])) [(.t 22), (.t 23), (.t 24), (.t 25)]⟩] (some [0, 6, 7, 8, 9])))
   (.ops [⟨(some 20), none, .move (.t 9)⟩,
     ⟨(some 21), none, .bin .sub 3 (.t 20) (.c (.int .i64 1))⟩,
     ⟨(some 9), none, .move (.t 21)⟩] (some [0, 6, 7, 8, 9])))))))
 (.seq (.ops [⟨(some 27), none, .move (.t 8)⟩,
   ⟨(some 28), none, .bin .sub 3 (.t 27) (.c (.int .i64 1))⟩,
   ⟨(some 10), none, .move (.t 28)⟩] (some [0, 6, 7, 10]))
 (.block 2
  (.loop
   (.seq (.seq (.ops [⟨(some 29), none, .move (.t 10)⟩,
     ⟨(some 30), none, .bin .geq 3 (.t 29) (.c (.int .i64 0))⟩] (some [0, 6, 7, 10, 30]))
   (.cond (.t 30)
    .skip
    (.exit 2)))
   (.seq (.block 3
    (.seq (.opsd [(0, 0, ⟨(some 33), none, .move (.t 0)⟩),
      (1, 0, ⟨(some 34), none, .move (.t 6)⟩),
      (2, 0, ⟨(some 35), none, .move (.t 0)⟩),
      (3, 0, ⟨(some 36), none, .move (.t 6)⟩),
      (4, 0, ⟨(some 37), none, .move (.t 10)⟩),
      (5, 24, ⟨(some 38), none, .bin .add 3 (.t 36) (.t 37)⟩),
      (6, 0, ⟨(some 39), none, .move (.t 0)⟩),
      (7, 0, ⟨(some 40), none, .move (.t 6)⟩),
      (8, 0, ⟨(some 41), none, .move (.t 10)⟩),
      (9, 384, ⟨(some 42), none, .bin .add 3 (.t 40) (.t 41)⟩),
      (10, 960, ⟨(some 43), none, .indexAddr 1 (.t 39) (.t 42)⟩),
      (11, 1984, ⟨(some 44), none, .load false 1 (.t 43)⟩),
      (12, 0, ⟨(some 45), none, .move (.t 0)⟩),
      (13, 0, ⟨(some 46), none, .move (.t 6)⟩),
      (14, 12288, ⟨(some 47), none, .indexAddr 1 (.t 45) (.t 46)⟩),
      (15, 28672, ⟨(some 48), none, .load false 1 (.t 47)⟩),
      (16, 65475, ⟨(some 49), none, .indexAddr 1 (.t 33) (.t 34)⟩),
      (17, 131011, ⟨none, none, .store 1 (.t 49) (.t 44)⟩),
      (18, 262143, ⟨(some 50), none, .indexAddr 1 (.t 35) (.t 38)⟩),
      (19, 524287, ⟨none, none, .store 1 (.t 50) (.t 48)⟩)] (some [0, 6, 7, 10]))
    (.ops [⟨(some 51), none, .move (.t 0)⟩,
      ⟨(some 52), none, .move (.t 7)⟩,
      ⟨(some 53), none, .move (.t 10)⟩,
      ⟨(some 54), none, .move (.t 6)⟩,
      ⟨(some 55), none, .call (.c (.func (.func 68) #[] #[])) [(.t 51), (.t 52), (.t 53), (.t 54)]⟩] (some [0, 6, 7, 10]))))
   (.ops [⟨(some 31), none, .move (.t 10)⟩,
     ⟨(some 32), none, .bin .sub 3 (.t 31) (.c (.int .i64 1))⟩,
     ⟨(some 10), none, .move (.t 32)⟩] (some [0, 6, 7, 10]))))))))))), []⟩

theorem is56 : FnIs Try.prog 56 x56 := ⟨Try.f56, _, Try.func56, by kernel_rfl, rfl, by kernel_rfl, by decide, by kernel_rfl⟩

/-- slices.breakPatternsOrdered[string] -/
def x57 : XDecl := .code ⟨3, 
 (.seq (.ops [⟨(some 11), none, .move (.t 2)⟩,
   ⟨(some 12), none, .move (.t 1)⟩,
   ⟨(some 13), none, .bin .sub 3 (.t 11) (.t 12)⟩,
   ⟨(some 6), none, .move (.t 13)⟩] (some [0, 1, 6]))
 (.seq (.ops [⟨(some 14), none, .move (.t 6)⟩,
   ⟨(some 15), none, .bin .geq 3 (.t 14) (.c (.int .i64 8))⟩] (some [0, 1, 6, 15]))
 (.cond (.t 15)
  (.seq (.ops [⟨(some 16), none, .move (.t 6)⟩,
    ⟨(some 17), none, .conv 3 97 (.t 16)⟩,
    ⟨(some 7), none, .alloc [(.int .u64 0)]⟩,
    ⟨none, none, .store 1 (.t 7) (.t 17)⟩] (some [0, 1, 6, 7]))
  (.seq (.ops [⟨(some 18), none, .move (.t 6)⟩,
    ⟨(some 19), none, .call (.c (.func (.func 69) #[] #[])) [(.t 18)]⟩,
    ⟨(some 8), none, .move (.t 19)⟩] (some [0, 1, 6, 7, 8]))
  (.seq (.ops [⟨(some 20), none, .move (.t 1)⟩,
    ⟨(some 21), none, .move (.t 6)⟩,
    ⟨(some 22), none, .bin .quo 3 (.t 21) (.c (.int .i64 4))⟩,
    ⟨(some 23), none, .bin .mul 3 (.t 22) (.c (.int .i64 2))⟩,
    ⟨(some 24), none, .bin .add 3 (.t 20) (.t 23)⟩,
    ⟨(some 25), none, .bin .sub 3 (.t 24) (.c (.int .i64 1))⟩,
    ⟨(some 9), none, .move (.t 25)⟩] (some [0, 1, 6, 7, 8, 9]))
  (.block 0
   (.loop
    (.seq (.seq (.ops [⟨(some 26), none, .move (.t 9)⟩,
      ⟨(some 27), none, .move (.t 1)⟩,
      ⟨(some 28), none, .move (.t 6)⟩,
      ⟨(some 29), none, .bin .quo 3 (.t 28) (.c (.int .i64 4))⟩,
      ⟨(some 30), none, .bin .mul 3 (.t 29) (.c (.int .i64 2))⟩,
      ⟨(some 31), none, .bin .add 3 (.t 27) (.t 30)⟩,
      ⟨(some 32), none, .bin .add 3 (.t 31) (.c (.int .i64 1))⟩,
      ⟨(some 33), none, .bin .leq 3 (.t 26) (.t 32)⟩] (some [0, 1, 6, 7, 8, 9, 33]))
    (.cond (.t 33)
     .skip
     (.exit 0)))
    (.seq (.block 1
     (.seq (.ops [⟨(some 36), none, .call (.c (.func (.func 70) #[] #[])) [(.t 7)]⟩,
       ⟨(some 37), none, .move (.t 8)⟩,
       ⟨(some 38), none, .bin .sub 78 (.t 37) (.c (.int .u64 1))⟩,
       ⟨(some 39), none, .bin .and 78 (.t 36) (.t 38)⟩,
       ⟨(some 40), none, .conv 78 3 (.t 39)⟩,
       ⟨(some 10), none, .move (.t 40)⟩] (some [0, 1, 6, 7, 8, 9, 10]))
     (.seq (.seq (.ops [⟨(some 41), none, .move (.t 10)⟩,
       ⟨(some 42), none, .move (.t 6)⟩,
       ⟨(some 43), none, .bin .geq 3 (.t 41) (.t 42)⟩] (some [0, 1, 6, 7, 8, 9, 10, 43]))
     (.cond (.t 43)
      (.ops [⟨(some 44), none, .move (.t 10)⟩,
        ⟨(some 45), none, .move (.t 6)⟩,
        ⟨(some 46), none, .bin .sub 3 (.t 44) (.t 45)⟩,
        ⟨(some 10), none, .move (.t 46)⟩] (some [0, 1, 6, 7, 8, 9, 10]))
      .skip))
     (.opsd [(0, 0, ⟨(some 47), none, .move (.t 0)⟩),
       (1, 0, ⟨(some 48), none, .move (.t 9)⟩),
       (2, 0, ⟨(some 49), none, .move (.t 0)⟩),
       (3, 0, ⟨(some 50), none, .move (.t 1)⟩),
       (4, 0, ⟨(some 51), none, .move (.t 10)⟩),
       (5, 24, ⟨(some 52), none, .bin .add 3 (.t 50) (.t 51)⟩),
       (6, 0, ⟨(some 53), none, .move (.t 0)⟩),
       (7, 0, ⟨(some 54), none, .move (.t 1)⟩),
       (8, 0, ⟨(some 55), none, .move (.t 10)⟩),
       (9, 384, ⟨(some 56), none, .bin .add 3 (.t 54) (.t 55)⟩),
       (10, 960, ⟨(some 57), none, .indexAddr 1 (.t 53) (.t 56)⟩),
       (11, 1984, ⟨(some 58), none, .load false 1 (.t 57)⟩),
       (12, 0, ⟨(some 59), none, .move (.t 0)⟩),
       (13, 0, ⟨(some 60), none, .move (.t 9)⟩),
       (14, 12288, ⟨(some 61), none, .indexAddr 1 (.t 59) (.t 60)⟩),
       (15, 28672, ⟨(some 62), none, .load false 1 (.t 61)⟩),
       (16, 65475, ⟨(some 63), none, .indexAddr 1 (.t 47) (.t 48)⟩),
       (17, 131011, ⟨none, none, .store 1 (.t 63) (.t 58)⟩),
       (18, 262143, ⟨(some 64), none, .indexAddr 1 (.t 49) (.t 52)⟩),
       (19, 524287, ⟨none, none, .store 1 (.t 64) (.t 62)⟩)] (some [0, 1, 6, 7, 8, 9])))))
    (.ops [⟨(some 34), none, .move (.t 9)⟩,
      ⟨(some 35), none, .bin .add 3 (.t 34) (.c (.int .i64 1))⟩,
      ⟨(some 9), none, .move (.t 35)⟩] (some [0, 1, 6, 7, 8, 9])))))))))
  .skip))), []⟩

theorem is57 : FnIs Try.prog 57 x57 := ⟨Try.f57, _, Try.func57, by kernel_rfl, rfl, by kernel_rfl, by decide, by kernel_rfl⟩

/-- slices.choosePivotOrdered[string] -/
def x58 : XDecl := .code ⟨3, 
 (.seq (.ops [⟨(some 6), none, .move (.c (.int .i64 0))⟩,
   ⟨(some 7), none, .move (.c (.int .i64 0))⟩] (some [0, 1, 2]))
 (.seq (.ops [⟨(some 13), none, .move (.t 2)⟩,
   ⟨(some 14), none, .move (.t 1)⟩,
   ⟨(some 15), none, .bin .sub 3 (.t 13) (.t 14)⟩,
   ⟨(some 8), none, .move (.t 15)⟩] (some [0, 1, 8]))
 (.seq (.ops [⟨(some 9), none, .alloc [(.int .i64 0)]⟩] (some [0, 1, 8, 9]))
 (.seq (.ops [⟨(some 16), none, .move (.t 1)⟩,
   ⟨(some 17), none, .move (.t 8)⟩,
   ⟨(some 18), none, .bin .quo 3 (.t 17) (.c (.int .i64 4))⟩,
   ⟨(some 19), none, .bin .mul 3 (.t 18) (.c (.int .i64 1))⟩,
   ⟨(some 20), none, .bin .add 3 (.t 16) (.t 19)⟩,
   ⟨(some 10), none, .move (.t 20)⟩] (some [0, 1, 8, 9, 10]))
 (.seq (.ops [⟨(some 21), none, .move (.t 1)⟩,
   ⟨(some 22), none, .move (.t 8)⟩,
   ⟨(some 23), none, .bin .quo 3 (.t 22) (.c (.int .i64 4))⟩,
   ⟨(some 24), none, .bin .mul 3 (.t 23) (.c (.int .i64 2))⟩,
   ⟨(some 25), none, .bin .add 3 (.t 21) (.t 24)⟩,
   ⟨(some 11), none, .move (.t 25)⟩] (some [0, 1, 8, 9, 10, 11]))
 (.seq (.ops [⟨(some 26), none, .move (.t 1)⟩,
   ⟨(some 27), none, .move (.t 8)⟩,
   ⟨(some 28), none, .bin .quo 3 (.t 27) (.c (.int .i64 4))⟩,
   ⟨(some 29), none, .bin .mul 3 (.t 28) (.c (.int .i64 3))⟩,
   ⟨(some 30), none, .bin .add 3 (.t 26) (.t 29)⟩,
   ⟨(some 12), none, .move (.t 30)⟩] (some [0, 8, 9, 10, 11, 12]))
 (.seq (.seq (.ops [⟨(some 31), none, .move (.t 8)⟩,
   ⟨(some 32), none, .bin .geq 3 (.t 31) (.c (.int .i64 8))⟩] (some [0, 8, 9, 10, 11, 12, 32]))
 (.cond (.t 32)
  (.seq (.seq (.ops [⟨(some 33), none, .move (.t 8)⟩,
    ⟨(some 34), none, .bin .geq 3 (.t 33) (.c (.int .i64 50))⟩] (some [0, 9, 10, 11, 12, 34]))
  (.cond (.t 34)
   (.seq (.ops [⟨(some 35), none, .move (.t 0)⟩,
     ⟨(some 36), none, .move (.t 10)⟩,
     ⟨(some 37), none, .call (.c (.func (.func 71) #[] #[])) [(.t 35), (.t 36), (.t 9)]⟩,
     ⟨(some 10), none, .move (.t 37)⟩] (some [0, 9, 10, 11, 12]))
   (.seq (.ops [⟨(some 38), none, .move (.t 0)⟩,
     ⟨(some 39), none, .move (.t 11)⟩,
     ⟨(some 40), none, .call (.c (.func (.func 71) #[] #[])) [(.t 38), (.t 39), (.t 9)]⟩,
     ⟨(some 11), none, .move (.t 40)⟩] (some [0, 9, 10, 11, 12]))
   (.ops [⟨(some 41), none, .move (.t 0)⟩,
     ⟨(some 42), none, .move (.t 12)⟩,
     ⟨(some 43), none, .call (.c (.func (.func 71) #[] #[])) [(.t 41), (.t 42), (.t 9)]⟩,
     ⟨(some 12), none, .move (.t 43)⟩] (some [0, 9, 10, 11, 12]))))
   .skip))
  (.ops [⟨(some 44), none, .move (.t 0)⟩,
    ⟨(some 45), none, .move (.t 10)⟩,
    ⟨(some 46), none, .move (.t 11)⟩,
    ⟨(some 47), none, .move (.t 12)⟩,
    ⟨(some 48), none, .call (.c (.func (.func 72) #[] #[])) [(.t 44), (.t 45), (.t 46), (.t 47), (.t 9)]⟩,
    ⟨(some 11), none, .move (.t 48)⟩] (some [9, 11])))
  .skip))
 (.seq (.ops [⟨(some 49), none, .load false 1 (.t 9)⟩] (some [11, 49]))
 (.block 0
  (.seq (.ops [⟨(some 52), none, .bin .eql 3 (.t 49) (.c (.int .i64 0))⟩,
    ⟨(some 51), none, .move (.t 52)⟩] (some [11, 49, 51]))
  (.cond (.t 51)
   (.seq (.ops [⟨(some 53), none, .move (.t 11)⟩,
     ⟨(some 6), none, .move (.t 53)⟩,
     ⟨(some 7), none, .move (.c (.int .i64 1))⟩] (some [6, 7]))
   .ret)
   (.seq (.ops [⟨(some 55), none, .bin .eql 3 (.t 49) (.c (.int .i64 12))⟩,
     ⟨(some 54), none, .move (.t 55)⟩] (some [11, 54]))
   (.cond (.t 54)
    (.seq (.ops [⟨(some 56), none, .move (.t 11)⟩,
      ⟨(some 6), none, .move (.t 56)⟩,
      ⟨(some 7), none, .move (.c (.int .i64 2))⟩] (some [6, 7]))
    .ret)
    (.seq (.ops [⟨(some 50), none, .move (.t 11)⟩,
      ⟨(some 6), none, .move (.t 50)⟩,
      ⟨(some 7), none, .move (.c (.int .i64 0))⟩] (some [6, 7]))
    .ret)))))))))))))), [.tmp 6, .tmp 7]⟩

theorem is58 : FnIs Try.prog 58 x58 := ⟨Try.f58, _, Try.func58, by kernel_rfl, rfl, by kernel_rfl, by decide, by kernel_rfl⟩

/-- slices.reverseRangeOrdered[string] -/
def x59 : XDecl := .code ⟨3, 
 (.seq (.ops [⟨(some 8), none, .move (.t 1)⟩,
   ⟨(some 6), none, .move (.t 8)⟩] (some [0, 2, 6]))
 (.seq (.ops [⟨(some 9), none, .move (.t 2)⟩,
   ⟨(some 10), none, .bin .sub 3 (.t 9) (.c (.int .i64 1))⟩,
   ⟨(some 7), none, .move (.t 10)⟩] (some [0, 6, 7]))
 (.block 0
  (.loop
   (.seq (.seq (.ops [⟨(some 11), none, .move (.t 6)⟩,
     ⟨(some 12), none, .move (.t 7)⟩,
     ⟨(some 13), none, .bin .lss 3 (.t 11) (.t 12)⟩] (some [0, 6, 7, 13]))
   (.cond (.t 13)
    .skip
    (.exit 0)))
   (.block 1
    (.seq (.opsd [(0, 0, ⟨(some 14), none, .move (.t 0)⟩),
      (1, 0, ⟨(some 15), none, .move (.t 6)⟩),
      (2, 0, ⟨(some 16), none, .move (.t 0)⟩),
      (3, 0, ⟨(some 17), none, .move (.t 7)⟩),
      (4, 0, ⟨(some 18), none, .move (.t 0)⟩),
      (5, 0, ⟨(some 19), none, .move (.t 7)⟩),
      (6, 48, ⟨(some 20), none, .indexAddr 1 (.t 18) (.t 19)⟩),
      (7, 112, ⟨(some 21), none, .load false 1 (.t 20)⟩),
      (8, 0, ⟨(some 22), none, .move (.t 0)⟩),
      (9, 0, ⟨(some 23), none, .move (.t 6)⟩),
      (10, 768, ⟨(some 24), none, .indexAddr 1 (.t 22) (.t 23)⟩),
      (11, 1792, ⟨(some 25), none, .load false 1 (.t 24)⟩),
      (12, 4083, ⟨(some 26), none, .indexAddr 1 (.t 14) (.t 15)⟩),
      (13, 8179, ⟨none, none, .store 1 (.t 26) (.t 21)⟩),
      (14, 16383, ⟨(some 27), none, .indexAddr 1 (.t 16) (.t 17)⟩),
      (15, 32767, ⟨none, none, .store 1 (.t 27) (.t 25)⟩)] (some [0, 6, 7]))
    (.seq (.ops [⟨(some 28), none, .move (.t 6)⟩,
      ⟨(some 29), none, .bin .add 3 (.t 28) (.c (.int .i64 1))⟩,
      ⟨(some 6), none, .move (.t 29)⟩] (some [0, 6, 7]))
    (.ops [⟨(some 30), none, .move (.t 7)⟩,
      ⟨(some 31), none, .bin .sub 3 (.t 30) (.c (.int .i64 1))⟩,
      ⟨(some 7), none, .move (.t 31)⟩] (some [0, 6, 7])))))))))), []⟩

theorem is59 : FnIs Try.prog 59 x59 := ⟨Try.f59, _, Try.func59, by kernel_rfl, rfl, by kernel_rfl, by decide, by kernel_rfl⟩

/-- slices.partialInsertionSortOrdered[string] -/
def x60 : XDecl := .code ⟨3, 
 (.seq (.ops [⟨(some 6), none, .move (.c (.bool false))⟩] (some [0, 1, 2]))
 (.seq (.ops [⟨(some 11), none, .move (.t 1)⟩,
   ⟨(some 12), none, .bin .add 3 (.t 11) (.c (.int .i64 1))⟩,
   ⟨(some 7), none, .move (.t 12)⟩] (some [0, 1, 2, 7]))
 (.seq (.seq (.ops [⟨(some 8), none, .move (.c (.int .i64 0))⟩] (some [0, 1, 2, 7, 8]))
 (.block 0
  (.loop
   (.seq (.seq (.ops [⟨(some 13), none, .move (.t 8)⟩,
     ⟨(some 14), none, .bin .lss 3 (.t 13) (.c (.int .i64 5))⟩] (some [0, 1, 2, 7, 8, 14]))
   (.cond (.t 14)
    .skip
    (.exit 0)))
   (.seq (.block 1
    (.seq (.block 2
     (.loop
      (.seq (.seq (.opsd [(0, 0, ⟨(some 17), none, .move (.t 7)⟩),
        (1, 0, ⟨(some 18), none, .move (.t 2)⟩),
        (2, 3, ⟨(some 19), none, .bin .lss 3 (.t 17) (.t 18)⟩),
        (3, 7, ⟨(some 20), none, .move (.t 19)⟩),
        (4, 15, ⟨(some 21), (some (20, true)), .move (.t 0)⟩),
        (5, 15, ⟨(some 22), (some (20, true)), .move (.t 7)⟩),
        (6, 63, ⟨(some 23), (some (20, true)), .indexAddr 1 (.t 21) (.t 22)⟩),
        (7, 127, ⟨(some 24), (some (20, true)), .load false 1 (.t 23)⟩),
        (8, 15, ⟨(some 25), (some (20, true)), .move (.t 0)⟩),
        (9, 15, ⟨(some 26), (some (20, true)), .move (.t 7)⟩),
        (10, 527, ⟨(some 27), (some (20, true)), .bin .sub 3 (.t 26) (.c (.int .i64 1))⟩),
        (11, 1807, ⟨(some 28), (some (20, true)), .indexAddr 1 (.t 25) (.t 27)⟩),
        (12, 3855, ⟨(some 29), (some (20, true)), .load false 1 (.t 28)⟩),
        (13, 8191, ⟨(some 30), (some (20, true)), .call (.c (.func (.func 61) #[] #[])) [(.t 24), (.t 29)]⟩),
        (14, 16383, ⟨(some 31), (some (20, true)), .un .not (.t 30)⟩),
        (15, 32767, ⟨(some 32), none, .pick (.t 20) (.t 31) (.c (.bool false))⟩)] (some [0, 1, 2, 7, 8, 32]))
      (.cond (.t 32)
       .skip
       (.exit 2)))
      (.block 3
       (.ops [⟨(some 33), none, .move (.t 7)⟩,
         ⟨(some 34), none, .bin .add 3 (.t 33) (.c (.int .i64 1))⟩,
         ⟨(some 7), none, .move (.t 34)⟩] (some [0, 1, 2, 7, 8]))))))
    (.seq (.seq (.ops [⟨(some 35), none, .move (.t 7)⟩,
      ⟨(some 36), none, .move (.t 2)⟩,
      ⟨(some 37), none, .bin .eql 3 (.t 35) (.t 36)⟩] (some [0, 1, 2, 7, 8, 37]))
    (.cond (.t 37)
     (.seq (.ops [⟨(some 6), none, .move (.c (.bool true))⟩] (some [6]))
     .ret)
     .skip))
    (.seq (.seq (.ops [⟨(some 38), none, .move (.t 2)⟩,
      ⟨(some 39), none, .move (.t 1)⟩,
      ⟨(some 40), none, .bin .sub 3 (.t 38) (.t 39)⟩,
      ⟨(some 41), none, .bin .lss 3 (.t 40) (.c (.int .i64 50))⟩] (some [0, 1, 2, 7, 8, 41]))
    (.cond (.t 41)
     (.seq (.ops [⟨(some 6), none, .move (.c (.bool false))⟩] (some [6]))
     .ret)
     .skip))
    (.seq (.opsd [(0, 0, ⟨(some 42), none, .move (.t 0)⟩),
      (1, 0, ⟨(some 43), none, .move (.t 7)⟩),
      (2, 0, ⟨(some 44), none, .move (.t 0)⟩),
      (3, 0, ⟨(some 45), none, .move (.t 7)⟩),
      (4, 8, ⟨(some 46), none, .bin .sub 3 (.t 45) (.c (.int .i64 1))⟩),
      (5, 0, ⟨(some 47), none, .move (.t 0)⟩),
      (6, 0, ⟨(some 48), none, .move (.t 7)⟩),
      (7, 64, ⟨(some 49), none, .bin .sub 3 (.t 48) (.c (.int .i64 1))⟩),
      (8, 224, ⟨(some 50), none, .indexAddr 1 (.t 47) (.t 49)⟩),
      (9, 480, ⟨(some 51), none, .load false 1 (.t 50)⟩),
      (10, 0, ⟨(some 52), none, .move (.t 0)⟩),
      (11, 0, ⟨(some 53), none, .move (.t 7)⟩),
      (12, 3072, ⟨(some 54), none, .indexAddr 1 (.t 52) (.t 53)⟩),
      (13, 7168, ⟨(some 55), none, .load false 1 (.t 54)⟩),
      (14, 16355, ⟨(some 56), none, .indexAddr 1 (.t 42) (.t 43)⟩),
      (15, 32739, ⟨none, none, .store 1 (.t 56) (.t 51)⟩),
      (16, 65535, ⟨(some 57), none, .indexAddr 1 (.t 44) (.t 46)⟩),
      (17, 131071, ⟨none, none, .store 1 (.t 57) (.t 55)⟩)] (some [0, 1, 2, 7, 8]))
    (.seq (.seq (.ops [⟨(some 58), none, .move (.t 7)⟩,
      ⟨(some 59), none, .move (.t 1)⟩,
      ⟨(some 60), none, .bin .sub 3 (.t 58) (.t 59)⟩,
      ⟨(some 61), none, .bin .geq 3 (.t 60) (.c (.int .i64 2))⟩] (some [0, 1, 2, 7, 8, 61]))
    (.cond (.t 61)
     (.seq (.ops [⟨(some 62), none, .move (.t 7)⟩,
       ⟨(some 63), none, .bin .sub 3 (.t 62) (.c (.int .i64 1))⟩,
       ⟨(some 9), none, .move (.t 63)⟩] (some [0, 1, 2, 7, 8, 9]))
     (.block 4
      (.loop
       (.seq (.seq (.ops [⟨(some 64), none, .move (.t 9)⟩,
         ⟨(some 65), none, .bin .geq 3 (.t 64) (.c (.int .i64 1))⟩] (some [0, 1, 2, 7, 8, 9, 65]))
       (.cond (.t 65)
        .skip
        (.exit 4)))
       (.seq (.block 5
        (.seq (.seq (.opsd [(0, 0, ⟨(some 68), none, .move (.t 0)⟩),
          (1, 0, ⟨(some 69), none, .move (.t 9)⟩),
          (2, 3, ⟨(some 70), none, .indexAddr 1 (.t 68) (.t 69)⟩),
          (3, 7, ⟨(some 71), none, .load false 1 (.t 70)⟩),
          (4, 0, ⟨(some 72), none, .move (.t 0)⟩),
          (5, 0, ⟨(some 73), none, .move (.t 9)⟩),
          (6, 32, ⟨(some 74), none, .bin .sub 3 (.t 73) (.c (.int .i64 1))⟩),
          (7, 112, ⟨(some 75), none, .indexAddr 1 (.t 72) (.t 74)⟩),
          (8, 240, ⟨(some 76), none, .load false 1 (.t 75)⟩),
          (9, 511, ⟨(some 77), none, .call (.c (.func (.func 61) #[] #[])) [(.t 71), (.t 76)]⟩),
          (10, 1023, ⟨(some 78), none, .un .not (.t 77)⟩)] (some [0, 1, 2, 7, 8, 9, 78]))
        (.cond (.t 78)
         (.exit 4)
         .skip))
        (.opsd [(0, 0, ⟨(some 79), none, .move (.t 0)⟩),
          (1, 0, ⟨(some 80), none, .move (.t 9)⟩),
          (2, 0, ⟨(some 81), none, .move (.t 0)⟩),
          (3, 0, ⟨(some 82), none, .move (.t 9)⟩),
          (4, 8, ⟨(some 83), none, .bin .sub 3 (.t 82) (.c (.int .i64 1))⟩),
          (5, 0, ⟨(some 84), none, .move (.t 0)⟩),
          (6, 0, ⟨(some 85), none, .move (.t 9)⟩),
          (7, 64, ⟨(some 86), none, .bin .sub 3 (.t 85) (.c (.int .i64 1))⟩),
          (8, 224, ⟨(some 87), none, .indexAddr 1 (.t 84) (.t 86)⟩),
          (9, 480, ⟨(some 88), none, .load false 1 (.t 87)⟩),
          (10, 0, ⟨(some 89), none, .move (.t 0)⟩),
          (11, 0, ⟨(some 90), none, .move (.t 9)⟩),
          (12, 3072, ⟨(some 91), none, .indexAddr 1 (.t 89) (.t 90)⟩),
          (13, 7168, ⟨(some 92), none, .load false 1 (.t 91)⟩),
          (14, 16355, ⟨(some 93), none, .indexAddr 1 (.t 79) (.t 80)⟩),
          (15, 32739, ⟨none, none, .store 1 (.t 93) (.t 88)⟩),
          (16, 65535, ⟨(some 94), none, .indexAddr 1 (.t 81) (.t 83)⟩),
          (17, 131071, ⟨none, none, .store 1 (.t 94) (.t 92)⟩)] (some [0, 1, 2, 7, 8, 9]))))
       (.ops [⟨(some 66), none, .move (.t 9)⟩,
         ⟨(some 67), none, .bin .sub 3 (.t 66) (.c (.int .i64 1))⟩,
         ⟨(some 9), none, .move (.t 67)⟩] (some [0, 1, 2, 7, 8, 9])))))))
     .skip))
    (.seq (.ops [⟨(some 95), none, .move (.t 2)⟩,
      ⟨(some 96), none, .move (.t 7)⟩,
      ⟨(some 97), none, .bin .sub 3 (.t 95) (.t 96)⟩,
      ⟨(some 98), none, .bin .geq 3 (.t 97) (.c (.int .i64 2))⟩] (some [0, 1, 2, 7, 8, 98]))
    (.cond (.t 98)
     (.seq (.ops [⟨(some 99), none, .move (.t 7)⟩,
       ⟨(some 100), none, .bin .add 3 (.t 99) (.c (.int .i64 1))⟩,
       ⟨(some 10), none, .move (.t 100)⟩] (some [0, 1, 2, 7, 8, 10]))
     (.block 6
      (.loop
       (.seq (.seq (.ops [⟨(some 101), none, .move (.t 10)⟩,
         ⟨(some 102), none, .move (.t 2)⟩,
         ⟨(some 103), none, .bin .lss 3 (.t 101) (.t 102)⟩] (some [0, 1, 2, 7, 8, 10, 103]))
       (.cond (.t 103)
        .skip
        (.exit 6)))
       (.seq (.block 7
        (.seq (.seq (.opsd [(0, 0, ⟨(some 106), none, .move (.t 0)⟩),
          (1, 0, ⟨(some 107), none, .move (.t 10)⟩),
          (2, 3, ⟨(some 108), none, .indexAddr 1 (.t 106) (.t 107)⟩),
          (3, 7, ⟨(some 109), none, .load false 1 (.t 108)⟩),
          (4, 0, ⟨(some 110), none, .move (.t 0)⟩),
          (5, 0, ⟨(some 111), none, .move (.t 10)⟩),
          (6, 32, ⟨(some 112), none, .bin .sub 3 (.t 111) (.c (.int .i64 1))⟩),
          (7, 112, ⟨(some 113), none, .indexAddr 1 (.t 110) (.t 112)⟩),
          (8, 240, ⟨(some 114), none, .load false 1 (.t 113)⟩),
          (9, 511, ⟨(some 115), none, .call (.c (.func (.func 61) #[] #[])) [(.t 109), (.t 114)]⟩),
          (10, 1023, ⟨(some 116), none, .un .not (.t 115)⟩)] (some [0, 1, 2, 7, 8, 10, 116]))
        (.cond (.t 116)
         (.exit 6)
         .skip))
        (.opsd [(0, 0, ⟨(some 117), none, .move (.t 0)⟩),
          (1, 0, ⟨(some 118), none, .move (.t 10)⟩),
          (2, 0, ⟨(some 119), none, .move (.t 0)⟩),
          (3, 0, ⟨(some 120), none, .move (.t 10)⟩),
          (4, 8, ⟨(some 121), none, .bin .sub 3 (.t 120) (.c (.int .i64 1))⟩),
          (5, 0, ⟨(some 122), none, .move (.t 0)⟩),
          (6, 0, ⟨(some 123), none, .move (.t 10)⟩),
          (7, 64, ⟨(some 124), none, .bin .sub 3 (.t 123) (.c (.int .i64 1))⟩),
          (8, 224, ⟨(some 125), none, .indexAddr 1 (.t 122) (.t 124)⟩),
          (9, 480, ⟨(some 126), none, .load false 1 (.t 125)⟩),
          (10, 0, ⟨(some 127), none, .move (.t 0)⟩),
          (11, 0, ⟨(some 128), none, .move (.t 10)⟩),
          (12, 3072, ⟨(some 129), none, .indexAddr 1 (.t 127) (.t 128)⟩),
          (13, 7168, ⟨(some 130), none, .load false 1 (.t 129)⟩),
          (14, 16355, ⟨(some 131), none, .indexAddr 1 (.t 117) (.t 118)⟩),
          (15, 32739, ⟨none, none, .store 1 (.t 131) (.t 126)⟩),
          (16, 65535, ⟨(some 132), none, .indexAddr 1 (.t 119) (.t 121)⟩),
          (17, 131071, ⟨none, none, .store 1 (.t 132) (.t 130)⟩)] (some [0, 1, 2, 7, 8, 10]))))
       (.ops [⟨(some 104), none, .move (.t 10)⟩,
         ⟨(some 105), none, .bin .add 3 (.t 104) (.c (.int .i64 1))⟩,
         ⟨(some 10), none, .move (.t 105)⟩] (some [0, 1, 2, 7, 8, 10])))))))
     .skip))))))))
   (.ops [⟨(some 15), none, .move (.t 8)⟩,
     ⟨(some 16), none, .bin .add 3 (.t 15) (.c (.int .i64 1))⟩,
     ⟨(some 8), none, .move (.t 16)⟩] (some [0, 1, 2, 7, 8])))))))
 (.seq (.ops [⟨(some 6), none, .move (.c (.bool false))⟩] (some [6]))
 .ret)))), [.tmp 6]⟩

theorem is60 : FnIs Try.prog 60 x60 := ⟨Try.f60, _, Try.func60, by kernel_rfl, rfl, by kernel_rfl, by decide, by kernel_rfl⟩

/-- cmp.Less[string] -/
def x61 : XDecl := .code ⟨2, 
 (.seq (.ops [⟨(some 4), none, .move (.c (.bool false))⟩] (some [0, 1]))
 (.seq (.ops [⟨(some 5), none, .move (.t 0)⟩,
   ⟨(some 6), none, .call (.c (.func (.func 73) #[] #[])) [(.t 5)]⟩,
   ⟨(some 7), none, .move (.t 6)⟩,
   ⟨(some 8), (some (7, true)), .move (.t 1)⟩,
   ⟨(some 9), (some (7, true)), .call (.c (.func (.func 73) #[] #[])) [(.t 8)]⟩,
   ⟨(some 10), (some (7, true)), .un .not (.t 9)⟩,
   ⟨(some 11), none, .pick (.t 7) (.t 10) (.c (.bool false))⟩,
   ⟨(some 12), none, .move (.t 11)⟩,
   ⟨(some 13), (some (12, false)), .move (.t 0)⟩,
   ⟨(some 14), (some (12, false)), .move (.t 1)⟩,
   ⟨(some 15), (some (12, false)), .bin .lss 9 (.t 13) (.t 14)⟩,
   ⟨(some 16), none, .pick (.t 12) (.c (.bool true)) (.t 15)⟩,
   ⟨(some 4), none, .move (.t 16)⟩] (some [4]))
 .ret)), [.tmp 4]⟩

theorem is61 : FnIs Try.prog 61 x61 := ⟨Try.f61, _, Try.func61, by kernel_rfl, rfl, by kernel_rfl, by decide, by kernel_rfl⟩

/-- slices.partitionEqualOrdered[string] -/
def x62 : XDecl := .code ⟨4, 
 (.seq (.ops [⟨(some 8), none, .move (.c (.int .i64 0))⟩] (some [0, 1, 2, 3]))
 (.seq (.opsd [(0, 0, ⟨(some 11), none, .move (.t 0)⟩),
   (1, 0, ⟨(some 12), none, .move (.t 1)⟩),
   (2, 0, ⟨(some 13), none, .move (.t 0)⟩),
   (3, 0, ⟨(some 14), none, .move (.t 3)⟩),
   (4, 0, ⟨(some 15), none, .move (.t 0)⟩),
   (5, 0, ⟨(some 16), none, .move (.t 3)⟩),
   (6, 48, ⟨(some 17), none, .indexAddr 1 (.t 15) (.t 16)⟩),
   (7, 112, ⟨(some 18), none, .load false 1 (.t 17)⟩),
   (8, 0, ⟨(some 19), none, .move (.t 0)⟩),
   (9, 0, ⟨(some 20), none, .move (.t 1)⟩),
   (10, 768, ⟨(some 21), none, .indexAddr 1 (.t 19) (.t 20)⟩),
   (11, 1792, ⟨(some 22), none, .load false 1 (.t 21)⟩),
   (12, 4083, ⟨(some 23), none, .indexAddr 1 (.t 11) (.t 12)⟩),
   (13, 8179, ⟨none, none, .store 1 (.t 23) (.t 18)⟩),
   (14, 16383, ⟨(some 24), none, .indexAddr 1 (.t 13) (.t 14)⟩),
   (15, 32767, ⟨none, none, .store 1 (.t 24) (.t 22)⟩)] (some [0, 1, 2]))
 (.seq (.ops [⟨(some 25), none, .move (.t 1)⟩,
   ⟨(some 26), none, .bin .add 3 (.t 25) (.c (.int .i64 1))⟩,
   ⟨(some 27), none, .move (.t 2)⟩,
   ⟨(some 28), none, .bin .sub 3 (.t 27) (.c (.int .i64 1))⟩,
   ⟨(some 9), none, .move (.t 26)⟩,
   ⟨(some 10), none, .move (.t 28)⟩] (some [0, 1, 9, 10]))
 (.seq (.block 0
  (.loop
   (.block 1
    (.seq (.block 2
     (.loop
      (.seq (.seq (.opsd [(0, 0, ⟨(some 29), none, .move (.t 9)⟩),
        (1, 0, ⟨(some 30), none, .move (.t 10)⟩),
        (2, 3, ⟨(some 31), none, .bin .leq 3 (.t 29) (.t 30)⟩),
        (3, 7, ⟨(some 32), none, .move (.t 31)⟩),
        (4, 15, ⟨(some 33), (some (32, true)), .move (.t 0)⟩),
        (5, 15, ⟨(some 34), (some (32, true)), .move (.t 1)⟩),
        (6, 63, ⟨(some 35), (some (32, true)), .indexAddr 1 (.t 33) (.t 34)⟩),
        (7, 127, ⟨(some 36), (some (32, true)), .load false 1 (.t 35)⟩),
        (8, 15, ⟨(some 37), (some (32, true)), .move (.t 0)⟩),
        (9, 15, ⟨(some 38), (some (32, true)), .move (.t 9)⟩),
        (10, 783, ⟨(some 39), (some (32, true)), .indexAddr 1 (.t 37) (.t 38)⟩),
        (11, 1807, ⟨(some 40), (some (32, true)), .load false 1 (.t 39)⟩),
        (12, 4095, ⟨(some 41), (some (32, true)), .call (.c (.func (.func 61) #[] #[])) [(.t 36), (.t 40)]⟩),
        (13, 8191, ⟨(some 42), (some (32, true)), .un .not (.t 41)⟩),
        (14, 16383, ⟨(some 43), none, .pick (.t 32) (.t 42) (.c (.bool false))⟩)] (some [0, 1, 9, 10, 43]))
      (.cond (.t 43)
       .skip
       (.exit 2)))
      (.block 3
       (.ops [⟨(some 44), none, .move (.t 9)⟩,
         ⟨(some 45), none, .bin .add 3 (.t 44) (.c (.int .i64 1))⟩,
         ⟨(some 9), none, .move (.t 45)⟩] (some [0, 1, 9, 10]))))))
    (.seq (.block 4
     (.loop
      (.seq (.seq (.opsd [(0, 0, ⟨(some 46), none, .move (.t 9)⟩),
        (1, 0, ⟨(some 47), none, .move (.t 10)⟩),
        (2, 3, ⟨(some 48), none, .bin .leq 3 (.t 46) (.t 47)⟩),
        (3, 7, ⟨(some 49), none, .move (.t 48)⟩),
        (4, 15, ⟨(some 50), (some (49, true)), .move (.t 0)⟩),
        (5, 15, ⟨(some 51), (some (49, true)), .move (.t 1)⟩),
        (6, 63, ⟨(some 52), (some (49, true)), .indexAddr 1 (.t 50) (.t 51)⟩),
        (7, 127, ⟨(some 53), (some (49, true)), .load false 1 (.t 52)⟩),
        (8, 15, ⟨(some 54), (some (49, true)), .move (.t 0)⟩),
        (9, 15, ⟨(some 55), (some (49, true)), .move (.t 10)⟩),
        (10, 783, ⟨(some 56), (some (49, true)), .indexAddr 1 (.t 54) (.t 55)⟩),
        (11, 1807, ⟨(some 57), (some (49, true)), .load false 1 (.t 56)⟩),
        (12, 4095, ⟨(some 58), (some (49, true)), .call (.c (.func (.func 61) #[] #[])) [(.t 53), (.t 57)]⟩),
        (13, 8191, ⟨(some 59), none, .pick (.t 49) (.t 58) (.c (.bool false))⟩)] (some [0, 1, 9, 10, 59]))
      (.cond (.t 59)
       .skip
       (.exit 4)))
      (.block 5
       (.ops [⟨(some 60), none, .move (.t 10)⟩,
         ⟨(some 61), none, .bin .sub 3 (.t 60) (.c (.int .i64 1))⟩,
         ⟨(some 10), none, .move (.t 61)⟩] (some [0, 1, 9, 10]))))))
    (.seq (.seq (.ops [⟨(some 62), none, .move (.t 9)⟩,
      ⟨(some 63), none, .move (.t 10)⟩,
      ⟨(some 64), none, .bin .gtr 3 (.t 62) (.t 63)⟩] (some [0, 1, 9, 10, 64]))
    (.cond (.t 64)
     (.exit 0)
     .skip))
    (.seq (.opsd [(0, 0, ⟨(some 65), none, .move (.t 0)⟩),
      (1, 0, ⟨(some 66), none, .move (.t 9)⟩),
      (2, 0, ⟨(some 67), none, .move (.t 0)⟩),
      (3, 0, ⟨(some 68), none, .move (.t 10)⟩),
      (4, 0, ⟨(some 69), none, .move (.t 0)⟩),
      (5, 0, ⟨(some 70), none, .move (.t 10)⟩),
      (6, 48, ⟨(some 71), none, .indexAddr 1 (.t 69) (.t 70)⟩),
      (7, 112, ⟨(some 72), none, .load false 1 (.t 71)⟩),
      (8, 0, ⟨(some 73), none, .move (.t 0)⟩),
      (9, 0, ⟨(some 74), none, .move (.t 9)⟩),
      (10, 768, ⟨(some 75), none, .indexAddr 1 (.t 73) (.t 74)⟩),
      (11, 1792, ⟨(some 76), none, .load false 1 (.t 75)⟩),
      (12, 4083, ⟨(some 77), none, .indexAddr 1 (.t 65) (.t 66)⟩),
      (13, 8179, ⟨none, none, .store 1 (.t 77) (.t 72)⟩),
      (14, 16383, ⟨(some 78), none, .indexAddr 1 (.t 67) (.t 68)⟩),
      (15, 32767, ⟨none, none, .store 1 (.t 78) (.t 76)⟩)] (some [0, 1, 9, 10]))
    (.seq (.ops [⟨(some 79), none, .move (.t 9)⟩,
      ⟨(some 80), none, .bin .add 3 (.t 79) (.c (.int .i64 1))⟩,
      ⟨(some 9), none, .move (.t 80)⟩] (some [0, 1, 9, 10]))
    (.ops [⟨(some 81), none, .move (.t 10)⟩,
      ⟨(some 82), none, .bin .sub 3 (.t 81) (.c (.int .i64 1))⟩,
      ⟨(some 10), none, .move (.t 82)⟩] (some [0, 1, 9, 10]))))))))))
 (.seq (.ops [⟨(some 83), none, .move (.t 9)⟩,
   ⟨(some 8), none, .move (.t 83)⟩] (some [8]))
 .ret))))), [.tmp 8]⟩

theorem is62 : FnIs Try.prog 62 x62 := ⟨Try.f62, _, Try.func62, by kernel_rfl, rfl, by kernel_rfl, by decide, by kernel_rfl⟩

/-- slices.partitionOrdered[string] -/
def x63 : XDecl := .code ⟨4, 
 (.seq (.ops [⟨(some 8), none, .move (.c (.int .i64 0))⟩,
   ⟨(some 9), none, .move (.c (.bool false))⟩] (some [0, 1, 2, 3]))
 (.seq (.opsd [(0, 0, ⟨(some 12), none, .move (.t 0)⟩),
   (1, 0, ⟨(some 13), none, .move (.t 1)⟩),
   (2, 0, ⟨(some 14), none, .move (.t 0)⟩),
   (3, 0, ⟨(some 15), none, .move (.t 3)⟩),
   (4, 0, ⟨(some 16), none, .move (.t 0)⟩),
   (5, 0, ⟨(some 17), none, .move (.t 3)⟩),
   (6, 48, ⟨(some 18), none, .indexAddr 1 (.t 16) (.t 17)⟩),
   (7, 112, ⟨(some 19), none, .load false 1 (.t 18)⟩),
   (8, 0, ⟨(some 20), none, .move (.t 0)⟩),
   (9, 0, ⟨(some 21), none, .move (.t 1)⟩),
   (10, 768, ⟨(some 22), none, .indexAddr 1 (.t 20) (.t 21)⟩),
   (11, 1792, ⟨(some 23), none, .load false 1 (.t 22)⟩),
   (12, 4083, ⟨(some 24), none, .indexAddr 1 (.t 12) (.t 13)⟩),
   (13, 8179, ⟨none, none, .store 1 (.t 24) (.t 19)⟩),
   (14, 16383, ⟨(some 25), none, .indexAddr 1 (.t 14) (.t 15)⟩),
   (15, 32767, ⟨none, none, .store 1 (.t 25) (.t 23)⟩)] (some [0, 1, 2]))
 (.seq (.ops [⟨(some 26), none, .move (.t 1)⟩,
   ⟨(some 27), none, .bin .add 3 (.t 26) (.c (.int .i64 1))⟩,
   ⟨(some 28), none, .move (.t 2)⟩,
   ⟨(some 29), none, .bin .sub 3 (.t 28) (.c (.int .i64 1))⟩,
   ⟨(some 10), none, .move (.t 27)⟩,
   ⟨(some 11), none, .move (.t 29)⟩] (some [0, 1, 10, 11]))
 (.seq (.block 0
  (.loop
   (.seq (.seq (.opsd [(0, 0, ⟨(some 30), none, .move (.t 10)⟩),
     (1, 0, ⟨(some 31), none, .move (.t 11)⟩),
     (2, 3, ⟨(some 32), none, .bin .leq 3 (.t 30) (.t 31)⟩),
     (3, 7, ⟨(some 33), none, .move (.t 32)⟩),
     (4, 15, ⟨(some 34), (some (33, true)), .move (.t 0)⟩),
     (5, 15, ⟨(some 35), (some (33, true)), .move (.t 10)⟩),
     (6, 63, ⟨(some 36), (some (33, true)), .indexAddr 1 (.t 34) (.t 35)⟩),
     (7, 127, ⟨(some 37), (some (33, true)), .load false 1 (.t 36)⟩),
     (8, 15, ⟨(some 38), (some (33, true)), .move (.t 0)⟩),
     (9, 15, ⟨(some 39), (some (33, true)), .move (.t 1)⟩),
     (10, 783, ⟨(some 40), (some (33, true)), .indexAddr 1 (.t 38) (.t 39)⟩),
     (11, 1807, ⟨(some 41), (some (33, true)), .load false 1 (.t 40)⟩),
     (12, 4095, ⟨(some 42), (some (33, true)), .call (.c (.func (.func 61) #[] #[])) [(.t 37), (.t 41)]⟩),
     (13, 8191, ⟨(some 43), none, .pick (.t 33) (.t 42) (.c (.bool false))⟩)] (some [0, 1, 10, 11, 43]))
   (.cond (.t 43)
    .skip
    (.exit 0)))
   (.block 1
    (.ops [⟨(some 44), none, .move (.t 10)⟩,
      ⟨(some 45), none, .bin .add 3 (.t 44) (.c (.int .i64 1))⟩,
      ⟨(some 10), none, .move (.t 45)⟩] (some [0, 1, 10, 11]))))))
 (.seq (.block 2
  (.loop
   (.seq (.seq (.opsd [(0, 0, ⟨(some 46), none, .move (.t 10)⟩),
     (1, 0, ⟨(some 47), none, .move (.t 11)⟩),
     (2, 3, ⟨(some 48), none, .bin .leq 3 (.t 46) (.t 47)⟩),
     (3, 7, ⟨(some 49), none, .move (.t 48)⟩),
     (4, 15, ⟨(some 50), (some (49, true)), .move (.t 0)⟩),
     (5, 15, ⟨(some 51), (some (49, true)), .move (.t 11)⟩),
     (6, 63, ⟨(some 52), (some (49, true)), .indexAddr 1 (.t 50) (.t 51)⟩),
     (7, 127, ⟨(some 53), (some (49, true)), .load false 1 (.t 52)⟩),
     (8, 15, ⟨(some 54), (some (49, true)), .move (.t 0)⟩),
     (9, 15, ⟨(some 55), (some (49, true)), .move (.t 1)⟩),
     (10, 783, ⟨(some 56), (some (49, true)), .indexAddr 1 (.t 54) (.t 55)⟩),
     (11, 1807, ⟨(some 57), (some (49, true)), .load false 1 (.t 56)⟩),
     (12, 4095, ⟨(some 58), (some (49, true)), .call (.c (.func (.func 61) #[] #[])) [(.t 53), (.t 57)]⟩),
     (13, 8191, ⟨(some 59), (some (49, true)), .un .not (.t 58)⟩),
     (14, 16383, ⟨(some 60), none, .pick (.t 49) (.t 59) (.c (.bool false))⟩)] (some [0, 1, 10, 11, 60]))
   (.cond (.t 60)
    .skip
    (.exit 2)))
   (.block 3
    (.ops [⟨(some 61), none, .move (.t 11)⟩,
      ⟨(some 62), none, .bin .sub 3 (.t 61) (.c (.int .i64 1))⟩,
      ⟨(some 11), none, .move (.t 62)⟩] (some [0, 1, 10, 11]))))))
 (.seq (.seq (.ops [⟨(some 63), none, .move (.t 10)⟩,
   ⟨(some 64), none, .move (.t 11)⟩,
   ⟨(some 65), none, .bin .gtr 3 (.t 63) (.t 64)⟩] (some [0, 1, 10, 11, 65]))
 (.cond (.t 65)
  (.seq (.opsd [(0, 0, ⟨(some 66), none, .move (.t 0)⟩),
    (1, 0, ⟨(some 67), none, .move (.t 11)⟩),
    (2, 0, ⟨(some 68), none, .move (.t 0)⟩),
    (3, 0, ⟨(some 69), none, .move (.t 1)⟩),
    (4, 0, ⟨(some 70), none, .move (.t 0)⟩),
    (5, 0, ⟨(some 71), none, .move (.t 1)⟩),
    (6, 48, ⟨(some 72), none, .indexAddr 1 (.t 70) (.t 71)⟩),
    (7, 112, ⟨(some 73), none, .load false 1 (.t 72)⟩),
    (8, 0, ⟨(some 74), none, .move (.t 0)⟩),
    (9, 0, ⟨(some 75), none, .move (.t 11)⟩),
    (10, 768, ⟨(some 76), none, .indexAddr 1 (.t 74) (.t 75)⟩),
    (11, 1792, ⟨(some 77), none, .load false 1 (.t 76)⟩),
    (12, 4083, ⟨(some 78), none, .indexAddr 1 (.t 66) (.t 67)⟩),
    (13, 8179, ⟨none, none, .store 1 (.t 78) (.t 73)⟩),
    (14, 16383, ⟨(some 79), none, .indexAddr 1 (.t 68) (.t 69)⟩),
    (15, 32767, ⟨none, none, .store 1 (.t 79) (.t 77)⟩)] (some [11]))
  (.seq (.ops [⟨(some 80), none, .move (.t 11)⟩,
    ⟨(some 8), none, .move (.t 80)⟩,
    ⟨(some 9), none, .move (.c (.bool true))⟩] (some [8, 9]))
  .ret))
  .skip))
 (.seq (.opsd [(0, 0, ⟨(some 81), none, .move (.t 0)⟩),
   (1, 0, ⟨(some 82), none, .move (.t 10)⟩),
   (2, 0, ⟨(some 83), none, .move (.t 0)⟩),
   (3, 0, ⟨(some 84), none, .move (.t 11)⟩),
   (4, 0, ⟨(some 85), none, .move (.t 0)⟩),
   (5, 0, ⟨(some 86), none, .move (.t 11)⟩),
   (6, 48, ⟨(some 87), none, .indexAddr 1 (.t 85) (.t 86)⟩),
   (7, 112, ⟨(some 88), none, .load false 1 (.t 87)⟩),
   (8, 0, ⟨(some 89), none, .move (.t 0)⟩),
   (9, 0, ⟨(some 90), none, .move (.t 10)⟩),
   (10, 768, ⟨(some 91), none, .indexAddr 1 (.t 89) (.t 90)⟩),
   (11, 1792, ⟨(some 92), none, .load false 1 (.t 91)⟩),
   (12, 4083, ⟨(some 93), none, .indexAddr 1 (.t 81) (.t 82)⟩),
   (13, 8179, ⟨none, none, .store 1 (.t 93) (.t 88)⟩),
   (14, 16383, ⟨(some 94), none, .indexAddr 1 (.t 83) (.t 84)⟩),
   (15, 32767, ⟨none, none, .store 1 (.t 94) (.t 92)⟩)] (some [0, 1, 10, 11]))
 (.seq (.ops [⟨(some 95), none, .move (.t 10)⟩,
   ⟨(some 96), none, .bin .add 3 (.t 95) (.c (.int .i64 1))⟩,
   ⟨(some 10), none, .move (.t 96)⟩] (some [0, 1, 10, 11]))
 (.seq (.ops [⟨(some 97), none, .move (.t 11)⟩,
   ⟨(some 98), none, .bin .sub 3 (.t 97) (.c (.int .i64 1))⟩,
   ⟨(some 11), none, .move (.t 98)⟩] (some [0, 1, 10, 11]))
 (.seq (.block 4
  (.loop
   (.block 5
    (.seq (.block 6
     (.loop
      (.seq (.seq (.opsd [(0, 0, ⟨(some 99), none, .move (.t 10)⟩),
        (1, 0, ⟨(some 100), none, .move (.t 11)⟩),
        (2, 3, ⟨(some 101), none, .bin .leq 3 (.t 99) (.t 100)⟩),
        (3, 7, ⟨(some 102), none, .move (.t 101)⟩),
        (4, 15, ⟨(some 103), (some (102, true)), .move (.t 0)⟩),
        (5, 15, ⟨(some 104), (some (102, true)), .move (.t 10)⟩),
        (6, 63, ⟨(some 105), (some (102, true)), .indexAddr 1 (.t 103) (.t 104)⟩),
        (7, 127, ⟨(some 106), (some (102, true)), .load false 1 (.t 105)⟩),
        (8, 15, ⟨(some 107), (some (102, true)), .move (.t 0)⟩),
        (9, 15, ⟨(some 108), (some (102, true)), .move (.t 1)⟩),
        (10, 783, ⟨(some 109), (some (102, true)), .indexAddr 1 (.t 107) (.t 108)⟩),
        (11, 1807, ⟨(some 110), (some (102, true)), .load false 1 (.t 109)⟩),
        (12, 4095, ⟨(some 111), (some (102, true)), .call (.c (.func (.func 61) #[] #[])) [(.t 106), (.t 110)]⟩),
        (13, 8191, ⟨(some 112), none, .pick (.t 102) (.t 111) (.c (.bool false))⟩)] (some [0, 1, 10, 11, 112]))
      (.cond (.t 112)
       .skip
       (.exit 6)))
      (.block 7
       (.ops [⟨(some 113), none, .move (.t 10)⟩,
         ⟨(some 114), none, .bin .add 3 (.t 113) (.c (.int .i64 1))⟩,
         ⟨(some 10), none, .move (.t 114)⟩] (some [0, 1, 10, 11]))))))
    (.seq (.block 8
     (.loop
      (.seq (.seq (.opsd [(0, 0, ⟨(some 115), none, .move (.t 10)⟩),
        (1, 0, ⟨(some 116), none, .move (.t 11)⟩),
        (2, 3, ⟨(some 117), none, .bin .leq 3 (.t 115) (.t 116)⟩),
        (3, 7, ⟨(some 118), none, .move (.t 117)⟩),
        (4, 15, ⟨(some 119), (some (118, true)), .move (.t 0)⟩),
        (5, 15, ⟨(some 120), (some (118, true)), .move (.t 11)⟩),
        (6, 63, ⟨(some 121), (some (118, true)), .indexAddr 1 (.t 119) (.t 120)⟩),
        (7, 127, ⟨(some 122), (some (118, true)), .load false 1 (.t 121)⟩),
        (8, 15, ⟨(some 123), (some (118, true)), .move (.t 0)⟩),
        (9, 15, ⟨(some 124), (some (118, true)), .move (.t 1)⟩),
        (10, 783, ⟨(some 125), (some (118, true)), .indexAddr 1 (.t 123) (.t 124)⟩),
        (11, 1807, ⟨(some 126), (some (118, true)), .load false 1 (.t 125)⟩),
        (12, 4095, ⟨(some 127), (some (118, true)), .call (.c (.func (.func 61) #[] #[])) [(.t 122), (.t 126)]⟩),
        (13, 8191, ⟨(some 128), (some (118, true)), .un .not (.t 127)⟩),
        (14, 16383, ⟨(some 129), none, .pick (.t 118) (.t 128) (.c (.bool false))⟩)] (some [0, 1, 10, 11, 129]))
      (.cond (.t 129)
       .skip
       (.exit 8)))
      (.block 9
       (.ops [⟨(some 130), none, .move (.t 11)⟩,
         ⟨(some 131), none, .bin .sub 3 (.t 130) (.c (.int .i64 1))⟩,
         ⟨(some 11), none, .move (.t 131)⟩] (some [0, 1, 10, 11]))))))
    (.seq (.seq (.ops [⟨(some 132), none, .move (.t 10)⟩,
      ⟨(some 133), none, .move (.t 11)⟩,
      ⟨(some 134), none, .bin .gtr 3 (.t 132) (.t 133)⟩] (some [0, 1, 10, 11, 134]))
    (.cond (.t 134)
     (.exit 4)
     .skip))
    (.seq (.opsd [(0, 0, ⟨(some 135), none, .move (.t 0)⟩),
      (1, 0, ⟨(some 136), none, .move (.t 10)⟩),
      (2, 0, ⟨(some 137), none, .move (.t 0)⟩),
      (3, 0, ⟨(some 138), none, .move (.t 11)⟩),
      (4, 0, ⟨(some 139), none, .move (.t 0)⟩),
      (5, 0, ⟨(some 140), none, .move (.t 11)⟩),
      (6, 48, ⟨(some 141), none, .indexAddr 1 (.t 139) (.t 140)⟩),
      (7, 112, ⟨(some 142), none, .load false 1 (.t 141)⟩),
      (8, 0, ⟨(some 143), none, .move (.t 0)⟩),
      (9, 0, ⟨(some 144), none, .move (.t 10)⟩),
      (10, 768, ⟨(some 145), none, .indexAddr 1 (.t 143) (.t 144)⟩),
      (11, 1792, ⟨(some 146), none, .load false 1 (.t 145)⟩),
      (12, 4083, ⟨(some 147), none, .indexAddr 1 (.t 135) (.t 136)⟩),
      (13, 8179, ⟨none, none, .store 1 (.t 147) (.t 142)⟩),
      (14, 16383, ⟨(some 148), none, .indexAddr 1 (.t 137) (.t 138)⟩),
      (15, 32767, ⟨none, none, .store 1 (.t 148) (.t 146)⟩)] (some [0, 1, 10, 11]))
    (.seq (.ops [⟨(some 149), none, .move (.t 10)⟩,
      ⟨(some 150), none, .bin .add 3 (.t 149) (.c (.int .i64 1))⟩,
      ⟨(some 10), none, .move (.t 150)⟩] (some [0, 1, 10, 11]))
    (.ops [⟨(some 151), none, .move (.t 11)⟩,
      ⟨(some 152), none, .bin .sub 3 (.t 151) (.c (.int .i64 1))⟩,
      ⟨(some 11), none, .move (.t 152)⟩] (some [0, 1, 10, 11]))))))))))
 (.seq (.opsd [(0, 0, ⟨(some 153), none, .move (.t 0)⟩),
   (1, 0, ⟨(some 154), none, .move (.t 11)⟩),
   (2, 0, ⟨(some 155), none, .move (.t 0)⟩),
   (3, 0, ⟨(some 156), none, .move (.t 1)⟩),
   (4, 0, ⟨(some 157), none, .move (.t 0)⟩),
   (5, 0, ⟨(some 158), none, .move (.t 1)⟩),
   (6, 48, ⟨(some 159), none, .indexAddr 1 (.t 157) (.t 158)⟩),
   (7, 112, ⟨(some 160), none, .load false 1 (.t 159)⟩),
   (8, 0, ⟨(some 161), none, .move (.t 0)⟩),
   (9, 0, ⟨(some 162), none, .move (.t 11)⟩),
   (10, 768, ⟨(some 163), none, .indexAddr 1 (.t 161) (.t 162)⟩),
   (11, 1792, ⟨(some 164), none, .load false 1 (.t 163)⟩),
   (12, 4083, ⟨(some 165), none, .indexAddr 1 (.t 153) (.t 154)⟩),
   (13, 8179, ⟨none, none, .store 1 (.t 165) (.t 160)⟩),
   (14, 16383, ⟨(some 166), none, .indexAddr 1 (.t 155) (.t 156)⟩),
   (15, 32767, ⟨none, none, .store 1 (.t 166) (.t 164)⟩)] (some [11]))
 (.seq (.ops [⟨(some 167), none, .move (.t 11)⟩,
   ⟨(some 8), none, .move (.t 167)⟩,
   ⟨(some 9), none, .move (.c (.bool false))⟩] (some [8, 9]))
 .ret)))))))))))), [.tmp 8, .tmp 9]⟩

theorem is63 : FnIs Try.prog 63 x63 := ⟨Try.f63, _, Try.func63, by kernel_rfl, rfl, by kernel_rfl, by decide, by kernel_rfl⟩

/-- math/bits.Len32 -/
def x64 : XDecl := .code ⟨1, 
 (.seq (.ops [⟨(some 2), none, .move (.c (.int .i64 0))⟩] (some [0, 2]))
 (.seq (.seq (.ops [⟨(some 3), none, .move (.t 0)⟩,
   ⟨(some 4), none, .bin .geq 94 (.t 3) (.c (.int .u32 65536))⟩] (some [0, 2, 4]))
 (.cond (.t 4)
  (.seq (.ops [⟨(some 5), none, .move (.t 0)⟩,
    ⟨(some 6), none, .bin .shr 94 (.t 5) (.c (.int .u64 16))⟩,
    ⟨(some 0), none, .move (.t 6)⟩] (some [0]))
  (.ops [⟨(some 2), none, .move (.c (.int .i64 16))⟩] (some [0, 2])))
  .skip))
 (.seq (.seq (.ops [⟨(some 7), none, .move (.t 0)⟩,
   ⟨(some 8), none, .bin .geq 94 (.t 7) (.c (.int .u32 256))⟩] (some [0, 2, 8]))
 (.cond (.t 8)
  (.seq (.ops [⟨(some 9), none, .move (.t 0)⟩,
    ⟨(some 10), none, .bin .shr 94 (.t 9) (.c (.int .u64 8))⟩,
    ⟨(some 0), none, .move (.t 10)⟩] (some [0, 2]))
  (.ops [⟨(some 11), none, .move (.t 2)⟩,
    ⟨(some 12), none, .bin .add 3 (.t 11) (.c (.int .i64 8))⟩,
    ⟨(some 2), none, .move (.t 12)⟩] (some [0, 2])))
  .skip))
 (.seq (.ops [⟨(some 13), none, .move (.t 2)⟩,
   ⟨(some 14), none, .move (.t 0)⟩,
   ⟨(some 15), none, .conv 94 5 (.t 14)⟩,
   ⟨(some 16), none, .index 9 (.c (.string ⟨#[0, 1, 2, 2, 3, 3, 3, 3, 4, 4, 4, 4, 4, 4, 4, 4, 5, 5, 5, 5, 5, 5, 5, 5, 5, 5, 5, 5, 5, 5, 5, 5, 6, 6, 6, 6, 6, 6, 6, 6, 6, 6, 6, 6, 6, 6, 6, 6, 6, 6, 6, 6, 6, 6, 6, 6, 6, 6, 6, 6, 6, 6, 6, 6, 7, 7, 7, 7, 7, 7, 7, 7, 7, 7, 7, 7, 7, 7, 7, 7, 7, 7, 7, 7, 7, 7, 7, 7, 7, 7, 7, 7, 7, 7, 7, 7, 7, 7, 7, 7, 7, 7, 7, 7, 7, 7, 7, 7, 7, 7, 7, 7, 7, 7, 7, 7, 7, 7, 7, 7, 7, 7, 7, 7, 7, 7, 7, 7, 8, 8, 8, 8, 8, 8, 8, 8, 8, 8, 8, 8, 8, 8, 8, 8, 8, 8, 8, 8, 8, 8, 8, 8, 8, 8, 8, 8, 8, 8, 8, 8, 8, 8, 8, 8, 8, 8, 8, 8, 8, 8, 8, 8, 8, 8, 8, 8, 8, 8, 8, 8, 8, 8, 8, 8, 8, 8, 8, 8, 8, 8, 8, 8, 8, 8, 8, 8, 8, 8, 8, 8, 8, 8, 8, 8, 8, 8, 8, 8, 8, 8, 8, 8, 8, 8, 8, 8, 8, 8, 8, 8, 8, 8, 8, 8, 8, 8, 8, 8, 8, 8, 8, 8, 8, 8, 8, 8, 8, 8, 8, 8, 8, 8, 8, 8, 8, 8, 8, 8, 8, 8, 8, 8, 8, 8, 8, 8]⟩)) (.t 15)⟩,
   ⟨(some 17), none, .conv 5 3 (.t 16)⟩,
   ⟨(some 18), none, .bin .add 3 (.t 13) (.t 17)⟩,
   ⟨(some 2), none, .move (.t 18)⟩] (some [2]))
 .ret)))), [.tmp 2]⟩

theorem is64 : FnIs Try.prog 64 x64 := ⟨Try.f64, _, Try.func64, by kernel_rfl, rfl, by kernel_rfl, by decide, by kernel_rfl⟩

/-- math/bits.Len64 -/
def x65 : XDecl := .code ⟨1, 
 (.seq (.ops [⟨(some 2), none, .move (.c (.int .i64 0))⟩] (some [0, 2]))
 (.seq (.seq (.ops [⟨(some 3), none, .move (.t 0)⟩,
   ⟨(some 4), none, .bin .geq 32 (.t 3) (.c (.int .u64 4294967296))⟩] (some [0, 2, 4]))
 (.cond (.t 4)
  (.seq (.ops [⟨(some 5), none, .move (.t 0)⟩,
    ⟨(some 6), none, .bin .shr 32 (.t 5) (.c (.int .u64 32))⟩,
    ⟨(some 0), none, .move (.t 6)⟩] (some [0]))
  (.ops [⟨(some 2), none, .move (.c (.int .i64 32))⟩] (some [0, 2])))
  .skip))
 (.seq (.seq (.ops [⟨(some 7), none, .move (.t 0)⟩,
   ⟨(some 8), none, .bin .geq 32 (.t 7) (.c (.int .u64 65536))⟩] (some [0, 2, 8]))
 (.cond (.t 8)
  (.seq (.ops [⟨(some 9), none, .move (.t 0)⟩,
    ⟨(some 10), none, .bin .shr 32 (.t 9) (.c (.int .u64 16))⟩,
    ⟨(some 0), none, .move (.t 10)⟩] (some [0, 2]))
  (.ops [⟨(some 11), none, .move (.t 2)⟩,
    ⟨(some 12), none, .bin .add 3 (.t 11) (.c (.int .i64 16))⟩,
    ⟨(some 2), none, .move (.t 12)⟩] (some [0, 2])))
  .skip))
 (.seq (.seq (.ops [⟨(some 13), none, .move (.t 0)⟩,
   ⟨(some 14), none, .bin .geq 32 (.t 13) (.c (.int .u64 256))⟩] (some [0, 2, 14]))
 (.cond (.t 14)
  (.seq (.ops [⟨(some 15), none, .move (.t 0)⟩,
    ⟨(some 16), none, .bin .shr 32 (.t 15) (.c (.int .u64 8))⟩,
    ⟨(some 0), none, .move (.t 16)⟩] (some [0, 2]))
  (.ops [⟨(some 17), none, .move (.t 2)⟩,
    ⟨(some 18), none, .bin .add 3 (.t 17) (.c (.int .i64 8))⟩,
    ⟨(some 2), none, .move (.t 18)⟩] (some [0, 2])))
  .skip))
 (.seq (.ops [⟨(some 19), none, .move (.t 2)⟩,
   ⟨(some 20), none, .move (.t 0)⟩,
   ⟨(some 21), none, .conv 32 5 (.t 20)⟩,
   ⟨(some 22), none, .index 9 (.c (.string ⟨#[0, 1, 2, 2, 3, 3, 3, 3, 4, 4, 4, 4, 4, 4, 4, 4, 5, 5, 5, 5, 5, 5, 5, 5, 5, 5, 5, 5, 5, 5, 5, 5, 6, 6, 6, 6, 6, 6, 6, 6, 6, 6, 6, 6, 6, 6, 6, 6, 6, 6, 6, 6, 6, 6, 6, 6, 6, 6, 6, 6, 6, 6, 6, 6, 7, 7, 7, 7, 7, 7, 7, 7, 7, 7, 7, 7, 7, 7, 7, 7, 7, 7, 7, 7, 7, 7, 7, 7, 7, 7, 7, 7, 7, 7, 7, 7, 7, 7, 7, 7, 7, 7, 7, 7, 7, 7, 7, 7, 7, 7, 7, 7, 7, 7, 7, 7, 7, 7, 7, 7, 7, 7, 7, 7, 7, 7, 7, 7, 8, 8, 8, 8, 8, 8, 8, 8, 8, 8, 8, 8, 8, 8, 8, 8, 8, 8, 8, 8, 8, 8, 8, 8, 8, 8, 8, 8, 8, 8, 8, 8, 8, 8, 8, 8, 8, 8, 8, 8, 8, 8, 8, 8, 8, 8, 8, 8, 8, 8, 8, 8, 8, 8, 8, 8, 8, 8, 8, 8, 8, 8, 8, 8, 8, 8, 8, 8, 8, 8, 8, 8, 8, 8, 8, 8, 8, 8, 8, 8, 8, 8, 8, 8, 8, 8, 8, 8, 8, 8, 8, 8, 8, 8, 8, 8, 8, 8, 8, 8, 8, 8, 8, 8, 8, 8, 8, 8, 8, 8, 8, 8, 8, 8, 8, 8, 8, 8, 8, 8, 8, 8, 8, 8, 8, 8, 8, 8]⟩)) (.t 21)⟩,
   ⟨(some 23), none, .conv 5 3 (.t 22)⟩,
   ⟨(some 24), none, .bin .add 3 (.t 19) (.t 23)⟩,
   ⟨(some 2), none, .move (.t 24)⟩] (some [2]))
 .ret))))), [.tmp 2]⟩

theorem is65 : FnIs Try.prog 65 x65 := ⟨Try.f65, _, Try.func65, by kernel_rfl, rfl, by kernel_rfl, by decide, by kernel_rfl⟩

/-- internal/bytealg.CompareString -/
def x66 : XDecl := .code ⟨2, 
 (.seq (.ops [⟨(some 4), none, .move (.c (.int .i64 0))⟩] (some [0, 1]))
 (.seq (.ops [⟨(some 5), none, .move (.t 0)⟩,
   ⟨(some 6), none, .move (.t 1)⟩,
   ⟨(some 7), none, .call (.c (.func (.func 74) #[] #[])) [(.t 5), (.t 6)]⟩,
   ⟨(some 4), none, .move (.t 7)⟩] (some [4]))
 .ret)), [.tmp 4]⟩

theorem is66 : FnIs Try.prog 66 x66 := ⟨Try.f66, _, Try.func66, by kernel_rfl, rfl, by kernel_rfl, by decide, by kernel_rfl⟩

/-- cloisonne/num.Place -/
def x67 : XDecl := .code ⟨1, 
 (.seq (.ops [⟨(some 2), none, .move (.c (.int .u64 0))⟩] (some [0]))
 (.seq (.ops [⟨(some 4), none, .move (.t 0)⟩,
   ⟨(some 5), none, .call (.c (.func (.func 41) #[] #[])) [(.t 4)]⟩,
   ⟨(some 3), none, .move (.t 5)⟩] (some [3]))
 (.seq (.block 0
  (.seq (.ops [⟨(some 7), none, .move (.t 3)⟩,
    ⟨(some 8), none, .bin .eql 32 (.t 7) (.c (.int .u64 9221120237041090561))⟩,
    ⟨(some 6), none, .move (.t 8)⟩] (some [3, 6]))
  (.cond (.t 6)
   (.seq (.ops [⟨(some 2), none, .move (.c (.int .u64 18437736874454810626))⟩] (some [2]))
   .ret)
   (.seq (.ops [⟨(some 10), none, .move (.t 3)⟩,
     ⟨(some 11), none, .bin .and 32 (.t 10) (.c (.int .u64 9223372036854775808))⟩,
     ⟨(some 12), none, .bin .neq 32 (.t 11) (.c (.int .u64 0))⟩,
     ⟨(some 9), none, .move (.t 12)⟩] (some [3, 9]))
   (.cond (.t 9)
    (.seq (.ops [⟨(some 13), none, .move (.t 3)⟩,
      ⟨(some 14), none, .bin .andNot 32 (.t 13) (.c (.int .u64 9223372036854775808))⟩,
      ⟨(some 15), none, .bin .sub 32 (.c (.int .u64 9218868437227405312)) (.t 14)⟩,
      ⟨(some 2), none, .move (.t 15)⟩] (some [2]))
    .ret)
    .skip)))))
 (.seq (.ops [⟨(some 16), none, .move (.t 3)⟩,
   ⟨(some 17), none, .bin .add 32 (.c (.int .u64 9218868437227405313)) (.t 16)⟩,
   ⟨(some 2), none, .move (.t 17)⟩] (some [2]))
 .ret)))), [.tmp 2]⟩

theorem is67 : FnIs Try.prog 67 x67 := ⟨Try.f67, _, Try.func67, by kernel_rfl, rfl, by kernel_rfl, by decide, by kernel_rfl⟩

/-- slices.siftDownOrdered[string] -/
def x68 : XDecl := .code ⟨4, 
 (.seq (.ops [⟨(some 10), none, .move (.t 1)⟩,
   ⟨(some 8), none, .move (.t 10)⟩] (some [0, 2, 3, 8]))
 (.block 0
  (.loop
   (.block 1
    (.seq (.ops [⟨(some 11), none, .move (.t 8)⟩,
      ⟨(some 12), none, .bin .mul 3 (.c (.int .i64 2)) (.t 11)⟩,
      ⟨(some 13), none, .bin .add 3 (.t 12) (.c (.int .i64 1))⟩,
      ⟨(some 9), none, .move (.t 13)⟩] (some [0, 2, 3, 8, 9]))
    (.seq (.seq (.ops [⟨(some 14), none, .move (.t 9)⟩,
      ⟨(some 15), none, .move (.t 2)⟩,
      ⟨(some 16), none, .bin .geq 3 (.t 14) (.t 15)⟩] (some [0, 2, 3, 8, 9, 16]))
    (.cond (.t 16)
     (.exit 0)
     .skip))
    (.seq (.seq (.opsd [(0, 0, ⟨(some 17), none, .move (.t 9)⟩),
      (1, 1, ⟨(some 18), none, .bin .add 3 (.t 17) (.c (.int .i64 1))⟩),
      (2, 0, ⟨(some 19), none, .move (.t 2)⟩),
      (3, 7, ⟨(some 20), none, .bin .lss 3 (.t 18) (.t 19)⟩),
      (4, 15, ⟨(some 21), none, .move (.t 20)⟩),
      (5, 31, ⟨(some 22), (some (21, true)), .move (.t 0)⟩),
      (6, 31, ⟨(some 23), (some (21, true)), .move (.t 3)⟩),
      (7, 31, ⟨(some 24), (some (21, true)), .move (.t 9)⟩),
      (8, 223, ⟨(some 25), (some (21, true)), .bin .add 3 (.t 23) (.t 24)⟩),
      (9, 511, ⟨(some 26), (some (21, true)), .indexAddr 1 (.t 22) (.t 25)⟩),
      (10, 1023, ⟨(some 27), (some (21, true)), .load false 1 (.t 26)⟩),
      (11, 31, ⟨(some 28), (some (21, true)), .move (.t 0)⟩),
      (12, 31, ⟨(some 29), (some (21, true)), .move (.t 3)⟩),
      (13, 31, ⟨(some 30), (some (21, true)), .move (.t 9)⟩),
      (14, 12319, ⟨(some 31), (some (21, true)), .bin .add 3 (.t 29) (.t 30)⟩),
      (15, 28703, ⟨(some 32), (some (21, true)), .bin .add 3 (.t 31) (.c (.int .i64 1))⟩),
      (16, 63519, ⟨(some 33), (some (21, true)), .indexAddr 1 (.t 28) (.t 32)⟩),
      (17, 129055, ⟨(some 34), (some (21, true)), .load false 1 (.t 33)⟩),
      (18, 262143, ⟨(some 35), (some (21, true)), .call (.c (.func (.func 61) #[] #[])) [(.t 27), (.t 34)]⟩),
      (19, 524287, ⟨(some 36), none, .pick (.t 21) (.t 35) (.c (.bool false))⟩)] (some [0, 2, 3, 8, 9, 36]))
    (.cond (.t 36)
     (.ops [⟨(some 37), none, .move (.t 9)⟩,
       ⟨(some 38), none, .bin .add 3 (.t 37) (.c (.int .i64 1))⟩,
       ⟨(some 9), none, .move (.t 38)⟩] (some [0, 2, 3, 8, 9]))
     .skip))
    (.seq (.seq (.opsd [(0, 0, ⟨(some 39), none, .move (.t 0)⟩),
      (1, 0, ⟨(some 40), none, .move (.t 3)⟩),
      (2, 0, ⟨(some 41), none, .move (.t 8)⟩),
      (3, 6, ⟨(some 42), none, .bin .add 3 (.t 40) (.t 41)⟩),
      (4, 15, ⟨(some 43), none, .indexAddr 1 (.t 39) (.t 42)⟩),
      (5, 31, ⟨(some 44), none, .load false 1 (.t 43)⟩),
      (6, 0, ⟨(some 45), none, .move (.t 0)⟩),
      (7, 0, ⟨(some 46), none, .move (.t 3)⟩),
      (8, 0, ⟨(some 47), none, .move (.t 9)⟩),
      (9, 384, ⟨(some 48), none, .bin .add 3 (.t 46) (.t 47)⟩),
      (10, 960, ⟨(some 49), none, .indexAddr 1 (.t 45) (.t 48)⟩),
      (11, 1984, ⟨(some 50), none, .load false 1 (.t 49)⟩),
      (12, 4095, ⟨(some 51), none, .call (.c (.func (.func 61) #[] #[])) [(.t 44), (.t 50)]⟩),
      (13, 8191, ⟨(some 52), none, .un .not (.t 51)⟩)] (some [0, 2, 3, 8, 9, 52]))
    (.cond (.t 52)
     .ret
     .skip))
    (.seq (.opsd [(0, 0, ⟨(some 53), none, .move (.t 0)⟩),
      (1, 0, ⟨(some 54), none, .move (.t 3)⟩),
      (2, 0, ⟨(some 55), none, .move (.t 8)⟩),
      (3, 6, ⟨(some 56), none, .bin .add 3 (.t 54) (.t 55)⟩),
      (4, 0, ⟨(some 57), none, .move (.t 0)⟩),
      (5, 0, ⟨(some 58), none, .move (.t 3)⟩),
      (6, 0, ⟨(some 59), none, .move (.t 9)⟩),
      (7, 96, ⟨(some 60), none, .bin .add 3 (.t 58) (.t 59)⟩),
      (8, 0, ⟨(some 61), none, .move (.t 0)⟩),
      (9, 0, ⟨(some 62), none, .move (.t 3)⟩),
      (10, 0, ⟨(some 63), none, .move (.t 9)⟩),
      (11, 1536, ⟨(some 64), none, .bin .add 3 (.t 62) (.t 63)⟩),
      (12, 3840, ⟨(some 65), none, .indexAddr 1 (.t 61) (.t 64)⟩),
      (13, 7936, ⟨(some 66), none, .load false 1 (.t 65)⟩),
      (14, 0, ⟨(some 67), none, .move (.t 0)⟩),
      (15, 0, ⟨(some 68), none, .move (.t 3)⟩),
      (16, 0, ⟨(some 69), none, .move (.t 8)⟩),
      (17, 98304, ⟨(some 70), none, .bin .add 3 (.t 68) (.t 69)⟩),
      (18, 245760, ⟨(some 71), none, .indexAddr 1 (.t 67) (.t 70)⟩),
      (19, 507904, ⟨(some 72), none, .load false 1 (.t 71)⟩),
      (20, 1048335, ⟨(some 73), none, .indexAddr 1 (.t 53) (.t 56)⟩),
      (21, 2096911, ⟨none, none, .store 1 (.t 73) (.t 66)⟩),
      (22, 4194303, ⟨(some 74), none, .indexAddr 1 (.t 57) (.t 60)⟩),
      (23, 8388607, ⟨none, none, .store 1 (.t 74) (.t 72)⟩)] (some [0, 2, 3, 9]))
    (.ops [⟨(some 75), none, .move (.t 9)⟩,
      ⟨(some 8), none, .move (.t 75)⟩] (some [0, 2, 3, 8]))))))))))), []⟩

theorem is68 : FnIs Try.prog 68 x68 := ⟨Try.f68, _, Try.func68, by kernel_rfl, rfl, by kernel_rfl, by decide, by kernel_rfl⟩

/-- slices.nextPowerOfTwo -/
def x69 : XDecl := .code ⟨1, 
 (.seq (.ops [⟨(some 2), none, .move (.c (.int .u64 0))⟩] (some [0]))
 (.seq (.ops [⟨(some 3), none, .move (.t 0)⟩,
   ⟨(some 4), none, .conv 3 78 (.t 3)⟩,
   ⟨(some 5), none, .call (.c (.func (.func 48) #[] #[])) [(.t 4)]⟩,
   ⟨(some 6), none, .bin .shl 78 (.c (.int .u64 1)) (.t 5)⟩,
   ⟨(some 2), none, .move (.t 6)⟩] (some [2]))
 .ret)), [.tmp 2]⟩

theorem is69 : FnIs Try.prog 69 x69 := ⟨Try.f69, _, Try.func69, by kernel_rfl, rfl, by kernel_rfl, by decide, by kernel_rfl⟩

/-- (*slices.xorshift).Next -/
def x70 : XDecl := .code ⟨1, 
 (.seq (.ops [⟨(some 2), none, .move (.c (.int .u64 0))⟩] (some [0]))
 (.seq (.opsd [(0, 0, ⟨(some 3), none, .move (.t 0)⟩),
   (1, 1, ⟨(some 4), none, .nilCheck (.t 3)⟩),
   (2, 3, ⟨(some 5), none, .load false 1 (.t 4)⟩),
   (3, 0, ⟨(some 6), none, .move (.t 0)⟩),
   (4, 8, ⟨(some 7), none, .nilCheck (.t 6)⟩),
   (5, 24, ⟨(some 8), none, .load false 1 (.t 7)⟩),
   (6, 56, ⟨(some 9), none, .bin .shl 97 (.t 8) (.c (.int .u64 13))⟩),
   (7, 127, ⟨(some 10), none, .bin .xor 97 (.t 5) (.t 9)⟩),
   (8, 255, ⟨(some 11), none, .nilCheck (.t 3)⟩),
   (9, 511, ⟨none, none, .store 1 (.t 11) (.t 10)⟩)] (some [0]))
 (.seq (.opsd [(0, 0, ⟨(some 12), none, .move (.t 0)⟩),
   (1, 1, ⟨(some 13), none, .nilCheck (.t 12)⟩),
   (2, 3, ⟨(some 14), none, .load false 1 (.t 13)⟩),
   (3, 0, ⟨(some 15), none, .move (.t 0)⟩),
   (4, 8, ⟨(some 16), none, .nilCheck (.t 15)⟩),
   (5, 24, ⟨(some 17), none, .load false 1 (.t 16)⟩),
   (6, 56, ⟨(some 18), none, .bin .shr 97 (.t 17) (.c (.int .u64 7))⟩),
   (7, 127, ⟨(some 19), none, .bin .xor 97 (.t 14) (.t 18)⟩),
   (8, 255, ⟨(some 20), none, .nilCheck (.t 12)⟩),
   (9, 511, ⟨none, none, .store 1 (.t 20) (.t 19)⟩)] (some [0]))
 (.seq (.opsd [(0, 0, ⟨(some 21), none, .move (.t 0)⟩),
   (1, 1, ⟨(some 22), none, .nilCheck (.t 21)⟩),
   (2, 3, ⟨(some 23), none, .load false 1 (.t 22)⟩),
   (3, 0, ⟨(some 24), none, .move (.t 0)⟩),
   (4, 8, ⟨(some 25), none, .nilCheck (.t 24)⟩),
   (5, 24, ⟨(some 26), none, .load false 1 (.t 25)⟩),
   (6, 56, ⟨(some 27), none, .bin .shl 97 (.t 26) (.c (.int .u64 17))⟩),
   (7, 127, ⟨(some 28), none, .bin .xor 97 (.t 23) (.t 27)⟩),
   (8, 255, ⟨(some 29), none, .nilCheck (.t 21)⟩),
   (9, 511, ⟨none, none, .store 1 (.t 29) (.t 28)⟩)] (some [0]))
 (.seq (.ops [⟨(some 30), none, .move (.t 0)⟩,
   ⟨(some 31), none, .nilCheck (.t 30)⟩,
   ⟨(some 32), none, .load false 1 (.t 31)⟩,
   ⟨(some 2), none, .move (.t 32)⟩] (some [2]))
 .ret))))), [.tmp 2]⟩

theorem is70 : FnIs Try.prog 70 x70 := ⟨Try.f70, _, Try.func70, by kernel_rfl, rfl, by kernel_rfl, by decide, by kernel_rfl⟩

/-- slices.medianAdjacentOrdered[string] -/
def x71 : XDecl := .code ⟨3, 
 (.seq (.ops [⟨(some 6), none, .move (.c (.int .i64 0))⟩] (some [0, 1, 2]))
 (.seq (.ops [⟨(some 7), none, .move (.t 0)⟩,
   ⟨(some 8), none, .move (.t 1)⟩,
   ⟨(some 9), none, .bin .sub 3 (.t 8) (.c (.int .i64 1))⟩,
   ⟨(some 10), none, .move (.t 1)⟩,
   ⟨(some 11), none, .move (.t 1)⟩,
   ⟨(some 12), none, .bin .add 3 (.t 11) (.c (.int .i64 1))⟩,
   ⟨(some 13), none, .move (.t 2)⟩,
   ⟨(some 14), none, .call (.c (.func (.func 72) #[] #[])) [(.t 7), (.t 9), (.t 10), (.t 12), (.t 13)]⟩,
   ⟨(some 6), none, .move (.t 14)⟩] (some [6]))
 .ret)), [.tmp 6]⟩

theorem is71 : FnIs Try.prog 71 x71 := ⟨Try.f71, _, Try.func71, by kernel_rfl, rfl, by kernel_rfl, by decide, by kernel_rfl⟩

/-- slices.medianOrdered[string] -/
def x72 : XDecl := .code ⟨5, 
 (.seq (.ops [⟨(some 10), none, .move (.c (.int .i64 0))⟩] (some [0, 1, 2, 3, 4]))
 (.seq (.ops [⟨(some 12), none, .move (.t 0)⟩,
   ⟨(some 13), none, .move (.t 1)⟩,
   ⟨(some 14), none, .move (.t 2)⟩,
   ⟨(some 15), none, .move (.t 4)⟩,
   ⟨(some 16), none, .call (.c (.func (.func 75) #[] #[])) [(.t 12), (.t 13), (.t 14), (.t 15)]⟩,
   ⟨(some 11), none, .move (.t 16)⟩,
   ⟨(some 17), none, .extract (.t 11) 0⟩,
   ⟨(some 18), none, .extract (.t 11) 1⟩,
   ⟨(some 1), none, .move (.t 17)⟩,
   ⟨(some 2), none, .move (.t 18)⟩] (some [0, 1, 2, 3, 4]))
 (.seq (.ops [⟨(some 20), none, .move (.t 0)⟩,
   ⟨(some 21), none, .move (.t 2)⟩,
   ⟨(some 22), none, .move (.t 3)⟩,
   ⟨(some 23), none, .move (.t 4)⟩,
   ⟨(some 24), none, .call (.c (.func (.func 75) #[] #[])) [(.t 20), (.t 21), (.t 22), (.t 23)]⟩,
   ⟨(some 19), none, .move (.t 24)⟩,
   ⟨(some 25), none, .extract (.t 19) 0⟩,
   ⟨(some 26), none, .extract (.t 19) 1⟩,
   ⟨(some 2), none, .move (.t 25)⟩,
   ⟨(some 3), none, .move (.t 26)⟩] (some [0, 1, 2, 4]))
 (.seq (.ops [⟨(some 28), none, .move (.t 0)⟩,
   ⟨(some 29), none, .move (.t 1)⟩,
   ⟨(some 30), none, .move (.t 2)⟩,
   ⟨(some 31), none, .move (.t 4)⟩,
   ⟨(some 32), none, .call (.c (.func (.func 75) #[] #[])) [(.t 28), (.t 29), (.t 30), (.t 31)]⟩,
   ⟨(some 27), none, .move (.t 32)⟩,
   ⟨(some 33), none, .extract (.t 27) 0⟩,
   ⟨(some 34), none, .extract (.t 27) 1⟩,
   ⟨(some 1), none, .move (.t 33)⟩,
   ⟨(some 2), none, .move (.t 34)⟩] (some [2]))
 (.seq (.ops [⟨(some 35), none, .move (.t 2)⟩,
   ⟨(some 10), none, .move (.t 35)⟩] (some [10]))
 .ret))))), [.tmp 10]⟩

theorem is72 : FnIs Try.prog 72 x72 := ⟨Try.f72, _, Try.func72, by kernel_rfl, rfl, by kernel_rfl, by decide, by kernel_rfl⟩

/-- cmp.isNaN[string] -/
def x73 : XDecl := .code ⟨1, 
 (.seq (.ops [⟨(some 2), none, .move (.c (.bool false))⟩] (some [0]))
 (.seq (.ops [⟨(some 3), none, .move (.t 0)⟩,
   ⟨(some 4), none, .move (.t 0)⟩,
   ⟨(some 5), none, .bin .neq 9 (.t 3) (.t 4)⟩,
   ⟨(some 2), none, .move (.t 5)⟩] (some [2]))
 .ret)), [.tmp 2]⟩

theorem is73 : FnIs Try.prog 73 x73 := ⟨Try.f73, _, Try.func73, by kernel_rfl, rfl, by kernel_rfl, by decide, by kernel_rfl⟩

-- 74 internal/bytealg.abigen_runtime_cmpstring: no body
def x74 : XDecl := .ext 74

theorem is74 : FnIs Try.prog 74 x74 := rfl

/-- slices.order2Ordered[string] -/
def x75 : XDecl := .code ⟨4, 
 (.seq (.ops [⟨(some 8), none, .move (.c (.int .i64 0))⟩,
   ⟨(some 9), none, .move (.c (.int .i64 0))⟩] (some [0, 1, 2, 3]))
 (.seq (.seq (.opsd [(0, 0, ⟨(some 10), none, .move (.t 0)⟩),
   (1, 0, ⟨(some 11), none, .move (.t 2)⟩),
   (2, 3, ⟨(some 12), none, .indexAddr 1 (.t 10) (.t 11)⟩),
   (3, 7, ⟨(some 13), none, .load false 1 (.t 12)⟩),
   (4, 0, ⟨(some 14), none, .move (.t 0)⟩),
   (5, 0, ⟨(some 15), none, .move (.t 1)⟩),
   (6, 48, ⟨(some 16), none, .indexAddr 1 (.t 14) (.t 15)⟩),
   (7, 112, ⟨(some 17), none, .load false 1 (.t 16)⟩),
   (8, 255, ⟨(some 18), none, .call (.c (.func (.func 61) #[] #[])) [(.t 13), (.t 17)]⟩)] (some [1, 2, 3, 18]))
 (.cond (.t 18)
  (.seq (.ops [⟨(some 19), none, .move (.t 3)⟩,
    ⟨(some 20), none, .nilCheck (.t 19)⟩,
    ⟨(some 21), none, .load false 1 (.t 20)⟩,
    ⟨(some 22), none, .bin .add 3 (.t 21) (.c (.int .i64 1))⟩,
    ⟨(some 23), none, .nilCheck (.t 19)⟩,
    ⟨none, none, .store 1 (.t 23) (.t 22)⟩] (some [1, 2]))
  (.seq (.ops [⟨(some 24), none, .move (.t 2)⟩,
    ⟨(some 25), none, .move (.t 1)⟩,
    ⟨(some 8), none, .move (.t 24)⟩,
    ⟨(some 9), none, .move (.t 25)⟩] (some [8, 9]))
  .ret))
  .skip))
 (.seq (.ops [⟨(some 26), none, .move (.t 1)⟩,
   ⟨(some 27), none, .move (.t 2)⟩,
   ⟨(some 8), none, .move (.t 26)⟩,
   ⟨(some 9), none, .move (.t 27)⟩] (some [8, 9]))
 .ret))), [.tmp 8, .tmp 9]⟩

theorem is75 : FnIs Try.prog 75 x75 := ⟨Try.f75, _, Try.func75, by kernel_rfl, rfl, by kernel_rfl, by decide, by kernel_rfl⟩


end Go.Proofs.Ytlldfkapaeidoaa.X
