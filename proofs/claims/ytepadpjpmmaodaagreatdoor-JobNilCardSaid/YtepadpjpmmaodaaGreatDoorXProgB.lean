/-
  Own work, printed by a program of ours (mkprog.py): the functions of this seat as code of the abstract run, and that each is the model's.
-/
import Derived.Test.YtepadpjpmmaodaaGreatDoorXLaw
import Derived.Test.YtepadpjpmmaodaaGreatDoorChecked
set_option maxRecDepth 100000
namespace Go.Proofs.YtepadpjpmmaodaaGreatDoor.X
open Go

/-- cmp.Compare[int] -/
def x80 : XDecl := .code ⟨2, 
 (.seq (.ops [⟨(some 4), none, .move (.c (.int .i64 0))⟩] (some [0, 1]))
 (.seq (.ops [⟨(some 7), none, .move (.t 0)⟩,
   ⟨(some 8), none, .call (.c (.func (.func 111) #[] #[])) [(.t 7)]⟩,
   ⟨(some 5), none, .move (.t 8)⟩] (some [0, 1, 5]))
 (.seq (.ops [⟨(some 9), none, .move (.t 1)⟩,
   ⟨(some 10), none, .call (.c (.func (.func 111) #[] #[])) [(.t 9)]⟩,
   ⟨(some 6), none, .move (.t 10)⟩] (some [0, 1, 5, 6]))
 (.seq (.seq (.ops [⟨(some 11), none, .move (.t 5)⟩] (some [0, 1, 6, 11]))
 (.cond (.t 11)
  (.seq (.seq (.ops [⟨(some 12), none, .move (.t 6)⟩] (some [12]))
  (.cond (.t 12)
   (.seq (.ops [⟨(some 4), none, .move (.c (.int .i64 0))⟩] (some [4]))
   .ret)
   .skip))
  (.seq (.ops [⟨(some 4), none, .move (.c (.int .i64 (-1)))⟩] (some [4]))
  .ret))
  .skip))
 (.seq (.seq (.ops [⟨(some 13), none, .move (.t 6)⟩] (some [0, 1, 13]))
 (.cond (.t 13)
  (.seq (.ops [⟨(some 4), none, .move (.c (.int .i64 1))⟩] (some [4]))
  .ret)
  .skip))
 (.seq (.seq (.ops [⟨(some 14), none, .move (.t 0)⟩,
   ⟨(some 15), none, .move (.t 1)⟩,
   ⟨(some 16), none, .bin .lss 3 (.t 14) (.t 15)⟩] (some [0, 1, 16]))
 (.cond (.t 16)
  (.seq (.ops [⟨(some 4), none, .move (.c (.int .i64 (-1)))⟩] (some [4]))
  .ret)
  .skip))
 (.seq (.seq (.ops [⟨(some 17), none, .move (.t 0)⟩,
   ⟨(some 18), none, .move (.t 1)⟩,
   ⟨(some 19), none, .bin .gtr 3 (.t 17) (.t 18)⟩] (some [19]))
 (.cond (.t 19)
  (.seq (.ops [⟨(some 4), none, .move (.c (.int .i64 1))⟩] (some [4]))
  .ret)
  .skip))
 (.seq (.ops [⟨(some 4), none, .move (.c (.int .i64 0))⟩] (some [4]))
 .ret)))))))), [.tmp 4]⟩

theorem is80 : FnIs Tryz.prog 80 x80 := ⟨Tryz.f80, _, Tryz.func80, by kernel_rfl, rfl, by kernel_rfl, by decide, by kernel_rfl⟩

/-- slices.Compare[[]uint64,uint64] -/
def x81 : XDecl := .code ⟨2, 
 (.seq (.ops [⟨(some 4), none, .move (.c (.int .i64 0))⟩] (some [0, 1]))
 (.seq (.seq (.ops [⟨(some 9), none, .move (.t 0)⟩,
   ⟨(some 10), none, .len (.t 9)⟩,
   ⟨(some 11), none, .move (.c (.int .i64 0))⟩] (some [0, 1, 9, 10, 11]))
 (.block 0
  (.loop
   (.seq (.ops [⟨(some 12), none, .bin .lss 3 (.t 11) (.t 10)⟩] (some [0, 1, 9, 10, 11, 12]))
   (.seq (.cond (.t 12)
    .skip
    (.exit 0))
   (.seq (.block 1
    (.seq (.ops [⟨(some 13), none, .move (.t 11)⟩,
      ⟨(some 14), none, .indexAddr 1 (.t 9) (.t 11)⟩,
      ⟨(some 15), none, .load false 1 (.t 14)⟩,
      ⟨(some 5), none, .move (.t 13)⟩,
      ⟨(some 6), none, .move (.t 15)⟩] (some [0, 1, 5, 6, 9, 10, 11]))
    (.seq (.seq (.ops [⟨(some 16), none, .move (.t 5)⟩,
      ⟨(some 17), none, .move (.t 1)⟩,
      ⟨(some 18), none, .len (.t 17)⟩,
      ⟨(some 19), none, .bin .geq 3 (.t 16) (.t 18)⟩] (some [0, 1, 5, 6, 9, 10, 11, 19]))
    (.cond (.t 19)
     (.seq (.ops [⟨(some 4), none, .move (.c (.int .i64 1))⟩] (some [4]))
     .ret)
     .skip))
    (.seq (.ops [⟨(some 20), none, .move (.t 1)⟩,
      ⟨(some 21), none, .move (.t 5)⟩,
      ⟨(some 22), none, .indexAddr 1 (.t 20) (.t 21)⟩,
      ⟨(some 23), none, .load false 1 (.t 22)⟩,
      ⟨(some 7), none, .move (.t 23)⟩] (some [0, 1, 6, 7, 9, 10, 11]))
    (.seq (.ops [⟨(some 24), none, .move (.t 6)⟩,
      ⟨(some 25), none, .move (.t 7)⟩,
      ⟨(some 26), none, .call (.c (.func (.func 112) #[] #[])) [(.t 24), (.t 25)]⟩,
      ⟨(some 8), none, .move (.t 26)⟩] (some [0, 1, 8, 9, 10, 11]))
    (.seq (.ops [⟨(some 27), none, .move (.t 8)⟩,
      ⟨(some 28), none, .bin .neq 3 (.t 27) (.c (.int .i64 0))⟩] (some [0, 1, 8, 9, 10, 11, 28]))
    (.cond (.t 28)
     (.seq (.ops [⟨(some 29), none, .move (.t 8)⟩,
       ⟨(some 4), none, .move (.t 29)⟩] (some [4]))
     .ret)
     .skip)))))))
   (.ops [⟨(some 30), none, .bin .add 3 (.t 11) (.c (.int .i64 1))⟩,
     ⟨(some 11), none, .move (.t 30)⟩] (some [0, 1, 9, 10, 11]))))))))
 (.seq (.seq (.ops [⟨(some 31), none, .move (.t 0)⟩,
   ⟨(some 32), none, .len (.t 31)⟩,
   ⟨(some 33), none, .move (.t 1)⟩,
   ⟨(some 34), none, .len (.t 33)⟩,
   ⟨(some 35), none, .bin .lss 3 (.t 32) (.t 34)⟩] (some [35]))
 (.cond (.t 35)
  (.seq (.ops [⟨(some 4), none, .move (.c (.int .i64 (-1)))⟩] (some [4]))
  .ret)
  .skip))
 (.seq (.ops [⟨(some 4), none, .move (.c (.int .i64 0))⟩] (some [4]))
 .ret)))), [.tmp 4]⟩

theorem is81 : FnIs Tryz.prog 81 x81 := ⟨Tryz.f81, _, Tryz.func81, by kernel_rfl, rfl, by kernel_rfl, by decide, by kernel_rfl⟩

/-- cloisonne/label.Right -/
def x82 : XDecl := .code ⟨1, 
 (.seq (.ops [⟨(some 2), none, .move (.c (.bool false))⟩] (some [0]))
 (.seq (.seq (.ops [⟨(some 6), none, .move (.t 0)⟩,
   ⟨(some 7), none, .len (.t 6)⟩,
   ⟨(some 8), none, .bin .gtr 3 (.t 7) (.c (.int .i64 6))⟩] (some [0, 8]))
 (.cond (.t 8)
  (.seq (.ops [⟨(some 2), none, .move (.c (.bool false))⟩] (some [2]))
  .ret)
  .skip))
 (.seq (.ops [⟨(some 3), none, .move (.c (.int .u64 0))⟩] (some [0, 3]))
 (.seq (.seq (.ops [⟨(some 9), none, .move (.t 0)⟩,
   ⟨(some 10), none, .len (.t 9)⟩,
   ⟨(some 11), none, .move (.c (.int .i64 0))⟩] (some [3, 9, 10, 11]))
 (.block 0
  (.loop
   (.seq (.ops [⟨(some 12), none, .bin .lss 3 (.t 11) (.t 10)⟩] (some [3, 9, 10, 11, 12]))
   (.seq (.cond (.t 12)
    .skip
    (.exit 0))
   (.seq (.block 1
    (.seq (.ops [⟨(some 13), none, .indexAddr 1 (.t 9) (.t 11)⟩,
      ⟨(some 14), none, .load false 1 (.t 13)⟩,
      ⟨(some 5), none, .move (.t 14)⟩] (some [3, 5, 9, 10, 11]))
    (.seq (.seq (.ops [⟨(some 15), none, .move (.t 5)⟩,
      ⟨(some 16), none, .move (.t 3)⟩,
      ⟨(some 17), none, .bin .leq 40 (.t 15) (.t 16)⟩] (some [5, 9, 10, 11, 17]))
    (.cond (.t 17)
     (.seq (.ops [⟨(some 2), none, .move (.c (.bool false))⟩] (some [2]))
     .ret)
     .skip))
    (.ops [⟨(some 18), none, .move (.t 5)⟩,
      ⟨(some 3), none, .move (.t 18)⟩] (some [3, 9, 10, 11])))))
   (.ops [⟨(some 19), none, .bin .add 3 (.t 11) (.c (.int .i64 1))⟩,
     ⟨(some 11), none, .move (.t 19)⟩] (some [3, 9, 10, 11]))))))))
 (.seq (.ops [⟨(some 2), none, .move (.c (.bool true))⟩] (some [2]))
 .ret))))), [.tmp 2]⟩

theorem is82 : FnIs Tryz.prog 82 x82 := ⟨Tryz.f82, _, Tryz.func82, by kernel_rfl, rfl, by kernel_rfl, by decide, by kernel_rfl⟩

/-- slices.IndexFunc[[]cloisonne/api.Room,cloisonne/api.Room] -/
def x83 : XDecl := .code ⟨2, 
 (.seq (.ops [⟨(some 4), none, .move (.c (.int .i64 0))⟩] (some [0, 1]))
 (.seq (.seq (.ops [⟨(some 6), none, .move (.t 0)⟩,
   ⟨(some 7), none, .len (.t 6)⟩,
   ⟨(some 8), none, .move (.c (.int .i64 0))⟩] (some [0, 1, 7, 8]))
 (.block 0
  (.loop
   (.seq (.ops [⟨(some 9), none, .bin .lss 3 (.t 8) (.t 7)⟩] (some [0, 1, 7, 8, 9]))
   (.seq (.cond (.t 9)
    .skip
    (.exit 0))
   (.seq (.block 1
    (.seq (.ops [⟨(some 10), none, .move (.t 8)⟩,
      ⟨(some 5), none, .move (.t 10)⟩] (some [0, 1, 5, 7, 8]))
    (.seq (.ops [⟨(some 11), none, .move (.t 1)⟩,
      ⟨(some 12), none, .move (.t 0)⟩,
      ⟨(some 13), none, .move (.t 5)⟩,
      ⟨(some 14), none, .indexAddr 4 (.t 12) (.t 13)⟩,
      ⟨(some 15), none, .load true 4 (.t 14)⟩,
      ⟨(some 16), none, .call (.t 11) [(.t 15)]⟩] (some [0, 1, 5, 7, 8, 16]))
    (.cond (.t 16)
     (.seq (.ops [⟨(some 17), none, .move (.t 5)⟩,
       ⟨(some 4), none, .move (.t 17)⟩] (some [4]))
     .ret)
     .skip))))
   (.ops [⟨(some 18), none, .bin .add 3 (.t 8) (.c (.int .i64 1))⟩,
     ⟨(some 8), none, .move (.t 18)⟩] (some [0, 1, 7, 8]))))))))
 (.seq (.ops [⟨(some 4), none, .move (.c (.int .i64 (-1)))⟩] (some [4]))
 .ret))), [.tmp 4]⟩

theorem is83 : FnIs Tryz.prog 83 x83 := ⟨Tryz.f83, _, Tryz.func83, by kernel_rfl, rfl, by kernel_rfl, by decide, by kernel_rfl⟩

/-- cloisonne/seglog.look -/
def x84 : XDecl := .code ⟨2, 
 (.seq (.ops [⟨(some 4), none, .alloc [(.slice none 0 0), (.slice none 0 0), (.slice none 0 0), (.int .i64 0)]⟩] (some [0, 1, 4]))
 (.seq (.ops [⟨(some 5), none, .alloc [(.slice none 0 0), (.slice none 0 0), (.slice none 0 0), (.int .i64 0)]⟩] (some [0, 1, 4, 5]))
 (.seq (.seq (.ops [⟨(some 12), none, .move (.t 0)⟩,
   ⟨(some 13), none, .call (.c (.func (.func 37) #[] #[])) [(.t 12)]⟩,
   ⟨(some 14), none, .move (.c (.int .i64 0))⟩] (some [0, 1, 4, 5, 13, 14]))
 (.block 0
  (.loop
   (.seq (.ops [⟨(some 15), none, .bin .lss 3 (.t 14) (.t 13)⟩] (some [0, 1, 4, 5, 13, 14, 15]))
   (.seq (.cond (.t 15)
    .skip
    (.exit 0))
   (.seq (.block 1
    (.seq (.ops [⟨(some 16), none, .move (.t 14)⟩,
      ⟨(some 6), none, .move (.t 16)⟩] (some [0, 1, 4, 5, 6, 13, 14]))
    (.seq (.ops [⟨(some 18), none, .move (.t 0)⟩,
      ⟨(some 19), none, .move (.t 1)⟩,
      ⟨(some 20), none, .move (.t 6)⟩,
      ⟨(some 21), none, .call (.c (.func (.func 113) #[] #[])) [(.t 18), (.t 19), (.t 20)]⟩,
      ⟨(some 17), none, .move (.t 21)⟩,
      ⟨(some 22), none, .extract (.t 17) 0⟩,
      ⟨(some 23), none, .extract (.t 17) 1⟩,
      ⟨(some 7), none, .move (.t 22)⟩,
      ⟨(some 8), none, .move (.t 23)⟩] (some [0, 1, 4, 5, 7, 13, 14]))
    (.seq (.ops [⟨(some 25), none, .move (.t 7)⟩,
      ⟨(some 26), none, .call (.c (.func (.func 114) #[] #[])) [(.t 25)]⟩,
      ⟨(some 24), none, .move (.t 26)⟩,
      ⟨(some 27), none, .extract (.t 24) 0⟩,
      ⟨(some 28), none, .extract (.t 24) 1⟩,
      ⟨(some 29), none, .extract (.t 24) 2⟩,
      ⟨(some 9), none, .alloc [(.int .i64 0), (.int .i64 0), (.int .i64 0), (.int .i64 0), (.int .i64 0)]⟩,
      ⟨none, none, .store 5 (.t 9) (.t 27)⟩,
      ⟨(some 10), none, .move (.t 28)⟩,
      ⟨(some 11), none, .move (.t 29)⟩] (some [0, 1, 4, 5, 9, 10, 11, 13, 14]))
    (.seq (.ops [⟨(some 30), none, .fieldAddr 0 (.t 5)⟩,
      ⟨(some 31), none, .load false 1 (.t 30)⟩,
      ⟨(some 32), none, .load true 5 (.t 9)⟩,
      ⟨(some 33), none, .buildSlice [(.int .i64 0), (.int .i64 0), (.int .i64 0), (.int .i64 0), (.int .i64 0)] 5 1 [(0, (.t 32))]⟩,
      ⟨(some 34), none, .append 5 40 [(.int .i64 0), (.int .i64 0), (.int .i64 0), (.int .i64 0), (.int .i64 0)] (.t 31) (.t 33)⟩,
      ⟨(some 35), none, .fieldAddr 0 (.t 5)⟩,
      ⟨none, none, .store 1 (.t 35) (.t 34)⟩] (some [0, 1, 4, 5, 9, 10, 11, 13, 14]))
    (.seq (.ops [⟨(some 36), none, .fieldAddr 1 (.t 5)⟩,
      ⟨(some 37), none, .load false 1 (.t 36)⟩,
      ⟨(some 38), none, .move (.t 10)⟩,
      ⟨(some 39), none, .buildSlice [(.string .empty)] 1 1 [(0, (.t 38))]⟩,
      ⟨(some 40), none, .append 1 16 [(.string .empty)] (.t 37) (.t 39)⟩,
      ⟨(some 41), none, .fieldAddr 1 (.t 5)⟩,
      ⟨none, none, .store 1 (.t 41) (.t 40)⟩] (some [0, 1, 4, 5, 9, 11, 13, 14]))
    (.seq (.ops [⟨(some 42), none, .fieldAddr 2 (.t 5)⟩,
      ⟨(some 43), none, .load false 1 (.t 42)⟩,
      ⟨(some 44), none, .move (.t 11)⟩,
      ⟨(some 45), none, .bin .eql 28 (.t 44) (.c (.int .i64 0))⟩,
      ⟨(some 46), none, .buildSlice [(.bool false)] 1 1 [(0, (.t 45))]⟩,
      ⟨(some 47), none, .append 1 1 [(.bool false)] (.t 43) (.t 46)⟩,
      ⟨(some 48), none, .fieldAddr 2 (.t 5)⟩,
      ⟨none, none, .store 1 (.t 48) (.t 47)⟩] (some [0, 1, 4, 5, 9, 13, 14]))
    (.ops [⟨(some 49), none, .fieldAddr 3 (.t 5)⟩,
      ⟨(some 50), none, .load false 1 (.t 49)⟩,
      ⟨(some 51), none, .fieldAddr 2 (.t 9)⟩,
      ⟨(some 52), none, .load false 1 (.t 51)⟩,
      ⟨(some 53), none, .calcB .max [3, 3] 3 [(.t 50), (.t 52)]⟩,
      ⟨(some 54), none, .fieldAddr 3 (.t 5)⟩,
      ⟨none, none, .store 1 (.t 54) (.t 53)⟩] (some [0, 1, 4, 5, 13, 14])))))))))
   (.ops [⟨(some 55), none, .bin .add 3 (.t 14) (.c (.int .i64 1))⟩,
     ⟨(some 14), none, .move (.t 55)⟩] (some [0, 1, 4, 5, 13, 14]))))))))
 (.seq (.ops [⟨(some 56), none, .load true 4 (.t 5)⟩,
   ⟨none, none, .store 4 (.t 4) (.t 56)⟩] (some [4]))
 .ret)))), [.cell true 4 4]⟩

theorem is84 : FnIs Tryz.prog 84 x84 := ⟨Tryz.f84, _, Tryz.func84, by kernel_rfl, rfl, by kernel_rfl, by decide, by kernel_rfl⟩

/-- cloisonne/record.tell -/
def x87 : XDecl := .code ⟨2, 
 (.seq (.ops [⟨(some 4), none, .move (.c (.string .empty))⟩] (some [0, 1]))
 (.seq (.ops [⟨(some 8), none, .move (.t 0)⟩,
   ⟨(some 9), none, .move (.t 1)⟩,
   ⟨(some 10), none, .call (.c (.func (.func 116) #[] #[])) [(.t 8), (.t 9)]⟩,
   ⟨(some 7), none, .move (.t 10)⟩,
   ⟨(some 11), none, .extract (.t 7) 0⟩,
   ⟨(some 12), none, .extract (.t 7) 1⟩,
   ⟨(some 5), none, .move (.t 11)⟩,
   ⟨(some 6), none, .move (.t 12)⟩] (some [5, 6]))
 (.seq (.ops [⟨(some 13), none, .move (.t 6)⟩,
   ⟨(some 14), none, .bin .eql 28 (.t 13) (.c (.int .i64 0))⟩,
   ⟨(some 15), none, .call (.c (.func (.func 96) #[] #[])) [(.t 14)]⟩] (some [5]))
 (.seq (.ops [⟨(some 16), none, .move (.t 5)⟩,
   ⟨(some 4), none, .move (.t 16)⟩] (some [4]))
 .ret)))), [.tmp 4]⟩

theorem is87 : FnIs Tryz.prog 87 x87 := ⟨Tryz.f87, _, Tryz.func87, by kernel_rfl, rfl, by kernel_rfl, by decide, by kernel_rfl⟩

/-- cloisonne/record.number -/
def x88 : XDecl := .code ⟨1, 
 (.seq (.ops [⟨(some 2), none, .alloc [(.int .u64 0), (.string .empty), (.slice none 0 0), (.slice none 0 0)]⟩] (some [0, 2]))
 (.seq (.ops [⟨(some 3), none, .move (.t 0)⟩,
   ⟨(some 4), none, .conv 3 40 (.t 3)⟩,
   ⟨(some 5), none, .build [(.int .u64 0), (.string .empty), (.slice none 0 0), (.slice none 0 0)] [(0, 1), (1, 1), (2, 1), (3, 1)] [(0, (.t 4))]⟩,
   ⟨none, none, .store 4 (.t 2) (.t 5)⟩] (some [2]))
 .ret)), [.cell true 4 2]⟩

theorem is88 : FnIs Tryz.prog 88 x88 := ⟨Tryz.f88, _, Tryz.func88, by kernel_rfl, rfl, by kernel_rfl, by decide, by kernel_rfl⟩

/-- (*cloisonne/caps.Table).Tags -/
def x89 : XDecl := .code ⟨1, 
 (.seq (.ops [⟨(some 2), none, .move (.c (.int .i64 0))⟩] (some [0]))
 (.seq (.seq (.ops [⟨(some 3), none, .move (.t 0)⟩,
   ⟨(some 4), none, .isNil .ptr false (.t 3)⟩] (some [0, 4]))
 (.cond (.t 4)
  (.seq (.ops [⟨(some 2), none, .move (.c (.int .i64 0))⟩] (some [2]))
  .ret)
  .skip))
 (.seq (.ops [⟨(some 5), none, .move (.t 0)⟩,
   ⟨(some 6), none, .nilCheck (.t 5)⟩,
   ⟨(some 7), none, .fieldAddr 0 (.t 6)⟩,
   ⟨(some 8), none, .load false 1 (.t 7)⟩,
   ⟨(some 2), none, .move (.t 8)⟩] (some [2]))
 .ret))), [.tmp 2]⟩

theorem is89 : FnIs Tryz.prog 89 x89 := ⟨Tryz.f89, _, Tryz.func89, by kernel_rfl, rfl, by kernel_rfl, by decide, by kernel_rfl⟩

/-- (*cloisonne/caps.Table).Masks -/
def x90 : XDecl := .code ⟨1, 
 (.seq (.ops [⟨(some 2), none, .move (.c (.slice none 0 0))⟩,
   ⟨(some 3), none, .move (.c (.slice none 0 0))⟩] (some [0]))
 (.seq (.seq (.ops [⟨(some 8), none, .move (.t 0)⟩,
   ⟨(some 9), none, .isNil .ptr false (.t 8)⟩] (some [0, 9]))
 (.cond (.t 9)
  (.seq (.ops [⟨(some 2), none, .move (.c (.slice none 0 0))⟩,
    ⟨(some 3), none, .move (.c (.slice none 0 0))⟩] (some [2, 3]))
  .ret)
  .skip))
 (.seq (.ops [⟨(some 4), none, .move (.c (.slice none 0 0))⟩,
   ⟨(some 5), none, .move (.c (.slice none 0 0))⟩] (some [0, 4, 5]))
 (.seq (.seq (.ops [⟨(some 10), none, .move (.t 0)⟩,
   ⟨(some 11), none, .nilCheck (.t 10)⟩,
   ⟨(some 12), none, .fieldAddr 1 (.t 11)⟩,
   ⟨(some 13), none, .load false 1 (.t 12)⟩,
   ⟨(some 14), none, .len (.t 13)⟩,
   ⟨(some 15), none, .move (.c (.int .i64 0))⟩] (some [4, 5, 13, 14, 15]))
 (.block 0
  (.loop
   (.seq (.ops [⟨(some 16), none, .bin .lss 3 (.t 15) (.t 14)⟩] (some [4, 5, 13, 14, 15, 16]))
   (.seq (.cond (.t 16)
    .skip
    (.exit 0))
   (.seq (.block 1
    (.seq (.ops [⟨(some 17), none, .indexAddr 2 (.t 13) (.t 15)⟩,
      ⟨(some 18), none, .load true 2 (.t 17)⟩,
      ⟨(some 7), none, .alloc [(.int .u64 0), (.int .u64 0)]⟩,
      ⟨none, none, .store 2 (.t 7) (.t 18)⟩] (some [4, 5, 7, 13, 14, 15]))
    (.seq (.ops [⟨(some 19), none, .move (.t 4)⟩,
      ⟨(some 20), none, .fieldAddr 0 (.t 7)⟩,
      ⟨(some 21), none, .load false 1 (.t 20)⟩,
      ⟨(some 22), none, .buildSlice [(.int .u64 0)] 1 1 [(0, (.t 21))]⟩,
      ⟨(some 23), none, .append 1 8 [(.int .u64 0)] (.t 19) (.t 22)⟩,
      ⟨(some 4), none, .move (.t 23)⟩] (some [4, 5, 7, 13, 14, 15]))
    (.ops [⟨(some 24), none, .move (.t 5)⟩,
      ⟨(some 25), none, .fieldAddr 1 (.t 7)⟩,
      ⟨(some 26), none, .load false 1 (.t 25)⟩,
      ⟨(some 27), none, .buildSlice [(.int .u64 0)] 1 1 [(0, (.t 26))]⟩,
      ⟨(some 28), none, .append 1 8 [(.int .u64 0)] (.t 24) (.t 27)⟩,
      ⟨(some 5), none, .move (.t 28)⟩] (some [4, 5, 13, 14, 15])))))
   (.ops [⟨(some 29), none, .bin .add 3 (.t 15) (.c (.int .i64 1))⟩,
     ⟨(some 15), none, .move (.t 29)⟩] (some [4, 5, 13, 14, 15]))))))))
 (.seq (.ops [⟨(some 30), none, .move (.t 4)⟩,
   ⟨(some 31), none, .move (.t 5)⟩,
   ⟨(some 2), none, .move (.t 30)⟩,
   ⟨(some 3), none, .move (.t 31)⟩] (some [2, 3]))
 .ret))))), [.tmp 2, .tmp 3]⟩

theorem is90 : FnIs Tryz.prog 90 x90 := ⟨Tryz.f90, _, Tryz.func90, by kernel_rfl, rfl, by kernel_rfl, by decide, by kernel_rfl⟩

/-- (*cloisonne/seglog.Log).Base -/
def x91 : XDecl := .code ⟨2, 
 (.seq (.ops [⟨(some 4), none, .move (.c (.pointer none))⟩,
   ⟨(some 5), none, .move (.c (.int .i64 0))⟩] (some [0, 1]))
 (.seq (.block 0
  (.seq (.ops [⟨(some 7), none, .move (.t 0)⟩,
    ⟨(some 8), none, .isNil .ptr false (.t 7)⟩,
    ⟨(some 6), none, .move (.t 8)⟩] (some [0, 1, 6]))
  (.cond (.t 6)
   (.seq (.ops [⟨(some 4), none, .move (.c (.pointer none))⟩,
     ⟨(some 5), none, .move (.c (.int .i64 2))⟩] (some [4, 5]))
   .ret)
   (.seq (.ops [⟨(some 10), none, .move (.t 0)⟩,
     ⟨(some 11), none, .call (.c (.func (.func 117) #[] #[])) [(.t 10)]⟩,
     ⟨(some 9), none, .move (.t 11)⟩] (some [0, 1, 9]))
   (.cond (.t 9)
    (.seq (.ops [⟨(some 4), none, .move (.c (.pointer none))⟩,
      ⟨(some 5), none, .move (.c (.int .i64 9))⟩] (some [4, 5]))
    .ret)
    (.seq (.ops [⟨(some 13), none, .move (.t 0)⟩,
      ⟨(some 14), none, .move (.t 1)⟩,
      ⟨(some 15), none, .calcB .len [9] 3 [(.t 14)]⟩,
      ⟨(some 16), none, .call (.c (.func (.func 118) #[] #[])) [(.t 13), (.t 15), (.c (.int .i64 0))]⟩,
      ⟨(some 17), none, .un .not (.t 16)⟩,
      ⟨(some 12), none, .move (.t 17)⟩] (some [0, 1, 12]))
    (.cond (.t 12)
     (.seq (.ops [⟨(some 4), none, .move (.c (.pointer none))⟩,
       ⟨(some 5), none, .move (.c (.int .i64 16))⟩] (some [4, 5]))
     .ret)
     .skip)))))))
 (.seq (.opsd [(0, 0, ⟨(some 18), none, .move (.t 0)⟩),
   (1, 0, ⟨(some 19), none, .move (.t 0)⟩),
   (2, 2, ⟨(some 20), none, .nilCheck (.t 19)⟩),
   (3, 6, ⟨(some 21), none, .fieldAddr 1 (.t 20)⟩),
   (4, 14, ⟨(some 22), none, .load false 1 (.t 21)⟩),
   (5, 30, ⟨(some 23), none, .bin .mul 3 (.c (.int .i64 2)) (.t 22)⟩),
   (6, 62, ⟨(some 24), none, .bin .add 3 (.t 23) (.c (.int .i64 1))⟩),
   (7, 0, ⟨(some 25), none, .move (.t 0)⟩),
   (8, 128, ⟨(some 26), none, .nilCheck (.t 25)⟩),
   (9, 384, ⟨(some 27), none, .fieldAddr 2 (.t 26)⟩),
   (10, 896, ⟨(some 28), none, .load false 1 (.t 27)⟩),
   (11, 2046, ⟨(some 29), none, .bin .sub 3 (.t 24) (.t 28)⟩),
   (12, 0, ⟨(some 30), none, .move (.t 0)⟩),
   (13, 4096, ⟨(some 31), none, .nilCheck (.t 30)⟩),
   (14, 12288, ⟨(some 32), none, .fieldAddr 3 (.t 31)⟩),
   (15, 28672, ⟨(some 33), none, .load false 1 (.t 32)⟩),
   (16, 61440, ⟨(some 34), none, .bin .add 3 (.t 33) (.c (.int .i64 1))⟩),
   (17, 0, ⟨(some 35), none, .move (.t 1)⟩),
   (18, 131072, ⟨(some 36), none, .call (.c (.func (.func 120) #[] #[])) [(.t 35)]⟩),
   (19, 524286, ⟨(some 37), none, .build [(.pointer none), (.int .i64 0), (.int .i64 0), (.int .i64 0), (.slice none 0 0), (.int .i64 0), (.bool false)] [(0, 1), (1, 1), (2, 1), (3, 1), (4, 1), (5, 1), (6, 1)] [(1, (.t 29)), (2, (.t 34)), (4, (.t 36))]⟩),
   (20, 1048574, ⟨(some 38), none, .box (.t 37)⟩),
   (21, 2097151, ⟨(some 39), none, .call (.c (.func (.func 119) #[] #[])) [(.t 18), (.t 38)]⟩),
   (22, 4194303, ⟨(some 40), none, .extract (.t 39) 0⟩),
   (23, 4194303, ⟨(some 41), none, .extract (.t 39) 1⟩),
   (24, 16777215, ⟨(some 4), none, .move (.t 40)⟩),
   (25, 33554431, ⟨(some 5), none, .move (.t 41)⟩)] (some [4, 5]))
 .ret))), [.tmp 4, .tmp 5]⟩

theorem is91 : FnIs Tryz.prog 91 x91 := ⟨Tryz.f91, _, Tryz.func91, by kernel_rfl, rfl, by kernel_rfl, by decide, by kernel_rfl⟩

/-- cloisonne/room.open -/
def x95 : XDecl := .code ⟨2, 
 (.seq (.ops [⟨(some 2), none, .box (.t 0)⟩,
   ⟨(some 4), none, .move (.c (.pointer none))⟩,
   ⟨(some 5), none, .move (.c (.int .i64 0))⟩] (some [1, 2]))
 (.seq (.seq (.ops [⟨(some 8), none, .load true 4 (.t 2)⟩,
   ⟨(some 9), none, .call (.c (.func (.func 56) #[] #[])) [(.t 8)]⟩,
   ⟨(some 10), none, .un .not (.t 9)⟩,
   ⟨(some 11), none, .move (.t 10)⟩,
   ⟨(some 12), (some (11, false)), .move (.t 1)⟩,
   ⟨(some 13), (some (11, false)), .fieldAddr 3 (.t 2)⟩,
   ⟨(some 14), (some (11, false)), .load false 1 (.t 13)⟩,
   ⟨(some 15), (some (11, false)), .call (.c (.func (.func 78) #[] #[])) [(.t 12), (.c (.int .i64 0)), (.t 14)]⟩,
   ⟨(some 16), (some (11, false)), .un .not (.t 15)⟩,
   ⟨(some 17), none, .pick (.t 11) (.c (.bool true)) (.t 16)⟩] (some [1, 2, 17]))
 (.cond (.t 17)
  (.seq (.ops [⟨(some 4), none, .move (.c (.pointer none))⟩,
    ⟨(some 5), none, .move (.c (.int .i64 1))⟩] (some [4, 5]))
  .ret)
  .skip))
 (.seq (.ops [⟨(some 19), none, .fieldAddr 1 (.t 2)⟩,
   ⟨(some 20), none, .load false 1 (.t 19)⟩,
   ⟨(some 21), none, .move (.t 1)⟩,
   ⟨(some 22), none, .call (.c (.func (.func 126) #[] #[])) [(.t 20), (.t 21)]⟩,
   ⟨(some 18), none, .move (.t 22)⟩,
   ⟨(some 23), none, .extract (.t 18) 0⟩,
   ⟨(some 24), none, .extract (.t 18) 1⟩,
   ⟨(some 6), none, .move (.t 23)⟩,
   ⟨(some 7), none, .move (.t 24)⟩] (some [2, 6, 7]))
 (.seq (.seq (.ops [⟨(some 25), none, .move (.t 7)⟩,
   ⟨(some 26), none, .bin .neq 28 (.t 25) (.c (.int .i64 0))⟩] (some [2, 6, 7, 26]))
 (.cond (.t 26)
  (.seq (.ops [⟨(some 27), none, .move (.t 7)⟩,
    ⟨(some 4), none, .move (.c (.pointer none))⟩,
    ⟨(some 5), none, .move (.t 27)⟩] (some [4, 5]))
  .ret)
  .skip))
 (.seq (.ops [⟨(some 28), none, .fieldAddr 0 (.t 2)⟩,
   ⟨(some 29), none, .load false 1 (.t 28)⟩,
   ⟨(some 30), none, .call (.c (.func (.func 59) #[] #[])) [(.t 29)]⟩,
   ⟨(some 31), none, .fieldAddr 0 (.t 2)⟩,
   ⟨none, none, .store 1 (.t 31) (.t 30)⟩] (some [2, 6]))
 (.seq (.opsd [(0, 0, ⟨(some 32), none, .load true 4 (.t 2)⟩),
   (1, 0, ⟨(some 33), none, .move (.t 6)⟩),
   (2, 0, ⟨(some 34), none, .call (.c (.func (.func 127) #[] #[])) []⟩),
   (3, 7, ⟨(some 35), none, .build [(.slice none 0 0), (.int .i64 0), (.int .i64 0), (.int .i64 0), (.pointer none), (.pointer none), (.slice none 0 0), (.slice none 0 0), (.int .i64 0), (.int .i64 0), (.int .i64 0)] [(0, 4), (4, 1), (5, 1), (6, 1), (7, 1), (8, 1), (9, 1), (10, 1)] [(0, (.t 32)), (1, (.t 33)), (2, (.t 34))]⟩),
   (4, 15, ⟨(some 36), none, .box (.t 35)⟩),
   (5, 31, ⟨(some 4), none, .move (.t 36)⟩),
   (6, 63, ⟨(some 5), none, .move (.c (.int .i64 0))⟩)] (some [4, 5]))
 .ret)))))), [.tmp 4, .tmp 5]⟩

theorem is95 : FnIs Tryz.prog 95 x95 := ⟨Tryz.f95, _, Tryz.func95, by kernel_rfl, rfl, by kernel_rfl, by decide, by kernel_rfl⟩

/-- cloisonne/record.must -/
def x96 : XDecl := .code ⟨1, 
 (.seq (.ops [⟨(some 2), none, .move (.t 0)⟩,
   ⟨(some 3), none, .un .not (.t 2)⟩] (some [3]))
 (.cond (.t 3)
  (.ops [⟨(some 4), none, .build [] [] []⟩,
    ⟨(some 5), none, .makeIface 204 (.t 4)⟩,
    ⟨none, none, .fail⟩] (some []))
  .skip)), []⟩

theorem is96 : FnIs Tryz.prog 96 x96 := ⟨Tryz.f96, _, Tryz.func96, by kernel_rfl, rfl, by kernel_rfl, by decide, by kernel_rfl⟩

/-- cloisonne/record.based -/
def x97 : XDecl := .code ⟨2, 
 (.seq (.ops [⟨(some 4), none, .move (.c (.bool false))⟩] (some [0, 1]))
 (.seq (.seq (.ops [⟨(some 7), none, .move (.t 1)⟩,
   ⟨(some 8), none, .len (.t 7)⟩,
   ⟨(some 9), none, .move (.c (.int .i64 0))⟩] (some [0, 1, 7, 8, 9]))
 (.block 0
  (.loop
   (.seq (.ops [⟨(some 10), none, .bin .lss 3 (.t 9) (.t 8)⟩] (some [0, 1, 7, 8, 9, 10]))
   (.seq (.cond (.t 10)
    .skip
    (.exit 0))
   (.seq (.block 1
    (.seq (.ops [⟨(some 11), none, .move (.t 9)⟩,
      ⟨(some 12), none, .indexAddr 5 (.t 7) (.t 9)⟩,
      ⟨(some 13), none, .load true 5 (.t 12)⟩,
      ⟨(some 6), none, .alloc [(.string .empty), (.int .i64 0), (.bool false), (.string .empty), (.int .u64 0)]⟩,
      ⟨(some 5), none, .move (.t 11)⟩,
      ⟨none, none, .store 5 (.t 6) (.t 13)⟩] (some [0, 1, 5, 6, 7, 8, 9]))
    (.seq (.opsd [(0, 0, ⟨(some 14), none, .fieldAddr 0 (.t 6)⟩),
      (1, 1, ⟨(some 15), none, .load false 1 (.t 14)⟩),
      (2, 3, ⟨(some 16), none, .bin .eql 9 (.t 15) (.c (.string .empty))⟩),
      (3, 7, ⟨(some 17), none, .move (.t 16)⟩),
      (4, 15, ⟨(some 18), (some (17, false)), .fieldAddr 0 (.t 6)⟩),
      (5, 31, ⟨(some 19), (some (17, false)), .load false 1 (.t 18)⟩),
      (6, 63, ⟨(some 20), (some (17, false)), .calcB .len [9] 3 [(.t 19)]⟩),
      (7, 127, ⟨(some 21), (some (17, false)), .bin .gtr 3 (.t 20) (.c (.int .i64 32))⟩),
      (8, 255, ⟨(some 22), none, .pick (.t 17) (.c (.bool true)) (.t 21)⟩),
      (9, 511, ⟨(some 23), none, .move (.t 22)⟩),
      (10, 1023, ⟨(some 24), (some (23, false)), .fieldAddr 1 (.t 6)⟩),
      (11, 2047, ⟨(some 25), (some (23, false)), .load false 1 (.t 24)⟩),
      (12, 4095, ⟨(some 26), (some (23, false)), .bin .lss 3 (.t 25) (.c (.int .i64 1))⟩),
      (13, 8191, ⟨(some 27), none, .pick (.t 23) (.c (.bool true)) (.t 26)⟩),
      (14, 16383, ⟨(some 28), none, .move (.t 27)⟩),
      (15, 32767, ⟨(some 29), (some (28, false)), .fieldAddr 1 (.t 6)⟩),
      (16, 65535, ⟨(some 30), (some (28, false)), .load false 1 (.t 29)⟩),
      (17, 32767, ⟨(some 31), (some (28, false)), .move (.t 0)⟩),
      (18, 262143, ⟨(some 32), (some (28, false)), .bin .gtr 3 (.t 30) (.t 31)⟩),
      (19, 524287, ⟨(some 33), none, .pick (.t 28) (.c (.bool true)) (.t 32)⟩),
      (20, 1048575, ⟨(some 34), none, .move (.t 33)⟩),
      (21, 2097151, ⟨(some 35), (some (34, false)), .fieldAddr 2 (.t 6)⟩),
      (22, 4194303, ⟨(some 36), (some (34, false)), .load true 3 (.t 35)⟩),
      (23, 8388607, ⟨(some 37), (some (34, false)), .call (.c (.func (.func 77) #[] #[])) [(.t 36)]⟩),
      (24, 16777215, ⟨(some 38), (some (34, false)), .un .not (.t 37)⟩),
      (25, 33554431, ⟨(some 39), none, .pick (.t 34) (.c (.bool true)) (.t 38)⟩),
      (26, 67108863, ⟨(some 40), none, .move (.t 39)⟩),
      (27, 134217727, ⟨(some 41), (some (40, false)), .move (.t 5)⟩),
      (28, 268435455, ⟨(some 42), (some (40, false)), .bin .gtr 3 (.t 41) (.c (.int .i64 0))⟩),
      (29, 536870911, ⟨(some 43), (some (40, false)), .move (.t 42)⟩),
      (30, 1073741823, ⟨(some 44), (some (43, true)), .move (.t 1)⟩),
      (31, 1073741823, ⟨(some 45), (some (43, true)), .move (.t 5)⟩),
      (32, 3221225471, ⟨(some 46), (some (43, true)), .bin .sub 3 (.t 45) (.c (.int .i64 1))⟩),
      (33, 8589934591, ⟨(some 47), (some (43, true)), .indexAddr 5 (.t 44) (.t 46)⟩),
      (34, 17179869183, ⟨(some 48), (some (43, true)), .fieldAddr 0 (.t 47)⟩),
      (35, 34359738367, ⟨(some 49), (some (43, true)), .load false 1 (.t 48)⟩),
      (36, 1073741823, ⟨(some 50), (some (43, true)), .fieldAddr 0 (.t 6)⟩),
      (37, 69793218559, ⟨(some 51), (some (43, true)), .load false 1 (.t 50)⟩),
      (38, 274877906943, ⟨(some 52), (some (43, true)), .bin .geq 9 (.t 49) (.t 51)⟩),
      (39, 549755813887, ⟨(some 53), (some (40, false)), .pick (.t 43) (.t 52) (.c (.bool false))⟩),
      (40, 1099511627775, ⟨(some 54), none, .pick (.t 40) (.c (.bool true)) (.t 53)⟩)] (some [0, 1, 7, 8, 9, 54]))
    (.cond (.t 54)
     (.seq (.ops [⟨(some 4), none, .move (.c (.bool false))⟩] (some [4]))
     .ret)
     .skip))))
   (.ops [⟨(some 55), none, .bin .add 3 (.t 9) (.c (.int .i64 1))⟩,
     ⟨(some 9), none, .move (.t 55)⟩] (some [0, 1, 7, 8, 9]))))))))
 (.seq (.ops [⟨(some 56), none, .move (.t 0)⟩,
   ⟨(some 57), none, .bin .geq 3 (.t 56) (.c (.int .i64 0))⟩,
   ⟨(some 58), none, .move (.t 57)⟩,
   ⟨(some 59), (some (58, true)), .move (.t 0)⟩,
   ⟨(some 60), (some (58, true)), .bin .leq 3 (.t 59) (.c (.int .i64 1073741824))⟩,
   ⟨(some 61), none, .pick (.t 58) (.t 60) (.c (.bool false))⟩,
   ⟨(some 4), none, .move (.t 61)⟩] (some [4]))
 .ret))), [.tmp 4]⟩

theorem is97 : FnIs Tryz.prog 97 x97 := ⟨Tryz.f97, _, Tryz.func97, by kernel_rfl, rfl, by kernel_rfl, by decide, by kernel_rfl⟩

/-- cloisonne/record.bytes -/
def x98 : XDecl := .code ⟨2, 
 (.seq (.ops [⟨(some 2), none, .box (.t 0)⟩,
   ⟨(some 4), none, .move (.c (.string .empty))⟩] (some [1, 2]))
 (.seq (.seq (.ops [⟨(some 7), none, .move (.t 1)⟩] (some [2, 7]))
 (.cond (.t 7)
  (.seq (.ops [⟨(some 4), none, .move (.c (.string .empty))⟩] (some [4]))
  .ret)
  .skip))
 (.seq (.ops [⟨(some 9), none, .load true 3 (.t 2)⟩,
   ⟨(some 10), none, .call (.c (.func (.func 128) #[] #[])) [(.t 9)]⟩,
   ⟨(some 8), none, .move (.t 10)⟩,
   ⟨(some 11), none, .extract (.t 8) 0⟩,
   ⟨(some 12), none, .extract (.t 8) 1⟩,
   ⟨(some 5), none, .move (.t 11)⟩,
   ⟨(some 6), none, .move (.t 12)⟩] (some [5, 6]))
 (.seq (.ops [⟨(some 13), none, .move (.t 6)⟩,
   ⟨(some 14), none, .bin .eql 28 (.t 13) (.c (.int .i64 0))⟩,
   ⟨(some 15), none, .call (.c (.func (.func 96) #[] #[])) [(.t 14)]⟩] (some [5]))
 (.seq (.ops [⟨(some 16), none, .move (.t 5)⟩,
   ⟨(some 4), none, .move (.t 16)⟩] (some [4]))
 .ret))))), [.tmp 4]⟩

theorem is98 : FnIs Tryz.prog 98 x98 := ⟨Tryz.f98, _, Tryz.func98, by kernel_rfl, rfl, by kernel_rfl, by decide, by kernel_rfl⟩

/-- (*cloisonne/room.Room).Commit -/
def x102 : XDecl := .code ⟨3, 
 (.seq (.ops [⟨(some 6), none, .move (.c (.int .i64 0))⟩,
   ⟨(some 7), none, .move (.c (.int .i64 0))⟩] (some [0, 1, 2]))
 (.seq (.block 0
  (.seq (.ops [⟨(some 15), none, .move (.t 0)⟩,
    ⟨(some 16), none, .isNil .ptr false (.t 15)⟩,
    ⟨(some 14), none, .move (.t 16)⟩] (some [0, 1, 2, 14]))
  (.cond (.t 14)
   (.seq (.ops [⟨(some 6), none, .move (.c (.int .i64 0))⟩,
     ⟨(some 7), none, .move (.c (.int .i64 2))⟩] (some [6, 7]))
   .ret)
   (.seq (.ops [⟨(some 18), none, .move (.t 1)⟩,
     ⟨(some 19), none, .call (.c (.func (.func 51) #[] #[])) [(.t 18)]⟩,
     ⟨(some 20), none, .un .not (.t 19)⟩,
     ⟨(some 17), none, .move (.t 20)⟩] (some [0, 1, 2, 17]))
   (.cond (.t 17)
    (.seq (.ops [⟨(some 6), none, .move (.c (.int .i64 0))⟩,
      ⟨(some 7), none, .move (.c (.int .i64 1))⟩] (some [6, 7]))
    .ret)
    .skip)))))
 (.seq (.seq (.ops [⟨(some 21), none, .move (.t 0)⟩,
   ⟨(some 22), none, .move (.t 1)⟩,
   ⟨(some 23), none, .call (.c (.func (.func 132) #[] #[])) [(.t 21), (.t 22)]⟩,
   ⟨(some 8), none, .move (.t 23)⟩] (some [0, 1, 2, 8]))
 (.seq (.ops [⟨(some 24), none, .move (.t 8)⟩,
   ⟨(some 25), none, .bin .neq 28 (.t 24) (.c (.int .i64 0))⟩] (some [0, 1, 2, 8, 25]))
 (.cond (.t 25)
  (.seq (.ops [⟨(some 26), none, .move (.t 8)⟩,
    ⟨(some 6), none, .move (.c (.int .i64 0))⟩,
    ⟨(some 7), none, .move (.t 26)⟩] (some [6, 7]))
  .ret)
  .skip)))
 (.seq (.ops [⟨(some 28), none, .move (.t 0)⟩,
   ⟨(some 29), none, .nilCheck (.t 28)⟩,
   ⟨(some 30), none, .fieldAddr 4 (.t 29)⟩,
   ⟨(some 31), none, .load false 1 (.t 30)⟩,
   ⟨(some 32), none, .move (.t 2)⟩,
   ⟨(some 33), none, .call (.c (.func (.func 133) #[] #[])) [(.t 31), (.t 32)]⟩,
   ⟨(some 27), none, .move (.t 33)⟩,
   ⟨(some 34), none, .extract (.t 27) 0⟩,
   ⟨(some 35), none, .extract (.t 27) 1⟩,
   ⟨(some 9), none, .move (.t 34)⟩,
   ⟨(some 10), none, .move (.t 35)⟩] (some [0, 1, 9, 10]))
 (.seq (.seq (.ops [⟨(some 36), none, .move (.t 10)⟩,
   ⟨(some 37), none, .bin .neq 28 (.t 36) (.c (.int .i64 0))⟩] (some [0, 1, 9, 10, 37]))
 (.cond (.t 37)
  (.seq (.ops [⟨(some 38), none, .move (.t 10)⟩,
    ⟨(some 6), none, .move (.c (.int .i64 0))⟩,
    ⟨(some 7), none, .move (.t 38)⟩] (some [6, 7]))
  .ret)
  .skip))
 (.seq (.seq (.ops [⟨(some 39), none, .move (.t 1)⟩,
   ⟨(some 40), none, .len (.t 39)⟩,
   ⟨(some 41), none, .move (.c (.int .i64 0))⟩] (some [0, 9, 39, 40, 41]))
 (.block 1
  (.loop
   (.seq (.ops [⟨(some 42), none, .bin .lss 3 (.t 41) (.t 40)⟩] (some [0, 9, 39, 40, 41, 42]))
   (.seq (.cond (.t 42)
    .skip
    (.exit 1))
   (.seq (.block 2
    (.seq (.ops [⟨(some 43), none, .indexAddr 5 (.t 39) (.t 41)⟩,
      ⟨(some 44), none, .load true 5 (.t 43)⟩,
      ⟨(some 12), none, .alloc [(.string .empty), (.bool false), (.bool false), (.string .empty), (.int .u64 0)]⟩,
      ⟨none, none, .store 5 (.t 12) (.t 44)⟩] (some [0, 9, 12, 39, 40, 41]))
    (.seq (.ops [⟨(some 45), none, .move (.t 0)⟩,
      ⟨(some 46), none, .fieldAddr 0 (.t 12)⟩,
      ⟨(some 47), none, .load false 1 (.t 46)⟩,
      ⟨(some 48), none, .move (.t 9)⟩,
      ⟨(some 49), none, .fieldAddr 1 (.t 12)⟩,
      ⟨(some 50), none, .load false 1 (.t 49)⟩,
      ⟨(some 51), none, .fieldAddr 2 (.t 12)⟩,
      ⟨(some 52), none, .load true 3 (.t 51)⟩,
      ⟨(some 53), none, .build [(.int .i64 0), (.bool false), (.bool false), (.string .empty), (.int .u64 0)] [(0, 1), (1, 1), (2, 3)] [(0, (.t 48)), (1, (.t 50)), (2, (.t 52))]⟩,
      ⟨(some 54), none, .call (.c (.func (.func 130) #[] #[])) [(.t 45), (.t 47), (.t 53)]⟩,
      ⟨(some 13), none, .move (.t 54)⟩] (some [0, 9, 13, 39, 40, 41]))
    (.seq (.ops [⟨(some 55), none, .move (.t 13)⟩,
      ⟨(some 56), none, .bin .neq 28 (.t 55) (.c (.int .i64 0))⟩] (some [0, 9, 13, 39, 40, 41, 56]))
    (.cond (.t 56)
     (.seq (.ops [⟨(some 57), none, .move (.t 13)⟩,
       ⟨(some 6), none, .move (.c (.int .i64 0))⟩,
       ⟨(some 7), none, .move (.t 57)⟩] (some [6, 7]))
     .ret)
     .skip)))))
   (.ops [⟨(some 58), none, .bin .add 3 (.t 41) (.c (.int .i64 1))⟩,
     ⟨(some 41), none, .move (.t 58)⟩] (some [0, 9, 39, 40, 41]))))))))
 (.seq (.ops [⟨(some 59), none, .move (.t 9)⟩,
   ⟨(some 6), none, .move (.t 59)⟩,
   ⟨(some 7), none, .move (.c (.int .i64 0))⟩] (some [6, 7]))
 .ret))))))), [.tmp 6, .tmp 7]⟩

theorem is102 : FnIs Tryz.prog 102 x102 := ⟨Tryz.f102, _, Tryz.func102, by kernel_rfl, rfl, by kernel_rfl, by decide, by kernel_rfl⟩

/-- (*cloisonne/seglog.Writer).sector -/
def x106 : XDecl := .code ⟨1, 
 (.seq (.ops [⟨(some 2), none, .move (.c (.int .i64 0))⟩] (some [0]))
 (.seq (.opsd [(0, 0, ⟨(some 6), none, .move (.t 0)⟩),
   (1, 1, ⟨(some 7), none, .nilCheck (.t 6)⟩),
   (2, 3, ⟨(some 8), none, .fieldAddr 2 (.t 7)⟩),
   (3, 7, ⟨(some 9), none, .load false 1 (.t 8)⟩),
   (4, 0, ⟨(some 10), none, .move (.t 0)⟩),
   (5, 16, ⟨(some 11), none, .nilCheck (.t 10)⟩),
   (6, 48, ⟨(some 12), none, .fieldAddr 3 (.t 11)⟩),
   (7, 112, ⟨(some 13), none, .load false 1 (.t 12)⟩),
   (8, 0, ⟨(some 14), none, .move (.t 0)⟩),
   (9, 256, ⟨(some 15), none, .nilCheck (.t 14)⟩),
   (10, 768, ⟨(some 16), none, .fieldAddr 5 (.t 15)⟩),
   (11, 1792, ⟨(some 17), none, .load false 1 (.t 16)⟩),
   (12, 4080, ⟨(some 18), none, .bin .add 3 (.t 13) (.t 17)⟩),
   (13, 0, ⟨(some 19), none, .move (.t 0)⟩),
   (14, 8192, ⟨(some 20), none, .nilCheck (.t 19)⟩),
   (15, 24576, ⟨(some 21), none, .fieldAddr 0 (.t 20)⟩),
   (16, 57344, ⟨(some 22), none, .load false 1 (.t 21)⟩),
   (17, 122880, ⟨(some 23), none, .nilCheck (.t 22)⟩),
   (18, 253952, ⟨(some 24), none, .fieldAddr 5 (.t 23)⟩),
   (19, 516096, ⟨(some 25), none, .load false 1 (.t 24)⟩),
   (20, 0, ⟨(some 26), none, .move (.t 0)⟩),
   (21, 1048576, ⟨(some 27), none, .nilCheck (.t 26)⟩),
   (22, 3145728, ⟨(some 28), none, .fieldAddr 5 (.t 27)⟩),
   (23, 7340032, ⟨(some 29), none, .load false 1 (.t 28)⟩),
   (24, 0, ⟨(some 30), none, .move (.t 0)⟩),
   (25, 16777216, ⟨(some 31), none, .nilCheck (.t 30)⟩),
   (26, 50331648, ⟨(some 32), none, .fieldAddr 4 (.t 31)⟩),
   (27, 117440512, ⟨(some 33), none, .load false 1 (.t 32)⟩),
   (28, 251658240, ⟨(some 34), none, .len (.t 33)⟩),
   (29, 536870911, ⟨(some 35), none, .build [(.int .i64 0), (.int .i64 0), (.int .i64 0), (.int .i64 0), (.int .i64 0)] [(0, 1), (1, 1), (2, 1), (3, 1), (4, 1)] [(0, (.t 9)), (1, (.t 18)), (2, (.t 25)), (3, (.t 29)), (4, (.t 34))]⟩),
   (30, 0, ⟨(some 3), none, .alloc [(.int .i64 0), (.int .i64 0), (.int .i64 0), (.int .i64 0), (.int .i64 0)]⟩),
   (31, 2147483647, ⟨none, none, .store 5 (.t 3) (.t 35)⟩)] (some [0, 3]))
 (.seq (.opsd [(0, 0, ⟨(some 37), none, .load true 5 (.t 3)⟩),
   (1, 0, ⟨(some 38), none, .move (.t 0)⟩),
   (2, 2, ⟨(some 39), none, .nilCheck (.t 38)⟩),
   (3, 6, ⟨(some 40), none, .fieldAddr 4 (.t 39)⟩),
   (4, 14, ⟨(some 41), none, .load false 1 (.t 40)⟩),
   (5, 0, ⟨(some 42), none, .move (.t 0)⟩),
   (6, 32, ⟨(some 43), none, .nilCheck (.t 42)⟩),
   (7, 96, ⟨(some 44), none, .fieldAddr 5 (.t 43)⟩),
   (8, 224, ⟨(some 45), none, .load false 1 (.t 44)⟩),
   (9, 510, ⟨(some 46), none, .indexAddr 1 (.t 41) (.t 45)⟩),
   (10, 1022, ⟨(some 47), none, .load false 1 (.t 46)⟩),
   (11, 2047, ⟨(some 48), none, .call (.c (.func (.func 138) #[] #[])) [(.t 37), (.t 47)]⟩),
   (12, 4095, ⟨(some 36), none, .move (.t 48)⟩),
   (13, 8191, ⟨(some 49), none, .extract (.t 36) 0⟩),
   (14, 8191, ⟨(some 50), none, .extract (.t 36) 1⟩),
   (15, 16383, ⟨(some 4), none, .move (.t 49)⟩),
   (16, 65535, ⟨(some 5), none, .move (.t 50)⟩)] (some [0, 3, 4, 5]))
 (.seq (.seq (.ops [⟨(some 51), none, .move (.t 5)⟩,
   ⟨(some 52), none, .bin .neq 28 (.t 51) (.c (.int .i64 0))⟩] (some [0, 3, 4, 5, 52]))
 (.cond (.t 52)
  (.seq (.ops [⟨(some 53), none, .move (.t 5)⟩,
    ⟨(some 2), none, .move (.t 53)⟩] (some [2]))
  .ret)
  .skip))
 (.seq (.opsd [(0, 0, ⟨(some 54), none, .move (.t 0)⟩),
   (1, 1, ⟨(some 55), none, .nilCheck (.t 54)⟩),
   (2, 3, ⟨(some 56), none, .fieldAddr 0 (.t 55)⟩),
   (3, 7, ⟨(some 57), none, .load false 1 (.t 56)⟩),
   (4, 15, ⟨(some 58), none, .nilCheck (.t 57)⟩),
   (5, 31, ⟨(some 59), none, .fieldAddr 0 (.t 58)⟩),
   (6, 63, ⟨(some 60), none, .load false 1 (.t 59)⟩),
   (7, 0, ⟨(some 61), none, .move (.t 0)⟩),
   (8, 128, ⟨(some 62), none, .nilCheck (.t 61)⟩),
   (9, 384, ⟨(some 63), none, .fieldAddr 1 (.t 62)⟩),
   (10, 896, ⟨(some 64), none, .load false 1 (.t 63)⟩),
   (11, 0, ⟨(some 65), none, .fieldAddr 1 (.t 3)⟩),
   (12, 2048, ⟨(some 66), none, .load false 1 (.t 65)⟩),
   (13, 0, ⟨(some 67), none, .move (.t 4)⟩),
   (14, 16383, ⟨(some 68), none, .call (.c (.func (.func 139) #[] #[])) [(.t 60), (.t 64), (.t 66), (.t 67)]⟩),
   (15, 32767, ⟨(some 2), none, .move (.t 68)⟩)] (some [2]))
 .ret))))), [.tmp 2]⟩

theorem is106 : FnIs Tryz.prog 106 x106 := ⟨Tryz.f106, _, Tryz.func106, by kernel_rfl, rfl, by kernel_rfl, by decide, by kernel_rfl⟩

/-- (*cloisonne/extent.World).Flush -/
def x107 : XDecl := .code ⟨2, 
 (.seq (.ops [⟨(some 4), none, .move (.c (.int .i64 0))⟩] (some [0, 1]))
 (.seq (.seq (.ops [⟨(some 8), none, .move (.t 0)⟩,
   ⟨(some 9), none, .move (.t 1)⟩,
   ⟨(some 10), none, .call (.c (.func (.func 140) #[] #[])) [(.t 8), (.t 9), (.c (.int .i64 0))]⟩,
   ⟨(some 5), none, .move (.t 10)⟩] (some [0, 1, 5]))
 (.seq (.ops [⟨(some 11), none, .move (.t 5)⟩,
   ⟨(some 12), none, .bin .neq 28 (.t 11) (.c (.int .i64 0))⟩] (some [0, 1, 5, 12]))
 (.cond (.t 12)
  (.seq (.ops [⟨(some 13), none, .move (.t 5)⟩,
    ⟨(some 4), none, .move (.t 13)⟩] (some [4]))
  .ret)
  .skip)))
 (.seq (.seq (.ops [⟨(some 14), none, .move (.t 0)⟩,
   ⟨(some 15), none, .nilCheck (.t 14)⟩,
   ⟨(some 16), none, .fieldAddr 3 (.t 15)⟩,
   ⟨(some 17), none, .load false 1 (.t 16)⟩,
   ⟨(some 18), none, .move (.t 1)⟩,
   ⟨(some 19), none, .indexAddr 1 (.t 17) (.t 18)⟩,
   ⟨(some 20), none, .load false 1 (.t 19)⟩,
   ⟨(some 21), none, .mapRange (.t 20)⟩] (some [0, 1, 21]))
 (.block 0
  (.loop
   (.seq (.ops [⟨(some 22), none, .mapNext (.t 21)⟩,
     ⟨(some 23), none, .extract (.t 22) 0⟩] (some [0, 1, 21, 23]))
   (.seq (.cond (.t 23)
    .skip
    (.exit 0))
   (.block 1
    (.seq (.ops [⟨(some 24), none, .mapEntry (.t 21)⟩,
      ⟨(some 25), none, .extract (.t 24) 0⟩,
      ⟨(some 26), none, .extract (.t 24) 1⟩,
      ⟨(some 6), none, .move (.t 25)⟩,
      ⟨(some 7), none, .move (.t 26)⟩] (some [0, 1, 6, 7, 21]))
    (.ops [⟨(some 27), none, .move (.t 0)⟩,
      ⟨(some 28), none, .nilCheck (.t 27)⟩,
      ⟨(some 29), none, .fieldAddr 2 (.t 28)⟩,
      ⟨(some 30), none, .load false 1 (.t 29)⟩,
      ⟨(some 31), none, .move (.t 1)⟩,
      ⟨(some 32), none, .indexAddr 1 (.t 30) (.t 31)⟩,
      ⟨(some 33), none, .load false 1 (.t 32)⟩,
      ⟨(some 34), none, .move (.t 6)⟩,
      ⟨(some 35), none, .move (.t 7)⟩,
      ⟨(some 36), none, .indexAddr 1 (.t 33) (.t 34)⟩,
      ⟨none, none, .store 1 (.t 36) (.t 35)⟩] (some [0, 1, 21])))))))))
 (.seq (.ops [⟨(some 37), none, .move (.t 0)⟩,
   ⟨(some 38), none, .nilCheck (.t 37)⟩,
   ⟨(some 39), none, .fieldAddr 3 (.t 38)⟩,
   ⟨(some 40), none, .load false 1 (.t 39)⟩,
   ⟨(some 41), none, .move (.t 1)⟩,
   ⟨(some 42), none, .indexAddr 1 (.t 40) (.t 41)⟩,
   ⟨(some 43), none, .load false 1 (.t 42)⟩,
   ⟨none, none, .mapClear (.t 43)⟩] (some []))
 (.seq (.ops [⟨(some 4), none, .move (.c (.int .i64 0))⟩] (some [4]))
 .ret))))), [.tmp 4]⟩

theorem is107 : FnIs Tryz.prog 107 x107 := ⟨Tryz.f107, _, Tryz.func107, by kernel_rfl, rfl, by kernel_rfl, by decide, by kernel_rfl⟩

/-- (*cloisonne/seglog.Writer).install -/
def x108 : XDecl := .code ⟨1, 
 (.seq (.ops [⟨(some 2), none, .move (.t 0)⟩,
   ⟨(some 3), none, .nilCheck (.t 2)⟩,
   ⟨(some 4), none, .fieldAddr 6 (.t 3)⟩,
   ⟨none, none, .store 1 (.t 4) (.c (.bool true))⟩] (some [0]))
 (.seq (.ops [⟨(some 5), none, .move (.t 0)⟩,
   ⟨(some 6), none, .nilCheck (.t 5)⟩,
   ⟨(some 7), none, .fieldAddr 0 (.t 6)⟩,
   ⟨(some 8), none, .load false 1 (.t 7)⟩,
   ⟨(some 9), none, .nilCheck (.t 8)⟩,
   ⟨(some 10), none, .fieldAddr 6 (.t 9)⟩,
   ⟨none, none, .store 1 (.t 10) (.c (.pointer none))⟩] (some [0]))
 (.opsd [(0, 0, ⟨(some 11), none, .move (.t 0)⟩),
   (1, 1, ⟨(some 12), none, .nilCheck (.t 11)⟩),
   (2, 3, ⟨(some 13), none, .fieldAddr 0 (.t 12)⟩),
   (3, 7, ⟨(some 14), none, .load false 1 (.t 13)⟩),
   (4, 0, ⟨(some 15), none, .move (.t 0)⟩),
   (5, 16, ⟨(some 16), none, .nilCheck (.t 15)⟩),
   (6, 48, ⟨(some 17), none, .fieldAddr 0 (.t 16)⟩),
   (7, 112, ⟨(some 18), none, .load false 1 (.t 17)⟩),
   (8, 0, ⟨(some 19), none, .move (.t 0)⟩),
   (9, 256, ⟨(some 20), none, .nilCheck (.t 19)⟩),
   (10, 768, ⟨(some 21), none, .fieldAddr 0 (.t 20)⟩),
   (11, 1792, ⟨(some 22), none, .load false 1 (.t 21)⟩),
   (12, 0, ⟨(some 23), none, .move (.t 0)⟩),
   (13, 4096, ⟨(some 24), none, .nilCheck (.t 23)⟩),
   (14, 12288, ⟨(some 25), none, .fieldAddr 1 (.t 24)⟩),
   (15, 28672, ⟨(some 26), none, .load false 1 (.t 25)⟩),
   (16, 0, ⟨(some 27), none, .move (.t 0)⟩),
   (17, 65536, ⟨(some 28), none, .nilCheck (.t 27)⟩),
   (18, 196608, ⟨(some 29), none, .fieldAddr 2 (.t 28)⟩),
   (19, 458752, ⟨(some 30), none, .load false 1 (.t 29)⟩),
   (20, 0, ⟨(some 31), none, .move (.t 0)⟩),
   (21, 1048576, ⟨(some 32), none, .nilCheck (.t 31)⟩),
   (22, 3145728, ⟨(some 33), none, .fieldAddr 3 (.t 32)⟩),
   (23, 7340032, ⟨(some 34), none, .load false 1 (.t 33)⟩),
   (24, 0, ⟨(some 35), none, .move (.t 0)⟩),
   (25, 16777216, ⟨(some 36), none, .nilCheck (.t 35)⟩),
   (26, 50331648, ⟨(some 37), none, .fieldAddr 4 (.t 36)⟩),
   (27, 117440512, ⟨(some 38), none, .load false 1 (.t 37)⟩),
   (28, 251658240, ⟨(some 39), none, .len (.t 38)⟩),
   (29, 535822336, ⟨(some 40), none, .bin .add 3 (.t 34) (.t 39)⟩),
   (30, 268435455, ⟨(some 41), none, .nilCheck (.t 14)⟩),
   (31, 1342177279, ⟨(some 42), none, .fieldAddr 2 (.t 41)⟩),
   (32, 3489660927, ⟨none, none, .store 1 (.t 42) (.t 26)⟩),
   (33, 7784628223, ⟨(some 43), none, .nilCheck (.t 18)⟩),
   (34, 16374562815, ⟨(some 44), none, .fieldAddr 3 (.t 43)⟩),
   (35, 33554431999, ⟨none, none, .store 1 (.t 44) (.t 30)⟩),
   (36, 68719476735, ⟨(some 45), none, .nilCheck (.t 22)⟩),
   (37, 137438953471, ⟨(some 46), none, .fieldAddr 4 (.t 45)⟩),
   (38, 274877906943, ⟨none, none, .store 1 (.t 46) (.t 40)⟩)] (some [])))), []⟩

theorem is108 : FnIs Tryz.prog 108 x108 := ⟨Tryz.f108, _, Tryz.func108, by kernel_rfl, rfl, by kernel_rfl, by decide, by kernel_rfl⟩

/-- cmp.isNaN[int] -/
def x111 : XDecl := .code ⟨1, 
 (.seq (.ops [⟨(some 2), none, .move (.c (.bool false))⟩] (some [0]))
 (.seq (.ops [⟨(some 3), none, .move (.t 0)⟩,
   ⟨(some 4), none, .move (.t 0)⟩,
   ⟨(some 5), none, .bin .neq 3 (.t 3) (.t 4)⟩,
   ⟨(some 2), none, .move (.t 5)⟩] (some [2]))
 .ret)), [.tmp 2]⟩

theorem is111 : FnIs Tryz.prog 111 x111 := ⟨Tryz.f111, _, Tryz.func111, by kernel_rfl, rfl, by kernel_rfl, by decide, by kernel_rfl⟩

/-- (*cloisonne/extent.World).Read -/
def x113 : XDecl := .code ⟨3, 
 (.seq (.ops [⟨(some 6), none, .move (.c (.string .empty))⟩,
   ⟨(some 7), none, .move (.c (.int .i64 0))⟩] (some [0, 1, 2]))
 (.seq (.seq (.ops [⟨(some 11), none, .move (.t 0)⟩,
   ⟨(some 12), none, .move (.t 1)⟩,
   ⟨(some 13), none, .move (.t 2)⟩,
   ⟨(some 14), none, .call (.c (.func (.func 140) #[] #[])) [(.t 11), (.t 12), (.t 13)]⟩,
   ⟨(some 8), none, .move (.t 14)⟩] (some [0, 1, 2, 8]))
 (.seq (.ops [⟨(some 15), none, .move (.t 8)⟩,
   ⟨(some 16), none, .bin .neq 28 (.t 15) (.c (.int .i64 0))⟩] (some [0, 1, 2, 8, 16]))
 (.cond (.t 16)
  (.seq (.ops [⟨(some 17), none, .move (.t 8)⟩,
    ⟨(some 6), none, .move (.c (.string .empty))⟩,
    ⟨(some 7), none, .move (.t 17)⟩] (some [6, 7]))
  .ret)
  .skip)))
 (.seq (.seq (.ops [⟨(some 19), none, .move (.t 0)⟩,
   ⟨(some 20), none, .nilCheck (.t 19)⟩,
   ⟨(some 21), none, .fieldAddr 3 (.t 20)⟩,
   ⟨(some 22), none, .load false 1 (.t 21)⟩,
   ⟨(some 23), none, .move (.t 1)⟩,
   ⟨(some 24), none, .indexAddr 1 (.t 22) (.t 23)⟩,
   ⟨(some 25), none, .load false 1 (.t 24)⟩,
   ⟨(some 26), none, .move (.t 2)⟩,
   ⟨(some 27), none, .lookup true (.string .empty) true (.t 25) (.t 26)⟩,
   ⟨(some 18), none, .move (.t 27)⟩,
   ⟨(some 28), none, .extract (.t 18) 0⟩,
   ⟨(some 29), none, .extract (.t 18) 1⟩,
   ⟨(some 9), none, .move (.t 28)⟩,
   ⟨(some 10), none, .move (.t 29)⟩] (some [0, 1, 2, 9, 10]))
 (.seq (.ops [⟨(some 30), none, .move (.t 10)⟩] (some [0, 1, 2, 9, 30]))
 (.cond (.t 30)
  (.seq (.ops [⟨(some 31), none, .move (.t 9)⟩,
    ⟨(some 6), none, .move (.t 31)⟩,
    ⟨(some 7), none, .move (.c (.int .i64 0))⟩] (some [6, 7]))
  .ret)
  .skip)))
 (.seq (.ops [⟨(some 32), none, .move (.t 0)⟩,
   ⟨(some 33), none, .nilCheck (.t 32)⟩,
   ⟨(some 34), none, .fieldAddr 2 (.t 33)⟩,
   ⟨(some 35), none, .load false 1 (.t 34)⟩,
   ⟨(some 36), none, .move (.t 1)⟩,
   ⟨(some 37), none, .indexAddr 1 (.t 35) (.t 36)⟩,
   ⟨(some 38), none, .load false 1 (.t 37)⟩,
   ⟨(some 39), none, .move (.t 2)⟩,
   ⟨(some 40), none, .indexAddr 1 (.t 38) (.t 39)⟩,
   ⟨(some 41), none, .load false 1 (.t 40)⟩,
   ⟨(some 6), none, .move (.t 41)⟩,
   ⟨(some 7), none, .move (.c (.int .i64 0))⟩] (some [6, 7]))
 .ret)))), [.tmp 6, .tmp 7]⟩

theorem is113 : FnIs Tryz.prog 113 x113 := ⟨Tryz.f113, _, Tryz.func113, by kernel_rfl, rfl, by kernel_rfl, by decide, by kernel_rfl⟩

/-- cloisonne/sector.Unpack -/
def x114 : XDecl := .code ⟨1, 
 (.seq (.ops [⟨(some 2), none, .alloc [(.int .i64 0), (.int .i64 0), (.int .i64 0), (.int .i64 0), (.int .i64 0)]⟩,
   ⟨(some 3), none, .move (.c (.string .empty))⟩,
   ⟨(some 4), none, .move (.c (.int .i64 0))⟩] (some [0, 2]))
 (.seq (.seq (.ops [⟨(some 7), none, .move (.t 0)⟩,
   ⟨(some 8), none, .calcB .len [9] 3 [(.t 7)]⟩,
   ⟨(some 9), none, .bin .neq 3 (.t 8) (.c (.int .i64 64))⟩,
   ⟨(some 10), none, .move (.t 9)⟩,
   ⟨(some 11), (some (10, false)), .move (.t 0)⟩,
   ⟨(some 12), (some (10, false)), .index 9 (.t 11) (.c (.int .i64 0))⟩,
   ⟨(some 13), (some (10, false)), .bin .neq 5 (.t 12) (.c (.int .u8 193))⟩,
   ⟨(some 14), none, .pick (.t 10) (.c (.bool true)) (.t 13)⟩] (some [0, 2, 14]))
 (.cond (.t 14)
  (.seq (.ops [⟨(some 15), none, .build [(.int .i64 0), (.int .i64 0), (.int .i64 0), (.int .i64 0), (.int .i64 0)] [(0, 1), (1, 1), (2, 1), (3, 1), (4, 1)] []⟩,
    ⟨none, none, .store 5 (.t 2) (.t 15)⟩,
    ⟨(some 3), none, .move (.c (.string .empty))⟩,
    ⟨(some 4), none, .move (.c (.int .i64 4))⟩] (some [2, 3, 4]))
  .ret)
  .skip))
 (.seq (.opsd [(0, 0, ⟨(some 16), none, .move (.t 0)⟩),
   (1, 1, ⟨(some 17), none, .substr 9 (.t 16) (some (.c (.int .i64 1))) (some (.c (.int .i64 5)))⟩),
   (3, 0, ⟨(some 19), none, .move (.t 0)⟩),
   (4, 8, ⟨(some 20), none, .substr 9 (.t 19) (some (.c (.int .i64 5))) (some (.c (.int .i64 7)))⟩),
   (6, 0, ⟨(some 22), none, .move (.t 0)⟩),
   (7, 64, ⟨(some 23), none, .substr 9 (.t 22) (some (.c (.int .i64 7))) (some (.c (.int .i64 11)))⟩),
   (9, 0, ⟨(some 25), none, .move (.t 0)⟩),
   (10, 512, ⟨(some 26), none, .substr 9 (.t 25) (some (.c (.int .i64 11))) (some (.c (.int .i64 12)))⟩),
   (12, 0, ⟨(some 28), none, .move (.t 0)⟩),
   (13, 4096, ⟨(some 29), none, .substr 9 (.t 28) (some (.c (.int .i64 12))) (some (.c (.int .i64 13)))⟩),
   (16, 0, ⟨(some 5), none, .alloc [(.int .i64 0), (.int .i64 0), (.int .i64 0), (.int .i64 0), (.int .i64 0)]⟩),
   (2, 3, ⟨(some 18), none, .call (.c (.func (.func 145) #[] #[])) [(.t 17)]⟩),
   (5, 31, ⟨(some 21), none, .call (.c (.func (.func 145) #[] #[])) [(.t 20)]⟩),
   (8, 255, ⟨(some 24), none, .call (.c (.func (.func 145) #[] #[])) [(.t 23)]⟩),
   (11, 2047, ⟨(some 27), none, .call (.c (.func (.func 145) #[] #[])) [(.t 26)]⟩),
   (14, 16383, ⟨(some 30), none, .call (.c (.func (.func 145) #[] #[])) [(.t 29)]⟩),
   (15, 32767, ⟨(some 31), none, .build [(.int .i64 0), (.int .i64 0), (.int .i64 0), (.int .i64 0), (.int .i64 0)] [(0, 1), (1, 1), (2, 1), (3, 1), (4, 1)] [(0, (.t 18)), (1, (.t 21)), (2, (.t 24)), (3, (.t 27)), (4, (.t 30))]⟩),
   (17, 131071, ⟨none, none, .store 5 (.t 5) (.t 31)⟩)] (some [0, 2, 5]))
 (.seq (.ops [⟨(some 32), none, .move (.t 0)⟩,
   ⟨(some 33), none, .substr 9 (.t 32) (some (.c (.int .i64 13))) (some (.c (.int .i64 14)))⟩,
   ⟨(some 34), none, .call (.c (.func (.func 145) #[] #[])) [(.t 33)]⟩,
   ⟨(some 6), none, .move (.t 34)⟩] (some [0, 2, 5, 6]))
 (.seq (.seq (.ops [⟨(some 35), none, .load true 5 (.t 5)⟩,
   ⟨(some 36), none, .call (.c (.func (.func 146) #[] #[])) [(.t 35)]⟩,
   ⟨(some 37), none, .un .not (.t 36)⟩,
   ⟨(some 38), none, .move (.t 37)⟩,
   ⟨(some 39), (some (38, false)), .move (.t 6)⟩,
   ⟨(some 40), (some (38, false)), .bin .gtr 3 (.t 39) (.c (.int .i64 50))⟩,
   ⟨(some 41), none, .pick (.t 38) (.c (.bool true)) (.t 40)⟩,
   ⟨(some 42), none, .move (.t 41)⟩,
   ⟨(some 43), (some (42, false)), .move (.t 0)⟩,
   ⟨(some 44), (some (42, false)), .move (.t 6)⟩,
   ⟨(some 45), (some (42, false)), .bin .add 3 (.c (.int .i64 14)) (.t 44)⟩,
   ⟨(some 46), (some (42, false)), .substr 9 (.t 43) (some (.t 45)) none⟩,
   ⟨(some 47), (some (42, false)), .call (.c (.func (.func 147) #[] #[])) [(.t 46), (.c (.string ⟨#[0]⟩))]⟩,
   ⟨(some 48), (some (42, false)), .bin .neq 9 (.t 47) (.c (.string .empty))⟩,
   ⟨(some 49), none, .pick (.t 42) (.c (.bool true)) (.t 48)⟩] (some [0, 2, 5, 6, 49]))
 (.cond (.t 49)
  (.seq (.ops [⟨(some 50), none, .build [(.int .i64 0), (.int .i64 0), (.int .i64 0), (.int .i64 0), (.int .i64 0)] [(0, 1), (1, 1), (2, 1), (3, 1), (4, 1)] []⟩,
    ⟨none, none, .store 5 (.t 2) (.t 50)⟩,
    ⟨(some 3), none, .move (.c (.string .empty))⟩,
    ⟨(some 4), none, .move (.c (.int .i64 4))⟩] (some [2, 3, 4]))
  .ret)
  .skip))
 (.seq (.opsd [(0, 0, ⟨(some 51), none, .load true 5 (.t 5)⟩),
   (1, 0, ⟨(some 52), none, .move (.t 0)⟩),
   (2, 0, ⟨(some 53), none, .move (.t 6)⟩),
   (3, 4, ⟨(some 54), none, .bin .add 3 (.c (.int .i64 14)) (.t 53)⟩),
   (4, 14, ⟨(some 55), none, .substr 9 (.t 52) (some (.c (.int .i64 14))) (some (.t 54))⟩),
   (5, 1, ⟨none, none, .store 5 (.t 2) (.t 51)⟩),
   (6, 63, ⟨(some 3), none, .move (.t 55)⟩),
   (7, 127, ⟨(some 4), none, .move (.c (.int .i64 0))⟩)] (some [2, 3, 4]))
 .ret)))))), [.cell true 5 2, .tmp 3, .tmp 4]⟩

theorem is114 : FnIs Tryz.prog 114 x114 := ⟨Tryz.f114, _, Tryz.func114, by kernel_rfl, rfl, by kernel_rfl, by decide, by kernel_rfl⟩

/-- cloisonne/wire.Print -/
def x116 : XDecl := .code ⟨2, 
 (.seq (.ops [⟨(some 4), none, .move (.c (.string .empty))⟩,
   ⟨(some 5), none, .alloc [(.int .i64 0)]⟩] (some [0, 1, 5]))
 (.seq (.ops [⟨none, none, .dfr [(.t 5)]⟩] (some [0, 1, 5]))
 (.seq (.ops [⟨(some 13), none, .move (.t 0)⟩,
   ⟨(some 14), none, .call (.c (.func (.func 152) #[] #[])) [(.t 13)]⟩,
   ⟨(some 12), none, .move (.t 14)⟩,
   ⟨(some 15), none, .extract (.t 12) 0⟩,
   ⟨(some 16), none, .extract (.t 12) 1⟩,
   ⟨(some 17), none, .extract (.t 12) 2⟩,
   ⟨(some 6), none, .move (.t 15)⟩,
   ⟨(some 7), none, .move (.t 16)⟩,
   ⟨(some 8), none, .move (.t 17)⟩] (some [1, 5, 6, 7, 8]))
 (.seq (.ops [⟨(some 18), none, .move (.t 8)⟩,
   ⟨(some 19), none, .move (.t 18)⟩,
   ⟨(some 20), (some (19, true)), .move (.t 6)⟩,
   ⟨(some 21), (some (19, true)), .len (.t 20)⟩,
   ⟨(some 22), (some (19, true)), .move (.t 1)⟩,
   ⟨(some 23), (some (19, true)), .len (.t 22)⟩,
   ⟨(some 24), (some (19, true)), .bin .eql 3 (.t 21) (.t 23)⟩,
   ⟨(some 25), none, .pick (.t 19) (.t 24) (.c (.bool false))⟩,
   ⟨(some 26), none, .call (.c (.func (.func 153) #[] #[])) [(.t 25), (.c (.int .i64 1))]⟩] (some [1, 5, 6, 7]))
 (.seq (.ops [⟨(some 27), none, .build [(.slice none 0 0)] [(0, 1)] []⟩,
   ⟨(some 28), none, .box (.t 27)⟩,
   ⟨(some 9), none, .move (.t 28)⟩] (some [1, 5, 6, 7, 9]))
 (.seq (.seq (.ops [⟨(some 29), none, .move (.t 1)⟩,
   ⟨(some 30), none, .len (.t 29)⟩,
   ⟨(some 31), none, .move (.c (.int .i64 0))⟩] (some [5, 6, 7, 9, 29, 30, 31]))
 (.block 0
  (.loop
   (.seq (.ops [⟨(some 32), none, .bin .lss 3 (.t 31) (.t 30)⟩] (some [5, 6, 7, 9, 29, 30, 31, 32]))
   (.seq (.cond (.t 32)
    .skip
    (.exit 0))
   (.seq (.block 1
    (.seq (.ops [⟨(some 33), none, .move (.t 31)⟩,
      ⟨(some 34), none, .indexAddr 4 (.t 29) (.t 31)⟩,
      ⟨(some 35), none, .load true 4 (.t 34)⟩,
      ⟨(some 11), none, .alloc [(.int .u64 0), (.string .empty), (.slice none 0 0), (.slice none 0 0)]⟩,
      ⟨(some 10), none, .move (.t 33)⟩,
      ⟨none, none, .store 4 (.t 11) (.t 35)⟩] (some [5, 6, 7, 9, 10, 11, 29, 30, 31]))
    (.seq (.ops [⟨(some 36), none, .move (.t 7)⟩,
      ⟨(some 37), none, .move (.t 10)⟩,
      ⟨(some 38), none, .indexAddr 1 (.t 36) (.t 37)⟩,
      ⟨(some 39), none, .load false 1 (.t 38)⟩] (some [5, 6, 7, 9, 10, 11, 29, 30, 31, 39]))
    (.cond (.t 39)
     (.opsd [(0, 0, ⟨(some 40), none, .move (.t 9)⟩),
       (1, 0, ⟨(some 41), none, .move (.t 6)⟩),
       (2, 0, ⟨(some 42), none, .move (.t 10)⟩),
       (3, 6, ⟨(some 43), none, .indexAddr 1 (.t 41) (.t 42)⟩),
       (4, 14, ⟨(some 44), none, .load false 1 (.t 43)⟩),
       (5, 0, ⟨(some 45), none, .load true 4 (.t 11)⟩),
       (6, 63, ⟨(some 46), none, .call (.c (.func (.func 154) #[] #[])) [(.t 40), (.t 44), (.t 45)]⟩)] (some [5, 6, 7, 9, 29, 30, 31]))
     (.opsd [(0, 0, ⟨(some 47), none, .move (.t 9)⟩),
       (1, 0, ⟨(some 48), none, .move (.t 6)⟩),
       (2, 0, ⟨(some 49), none, .move (.t 10)⟩),
       (3, 6, ⟨(some 50), none, .indexAddr 1 (.t 48) (.t 49)⟩),
       (4, 14, ⟨(some 51), none, .load false 1 (.t 50)⟩),
       (5, 0, ⟨(some 52), none, .load true 4 (.t 11)⟩),
       (6, 63, ⟨(some 53), none, .call (.c (.func (.func 155) #[] #[])) [(.t 47), (.t 51), (.t 52)]⟩)] (some [5, 6, 7, 9, 29, 30, 31]))))))
   (.ops [⟨(some 54), none, .bin .add 3 (.t 31) (.c (.int .i64 1))⟩,
     ⟨(some 31), none, .move (.t 54)⟩] (some [5, 6, 7, 9, 29, 30, 31]))))))))
 (.seq (.ops [⟨(some 55), none, .move (.t 9)⟩,
   ⟨(some 56), none, .nilCheck (.t 55)⟩,
   ⟨(some 57), none, .fieldAddr 0 (.t 56)⟩,
   ⟨(some 58), none, .load false 1 (.t 57)⟩,
   ⟨(some 59), none, .bstr (.t 58)⟩,
   ⟨(some 4), none, .move (.t 59)⟩,
   ⟨none, none, .store 1 (.t 5) (.c (.int .i64 0))⟩] (some [4, 5]))
 .ret))))))), [.tmp 4, .cell false 1 5]⟩

theorem is116 : FnIs Tryz.prog 116 x116 := ⟨Tryz.f116, _, Tryz.func116, by kernel_rfl, rfl, by kernel_rfl, by decide, by kernel_rfl⟩

/-- (*cloisonne/seglog.Log).Busy -/
def x117 : XDecl := .code ⟨1, 
 (.seq (.ops [⟨(some 2), none, .move (.c (.bool false))⟩] (some [0]))
 (.seq (.ops [⟨(some 3), none, .move (.t 0)⟩,
   ⟨(some 4), none, .isNil .ptr true (.t 3)⟩,
   ⟨(some 5), none, .move (.t 4)⟩,
   ⟨(some 6), (some (5, true)), .move (.t 0)⟩,
   ⟨(some 7), (some (5, true)), .nilCheck (.t 6)⟩,
   ⟨(some 8), (some (5, true)), .fieldAddr 6 (.t 7)⟩,
   ⟨(some 9), (some (5, true)), .load false 1 (.t 8)⟩,
   ⟨(some 10), (some (5, true)), .isNil .ptr true (.t 9)⟩,
   ⟨(some 11), none, .pick (.t 5) (.t 10) (.c (.bool false))⟩,
   ⟨(some 2), none, .move (.t 11)⟩] (some [2]))
 .ret)), [.tmp 2]⟩

theorem is117 : FnIs Tryz.prog 117 x117 := ⟨Tryz.f117, _, Tryz.func117, by kernel_rfl, rfl, by kernel_rfl, by decide, by kernel_rfl⟩

/-- (*cloisonne/seglog.Log).fits -/
def x118 : XDecl := .code ⟨3, 
 (.seq (.ops [⟨(some 6), none, .move (.c (.bool false))⟩] (some [0, 1, 2]))
 (.seq (.opsd [(0, 0, ⟨(some 7), none, .move (.t 1)⟩),
   (1, 1, ⟨(some 8), none, .bin .geq 3 (.t 7) (.c (.int .i64 0))⟩),
   (2, 3, ⟨(some 9), none, .move (.t 8)⟩),
   (3, 7, ⟨(some 10), (some (9, true)), .move (.t 1)⟩),
   (5, 7, ⟨(some 12), (some (9, true)), .move (.t 0)⟩),
   (6, 39, ⟨(some 13), (some (9, true)), .nilCheck (.t 12)⟩),
   (7, 103, ⟨(some 14), (some (9, true)), .fieldAddr 0 (.t 13)⟩),
   (8, 231, ⟨(some 15), (some (9, true)), .load false 1 (.t 14)⟩),
   (10, 7, ⟨(some 17), (some (9, true)), .move (.t 2)⟩),
   (4, 15, ⟨(some 11), (some (9, true)), .call (.c (.func (.func 156) #[] #[])) [(.t 10)]⟩),
   (9, 511, ⟨(some 16), (some (9, true)), .call (.c (.func (.func 37) #[] #[])) [(.t 15)]⟩),
   (11, 2047, ⟨(some 18), (some (9, true)), .bin .sub 3 (.t 16) (.t 17)⟩),
   (12, 4095, ⟨(some 19), (some (9, true)), .bin .leq 3 (.t 11) (.t 18)⟩),
   (13, 8191, ⟨(some 20), none, .pick (.t 9) (.t 19) (.c (.bool false))⟩),
   (14, 16383, ⟨(some 6), none, .move (.t 20)⟩)] (some [6]))
 .ret)), [.tmp 6]⟩

theorem is118 : FnIs Tryz.prog 118 x118 := ⟨Tryz.f118, _, Tryz.func118, by kernel_rfl, rfl, by kernel_rfl, by decide, by kernel_rfl⟩

/-- (*cloisonne/seglog.Log).begin -/
def x119 : XDecl := .code ⟨2, 
 (.seq (.ops [⟨(some 4), none, .move (.c (.pointer none))⟩,
   ⟨(some 5), none, .move (.c (.int .i64 0))⟩] (some [0, 1]))
 (.seq (.seq (.ops [⟨(some 6), none, .move (.t 1)⟩,
   ⟨(some 7), none, .nilCheck (.t 6)⟩,
   ⟨(some 8), none, .fieldAddr 2 (.t 7)⟩,
   ⟨(some 9), none, .load false 1 (.t 8)⟩,
   ⟨(some 10), none, .bin .gtr 3 (.t 9) (.c (.int .i64 2147483647))⟩,
   ⟨(some 11), none, .move (.t 10)⟩,
   ⟨(some 12), (some (11, false)), .move (.t 0)⟩,
   ⟨(some 13), (some (11, false)), .nilCheck (.t 12)⟩,
   ⟨(some 14), (some (11, false)), .fieldAddr 5 (.t 13)⟩,
   ⟨(some 15), (some (11, false)), .load false 1 (.t 14)⟩,
   ⟨(some 16), (some (11, false)), .bin .gtr 3 (.t 15) (.c (.int .i64 2147483647))⟩,
   ⟨(some 17), none, .pick (.t 11) (.c (.bool true)) (.t 16)⟩] (some [0, 1, 17]))
 (.cond (.t 17)
  (.seq (.ops [⟨(some 4), none, .move (.c (.pointer none))⟩,
    ⟨(some 5), none, .move (.c (.int .i64 17))⟩] (some [4, 5]))
  .ret)
  .skip))
 (.seq (.ops [⟨(some 18), none, .move (.t 1)⟩,
   ⟨(some 19), none, .move (.t 0)⟩,
   ⟨(some 20), none, .move (.t 0)⟩,
   ⟨(some 21), none, .move (.t 1)⟩,
   ⟨(some 22), none, .nilCheck (.t 18)⟩,
   ⟨(some 23), none, .fieldAddr 0 (.t 22)⟩,
   ⟨none, none, .store 1 (.t 23) (.t 20)⟩,
   ⟨(some 24), none, .nilCheck (.t 19)⟩,
   ⟨(some 25), none, .fieldAddr 6 (.t 24)⟩,
   ⟨none, none, .store 1 (.t 25) (.t 21)⟩] (some [1]))
 (.seq (.ops [⟨(some 26), none, .move (.t 1)⟩,
   ⟨(some 4), none, .move (.t 26)⟩,
   ⟨(some 5), none, .move (.c (.int .i64 0))⟩] (some [4, 5]))
 .ret)))), [.tmp 4, .tmp 5]⟩

theorem is119 : FnIs Tryz.prog 119 x119 := ⟨Tryz.f119, _, Tryz.func119, by kernel_rfl, rfl, by kernel_rfl, by decide, by kernel_rfl⟩

/-- cloisonne/sector.Parts -/
def x120 : XDecl := .code ⟨1, 
 (.seq (.ops [⟨(some 2), none, .move (.c (.slice none 0 0))⟩] (some [0]))
 (.seq (.ops [⟨(some 3), none, .move (.c (.slice none 0 0))⟩] (some [0, 3]))
 (.seq (.block 0
  (.loop
   (.seq (.seq (.ops [⟨(some 4), none, .move (.t 0)⟩,
     ⟨(some 5), none, .calcB .len [9] 3 [(.t 4)]⟩,
     ⟨(some 6), none, .bin .gtr 3 (.t 5) (.c (.int .i64 50))⟩] (some [0, 3, 6]))
   (.cond (.t 6)
    .skip
    (.exit 0)))
   (.block 1
    (.seq (.ops [⟨(some 7), none, .move (.t 3)⟩,
      ⟨(some 8), none, .move (.t 0)⟩,
      ⟨(some 9), none, .substr 9 (.t 8) none (some (.c (.int .i64 50)))⟩,
      ⟨(some 10), none, .buildSlice [(.string .empty)] 1 1 [(0, (.t 9))]⟩,
      ⟨(some 11), none, .append 1 16 [(.string .empty)] (.t 7) (.t 10)⟩,
      ⟨(some 3), none, .move (.t 11)⟩] (some [0, 3]))
    (.ops [⟨(some 12), none, .move (.t 0)⟩,
      ⟨(some 13), none, .substr 9 (.t 12) (some (.c (.int .i64 50))) none⟩,
      ⟨(some 0), none, .move (.t 13)⟩] (some [0, 3])))))))
 (.seq (.ops [⟨(some 14), none, .move (.t 3)⟩,
   ⟨(some 15), none, .move (.t 0)⟩,
   ⟨(some 16), none, .buildSlice [(.string .empty)] 1 1 [(0, (.t 15))]⟩,
   ⟨(some 17), none, .append 1 16 [(.string .empty)] (.t 14) (.t 16)⟩,
   ⟨(some 2), none, .move (.t 17)⟩] (some [2]))
 .ret)))), [.tmp 2]⟩

theorem is120 : FnIs Tryz.prog 120 x120 := ⟨Tryz.f120, _, Tryz.func120, by kernel_rfl, rfl, by kernel_rfl, by decide, by kernel_rfl⟩

/-- cloisonne/ring.New -/
def x126 : XDecl := .code ⟨2, 
 (.seq (.ops [⟨(some 4), none, .move (.c (.pointer none))⟩,
   ⟨(some 5), none, .move (.c (.int .i64 0))⟩] (some [0, 1]))
 (.seq (.seq (.ops [⟨(some 6), none, .move (.t 0)⟩,
   ⟨(some 7), none, .bin .lss 3 (.t 6) (.c (.int .i64 1))⟩,
   ⟨(some 8), none, .move (.t 7)⟩,
   ⟨(some 9), (some (8, false)), .move (.t 0)⟩,
   ⟨(some 10), (some (8, false)), .bin .gtr 3 (.t 9) (.c (.int .i64 16))⟩,
   ⟨(some 11), none, .pick (.t 8) (.c (.bool true)) (.t 10)⟩,
   ⟨(some 12), none, .move (.t 11)⟩,
   ⟨(some 13), (some (12, false)), .move (.t 1)⟩,
   ⟨(some 14), (some (12, false)), .bin .lss 3 (.t 13) (.c (.int .i64 0))⟩,
   ⟨(some 15), none, .pick (.t 12) (.c (.bool true)) (.t 14)⟩,
   ⟨(some 16), none, .move (.t 15)⟩,
   ⟨(some 17), (some (16, false)), .move (.t 1)⟩,
   ⟨(some 18), (some (16, false)), .bin .gtr 3 (.t 17) (.c (.int .i64 1073741824))⟩,
   ⟨(some 19), none, .pick (.t 16) (.c (.bool true)) (.t 18)⟩] (some [0, 1, 19]))
 (.cond (.t 19)
  (.seq (.ops [⟨(some 4), none, .move (.c (.pointer none))⟩,
    ⟨(some 5), none, .move (.c (.int .i64 1))⟩] (some [4, 5]))
  .ret)
  .skip))
 (.seq (.ops [⟨(some 20), none, .move (.t 0)⟩,
   ⟨(some 21), none, .move (.t 1)⟩,
   ⟨(some 22), none, .move (.t 1)⟩,
   ⟨(some 23), none, .build [(.int .i64 0), (.int .i64 0), (.int .i64 0), (.slice none 0 0)] [(0, 1), (1, 1), (2, 1), (3, 1)] [(0, (.t 20)), (1, (.t 21)), (2, (.t 22))]⟩,
   ⟨(some 24), none, .box (.t 23)⟩,
   ⟨(some 4), none, .move (.t 24)⟩,
   ⟨(some 5), none, .move (.c (.int .i64 0))⟩] (some [4, 5]))
 .ret))), [.tmp 4, .tmp 5]⟩

theorem is126 : FnIs Tryz.prog 126 x126 := ⟨Tryz.f126, _, Tryz.func126, by kernel_rfl, rfl, by kernel_rfl, by decide, by kernel_rfl⟩

/-- cloisonne/tree.New -/
def x127 : XDecl := .code ⟨0, 
 (.seq (.ops [⟨(some 0), none, .move (.c (.pointer none))⟩] (some []))
 (.seq (.ops [⟨(some 1), none, .build [(.slice none 0 0), (.slice none 0 0), (.int .i64 0), (.int .i64 0)] [(0, 1), (1, 1), (2, 1), (3, 1)] [(2, (.c (.int .i64 (-1))))]⟩,
   ⟨(some 2), none, .box (.t 1)⟩,
   ⟨(some 0), none, .move (.t 2)⟩] (some [0]))
 .ret)), [.tmp 0]⟩

theorem is127 : FnIs Tryz.prog 127 x127 := ⟨Tryz.f127, _, Tryz.func127, by kernel_rfl, rfl, by kernel_rfl, by decide, by kernel_rfl⟩

/-- cloisonne/value.Pack -/
def x128 : XDecl := .code ⟨1, 
 (.seq (.ops [⟨(some 1), none, .box (.t 0)⟩,
   ⟨(some 2), none, .move (.c (.string .empty))⟩,
   ⟨(some 3), none, .move (.c (.int .i64 0))⟩] (some [1]))
 (.seq (.block 0
  (.seq (.ops [⟨(some 5), none, .load true 3 (.t 1)⟩,
    ⟨(some 6), none, .call (.c (.func (.func 77) #[] #[])) [(.t 5)]⟩,
    ⟨(some 7), none, .un .not (.t 6)⟩,
    ⟨(some 4), none, .move (.t 7)⟩] (some [1, 4]))
  (.cond (.t 4)
   (.seq (.ops [⟨(some 2), none, .move (.c (.string .empty))⟩,
     ⟨(some 3), none, .move (.c (.int .i64 1))⟩] (some [2, 3]))
   .ret)
   (.seq (.ops [⟨(some 9), none, .fieldAddr 0 (.t 1)⟩,
     ⟨(some 10), none, .load false 1 (.t 9)⟩,
     ⟨(some 8), none, .move (.t 10)⟩] (some [1, 8]))
   (.cond (.t 8)
    (.seq (.ops [⟨(some 11), none, .fieldAddr 2 (.t 1)⟩,
      ⟨(some 12), none, .load false 1 (.t 11)⟩,
      ⟨(some 13), none, .call (.c (.func (.func 110) #[] #[])) [(.t 12)]⟩,
      ⟨(some 14), none, .call (.c (.func (.func 165) #[] #[])) [(.t 13)]⟩,
      ⟨(some 15), none, .bin .add 9 (.c (.string ⟨#[1]⟩)) (.t 14)⟩,
      ⟨(some 2), none, .move (.t 15)⟩,
      ⟨(some 3), none, .move (.c (.int .i64 0))⟩] (some [2, 3]))
    .ret)
    .skip)))))
 (.seq (.ops [⟨(some 16), none, .fieldAddr 1 (.t 1)⟩,
   ⟨(some 17), none, .load false 1 (.t 16)⟩,
   ⟨(some 18), none, .bin .add 9 (.c (.string ⟨#[0]⟩)) (.t 17)⟩,
   ⟨(some 2), none, .move (.t 18)⟩,
   ⟨(some 3), none, .move (.c (.int .i64 0))⟩] (some [2, 3]))
 .ret))), [.tmp 2, .tmp 3]⟩

theorem is128 : FnIs Tryz.prog 128 x128 := ⟨Tryz.f128, _, Tryz.func128, by kernel_rfl, rfl, by kernel_rfl, by decide, by kernel_rfl⟩

/-- (*cloisonne/room.Room).put -/
def x130 : XDecl := .code ⟨3, 
 (.seq (.ops [⟨(some 5), none, .box (.t 2)⟩,
   ⟨(some 6), none, .move (.c (.int .i64 0))⟩] (some [0, 1, 5]))
 (.seq (.opsd [(0, 0, ⟨(some 10), none, .move (.t 0)⟩),
   (1, 0, ⟨(some 11), none, .move (.t 1)⟩),
   (3, 0, ⟨(some 13), none, .load true 5 (.t 5)⟩),
   (2, 3, ⟨(some 12), none, .call (.c (.func (.func 136) #[] #[])) [(.t 10), (.t 11)]⟩),
   (4, 15, ⟨(some 14), none, .call (.c (.func (.func 167) #[] #[])) [(.t 12), (.t 13)]⟩),
   (5, 31, ⟨(some 9), none, .move (.t 14)⟩),
   (6, 63, ⟨(some 15), none, .extract (.t 9) 0⟩),
   (7, 63, ⟨(some 16), none, .extract (.t 9) 1⟩),
   (8, 127, ⟨(some 7), none, .move (.t 15)⟩),
   (9, 511, ⟨(some 8), none, .move (.t 16)⟩)] (some [0, 1, 7, 8]))
 (.seq (.seq (.ops [⟨(some 17), none, .move (.t 8)⟩,
   ⟨(some 18), none, .bin .neq 28 (.t 17) (.c (.int .i64 0))⟩] (some [0, 1, 7, 8, 18]))
 (.cond (.t 18)
  (.seq (.ops [⟨(some 19), none, .move (.t 8)⟩,
    ⟨(some 6), none, .move (.t 19)⟩] (some [6]))
  .ret)
  .skip))
 (.seq (.ops [⟨(some 20), none, .move (.t 0)⟩,
   ⟨(some 21), none, .move (.t 1)⟩,
   ⟨(some 22), none, .move (.t 7)⟩,
   ⟨(some 23), none, .call (.c (.func (.func 168) #[] #[])) [(.t 20), (.t 21), (.t 22)]⟩] (some []))
 (.seq (.ops [⟨(some 6), none, .move (.c (.int .i64 0))⟩] (some [6]))
 .ret))))), [.tmp 6]⟩

theorem is130 : FnIs Tryz.prog 130 x130 := ⟨Tryz.f130, _, Tryz.func130, by kernel_rfl, rfl, by kernel_rfl, by decide, by kernel_rfl⟩

/-- (*cloisonne/room.Room).room -/
def x132 : XDecl := .code ⟨2, 
 (.seq (.ops [⟨(some 4), none, .move (.c (.int .i64 0))⟩] (some [0, 1]))
 (.seq (.seq (.opsd [(0, 0, ⟨(some 8), none, .move (.t 0)⟩),
   (2, 0, ⟨(some 10), none, .move (.t 0)⟩),
   (3, 4, ⟨(some 11), none, .nilCheck (.t 10)⟩),
   (4, 12, ⟨(some 12), none, .fieldAddr 0 (.t 11)⟩),
   (5, 28, ⟨(some 13), none, .fieldAddr 3 (.t 12)⟩),
   (6, 60, ⟨(some 14), none, .load false 1 (.t 13)⟩),
   (1, 1, ⟨(some 9), none, .call (.c (.func (.func 34) #[] #[])) [(.t 8)]⟩),
   (7, 127, ⟨(some 15), none, .bin .geq 3 (.t 9) (.t 14)⟩)] (some [0, 1, 15]))
 (.cond (.t 15)
  (.seq (.ops [⟨(some 4), none, .move (.c (.int .i64 17))⟩] (some [4]))
  .ret)
  .skip))
 (.seq (.ops [⟨(some 16), none, .move (.t 0)⟩,
   ⟨(some 17), none, .nilCheck (.t 16)⟩,
   ⟨(some 18), none, .fieldAddr 8 (.t 17)⟩,
   ⟨(some 19), none, .load false 1 (.t 18)⟩,
   ⟨(some 5), none, .move (.t 19)⟩] (some [0, 1, 5]))
 (.seq (.seq (.ops [⟨(some 20), none, .move (.t 1)⟩,
   ⟨(some 21), none, .len (.t 20)⟩,
   ⟨(some 22), none, .move (.c (.int .i64 0))⟩] (some [0, 5, 20, 21, 22]))
 (.block 0
  (.loop
   (.seq (.ops [⟨(some 23), none, .bin .lss 3 (.t 22) (.t 21)⟩] (some [0, 5, 20, 21, 22, 23]))
   (.seq (.cond (.t 23)
    .skip
    (.exit 0))
   (.seq (.block 1
    (.seq (.ops [⟨(some 24), none, .indexAddr 5 (.t 20) (.t 22)⟩,
      ⟨(some 25), none, .load true 5 (.t 24)⟩,
      ⟨(some 7), none, .alloc [(.string .empty), (.bool false), (.bool false), (.string .empty), (.int .u64 0)]⟩,
      ⟨none, none, .store 5 (.t 7) (.t 25)⟩] (some [0, 5, 7, 20, 21, 22]))
    (.seq (.opsd [(0, 0, ⟨(some 26), none, .move (.t 5)⟩),
      (1, 0, ⟨(some 27), none, .fieldAddr 0 (.t 7)⟩),
      (2, 2, ⟨(some 28), none, .load false 1 (.t 27)⟩),
      (3, 0, ⟨(some 29), none, .move (.t 0)⟩),
      (4, 0, ⟨(some 30), none, .fieldAddr 0 (.t 7)⟩),
      (5, 16, ⟨(some 31), none, .load false 1 (.t 30)⟩),
      (6, 56, ⟨(some 32), none, .call (.c (.func (.func 136) #[] #[])) [(.t 29), (.t 31)]⟩),
      (7, 126, ⟨(some 33), none, .call (.c (.func (.func 170) #[] #[])) [(.t 28), (.t 32)]⟩),
      (8, 255, ⟨(some 34), none, .bin .sub 3 (.t 26) (.t 33)⟩),
      (9, 511, ⟨(some 5), none, .move (.t 34)⟩)] (some [0, 5, 7, 20, 21, 22]))
    (.seq (.ops [⟨(some 35), none, .fieldAddr 1 (.t 7)⟩,
      ⟨(some 36), none, .load false 1 (.t 35)⟩,
      ⟨(some 37), none, .un .not (.t 36)⟩] (some [0, 5, 7, 20, 21, 22, 37]))
    (.cond (.t 37)
     (.opsd [(0, 0, ⟨(some 38), none, .move (.t 5)⟩),
       (1, 0, ⟨(some 39), none, .fieldAddr 0 (.t 7)⟩),
       (2, 2, ⟨(some 40), none, .load false 1 (.t 39)⟩),
       (3, 6, ⟨(some 41), none, .calcB .len [9] 3 [(.t 40)]⟩),
       (4, 0, ⟨(some 42), none, .fieldAddr 2 (.t 7)⟩),
       (5, 16, ⟨(some 43), none, .load true 3 (.t 42)⟩),
       (6, 48, ⟨(some 44), none, .call (.c (.func (.func 171) #[] #[])) [(.t 43)]⟩),
       (7, 126, ⟨(some 45), none, .bin .add 3 (.t 41) (.t 44)⟩),
       (8, 255, ⟨(some 46), none, .bin .add 3 (.t 38) (.t 45)⟩),
       (9, 511, ⟨(some 5), none, .move (.t 46)⟩)] (some [0, 5, 20, 21, 22]))
     .skip)))))
   (.ops [⟨(some 47), none, .bin .add 3 (.t 22) (.c (.int .i64 1))⟩,
     ⟨(some 22), none, .move (.t 47)⟩] (some [0, 5, 20, 21, 22]))))))))
 (.seq (.seq (.ops [⟨(some 48), none, .move (.t 5)⟩,
   ⟨(some 49), none, .move (.t 0)⟩,
   ⟨(some 50), none, .nilCheck (.t 49)⟩,
   ⟨(some 51), none, .fieldAddr 0 (.t 50)⟩,
   ⟨(some 52), none, .fieldAddr 2 (.t 51)⟩,
   ⟨(some 53), none, .load false 1 (.t 52)⟩,
   ⟨(some 54), none, .bin .gtr 3 (.t 48) (.t 53)⟩] (some [54]))
 (.cond (.t 54)
  (.seq (.ops [⟨(some 4), none, .move (.c (.int .i64 15))⟩] (some [4]))
  .ret)
  .skip))
 (.seq (.ops [⟨(some 4), none, .move (.c (.int .i64 0))⟩] (some [4]))
 .ret)))))), [.tmp 4]⟩

theorem is132 : FnIs Tryz.prog 132 x132 := ⟨Tryz.f132, _, Tryz.func132, by kernel_rfl, rfl, by kernel_rfl, by decide, by kernel_rfl⟩

/-- (*cloisonne/ring.Ring).Push -/
def x133 : XDecl := .code ⟨2, 
 (.seq (.ops [⟨(some 4), none, .move (.c (.int .i64 0))⟩,
   ⟨(some 5), none, .move (.c (.int .i64 0))⟩] (some [0, 1]))
 (.seq (.block 0
  (.seq (.ops [⟨(some 8), none, .move (.t 0)⟩,
    ⟨(some 9), none, .isNil .ptr false (.t 8)⟩,
    ⟨(some 7), none, .move (.t 9)⟩] (some [0, 1, 7]))
  (.cond (.t 7)
   (.seq (.ops [⟨(some 4), none, .move (.c (.int .i64 0))⟩,
     ⟨(some 5), none, .move (.c (.int .i64 2))⟩] (some [4, 5]))
   .ret)
   (.seq (.ops [⟨(some 11), none, .move (.t 1)⟩,
     ⟨(some 12), none, .move (.t 0)⟩,
     ⟨(some 13), none, .call (.c (.func (.func 172) #[] #[])) [(.t 12)]⟩,
     ⟨(some 14), none, .bin .leq 40 (.t 11) (.t 13)⟩,
     ⟨(some 10), none, .move (.t 14)⟩] (some [0, 1, 10]))
   (.cond (.t 10)
    (.seq (.ops [⟨(some 4), none, .move (.c (.int .i64 0))⟩,
      ⟨(some 5), none, .move (.c (.int .i64 1))⟩] (some [4, 5]))
    .ret)
    (.seq (.ops [⟨(some 16), none, .move (.t 0)⟩,
      ⟨(some 17), none, .nilCheck (.t 16)⟩,
      ⟨(some 18), none, .fieldAddr 2 (.t 17)⟩,
      ⟨(some 19), none, .load false 1 (.t 18)⟩,
      ⟨(some 20), none, .bin .geq 3 (.t 19) (.c (.int .i64 1073741824))⟩,
      ⟨(some 15), none, .move (.t 20)⟩] (some [0, 1, 15]))
    (.cond (.t 15)
     (.seq (.ops [⟨(some 4), none, .move (.c (.int .i64 0))⟩,
       ⟨(some 5), none, .move (.c (.int .i64 17))⟩] (some [4, 5]))
     .ret)
     .skip)))))))
 (.seq (.ops [⟨(some 21), none, .move (.t 0)⟩,
   ⟨(some 22), none, .nilCheck (.t 21)⟩,
   ⟨(some 23), none, .fieldAddr 2 (.t 22)⟩,
   ⟨(some 24), none, .load false 1 (.t 23)⟩,
   ⟨(some 25), none, .bin .add 3 (.t 24) (.c (.int .i64 1))⟩,
   ⟨(some 26), none, .nilCheck (.t 21)⟩,
   ⟨(some 27), none, .fieldAddr 2 (.t 26)⟩,
   ⟨none, none, .store 1 (.t 27) (.t 25)⟩] (some [0, 1]))
 (.seq (.ops [⟨(some 28), none, .move (.t 0)⟩,
   ⟨(some 29), none, .move (.t 0)⟩,
   ⟨(some 30), none, .nilCheck (.t 29)⟩,
   ⟨(some 31), none, .fieldAddr 3 (.t 30)⟩,
   ⟨(some 32), none, .load false 1 (.t 31)⟩,
   ⟨(some 33), none, .move (.t 1)⟩,
   ⟨(some 34), none, .buildSlice [(.int .u64 0)] 1 1 [(0, (.t 33))]⟩,
   ⟨(some 35), none, .append 1 8 [(.int .u64 0)] (.t 32) (.t 34)⟩,
   ⟨(some 36), none, .nilCheck (.t 28)⟩,
   ⟨(some 37), none, .fieldAddr 3 (.t 36)⟩,
   ⟨none, none, .store 1 (.t 37) (.t 35)⟩] (some [0]))
 (.seq (.seq (.opsr [⟨(some 38), none, .move (.t 0)⟩,
   ⟨(some 39), none, .nilCheck (.t 38)⟩,
   ⟨(some 40), none, .fieldAddr 3 (.t 39)⟩,
   ⟨(some 41), none, .load false 1 (.t 40)⟩,
   ⟨(some 42), none, .len (.t 41)⟩,
   ⟨(some 43), none, .move (.t 0)⟩,
   ⟨(some 44), none, .nilCheck (.t 43)⟩,
   ⟨(some 45), none, .fieldAddr 0 (.t 44)⟩,
   ⟨(some 46), none, .load false 1 (.t 45)⟩,
   ⟨(some 47), none, .bin .sub 3 (.t 42) (.t 46)⟩,
   ⟨(some 6), none, .move (.t 47)⟩] (some [0, 6]))
 (.seq (.ops [⟨(some 48), none, .move (.t 6)⟩,
   ⟨(some 49), none, .bin .gtr 3 (.t 48) (.c (.int .i64 0))⟩] (some [0, 6, 49]))
 (.cond (.t 49)
  (.ops [⟨(some 50), none, .move (.t 0)⟩,
    ⟨(some 51), none, .move (.t 0)⟩,
    ⟨(some 52), none, .nilCheck (.t 51)⟩,
    ⟨(some 53), none, .fieldAddr 3 (.t 52)⟩,
    ⟨(some 54), none, .load false 1 (.t 53)⟩,
    ⟨(some 55), none, .move (.t 6)⟩,
    ⟨(some 56), none, .call (.c (.func (.func 173) #[] #[])) [(.t 54), (.c (.int .i64 0)), (.t 55)]⟩,
    ⟨(some 57), none, .nilCheck (.t 50)⟩,
    ⟨(some 58), none, .fieldAddr 3 (.t 57)⟩,
    ⟨none, none, .store 1 (.t 58) (.t 56)⟩] (some [0]))
  .skip)))
 (.seq (.ops [⟨(some 59), none, .move (.t 0)⟩,
   ⟨(some 60), none, .nilCheck (.t 59)⟩,
   ⟨(some 61), none, .fieldAddr 2 (.t 60)⟩,
   ⟨(some 62), none, .load false 1 (.t 61)⟩,
   ⟨(some 4), none, .move (.t 62)⟩,
   ⟨(some 5), none, .move (.c (.int .i64 0))⟩] (some [4, 5]))
 .ret)))))), [.tmp 4, .tmp 5]⟩

theorem is133 : FnIs Tryz.prog 133 x133 := ⟨Tryz.f133, _, Tryz.func133, by kernel_rfl, rfl, by kernel_rfl, by decide, by kernel_rfl⟩

/-- (*cloisonne/room.Room).chain -/
def x136 : XDecl := .code ⟨2, 
 (.seq (.ops [⟨(some 4), none, .move (.c (.slice none 0 0))⟩] (some [0, 1]))
 (.seq (.seq (.ops [⟨(some 7), none, .move (.t 0)⟩,
   ⟨(some 8), none, .isNil .ptr false (.t 7)⟩] (some [0, 1, 8]))
 (.cond (.t 8)
  (.seq (.ops [⟨(some 4), none, .move (.c (.slice none 0 0))⟩] (some [4]))
  .ret)
  .skip))
 (.seq (.ops [⟨(some 10), none, .move (.t 0)⟩,
   ⟨(some 11), none, .nilCheck (.t 10)⟩,
   ⟨(some 12), none, .fieldAddr 5 (.t 11)⟩,
   ⟨(some 13), none, .load false 1 (.t 12)⟩,
   ⟨(some 14), none, .move (.t 1)⟩,
   ⟨(some 15), none, .call (.c (.func (.func 178) #[] #[])) [(.t 13), (.t 14)]⟩,
   ⟨(some 9), none, .move (.t 15)⟩,
   ⟨(some 16), none, .extract (.t 9) 0⟩,
   ⟨(some 17), none, .extract (.t 9) 1⟩,
   ⟨(some 5), none, .move (.t 16)⟩,
   ⟨(some 6), none, .move (.t 17)⟩] (some [0, 5, 6]))
 (.seq (.seq (.ops [⟨(some 18), none, .move (.t 6)⟩,
   ⟨(some 19), none, .un .not (.t 18)⟩] (some [0, 5, 19]))
 (.cond (.t 19)
  (.seq (.ops [⟨(some 4), none, .move (.c (.slice none 0 0))⟩] (some [4]))
  .ret)
  .skip))
 (.seq (.ops [⟨(some 20), none, .move (.t 0)⟩,
   ⟨(some 21), none, .nilCheck (.t 20)⟩,
   ⟨(some 22), none, .fieldAddr 6 (.t 21)⟩,
   ⟨(some 23), none, .load false 1 (.t 22)⟩,
   ⟨(some 24), none, .move (.t 5)⟩,
   ⟨(some 25), none, .indexAddr 1 (.t 23) (.t 24)⟩,
   ⟨(some 26), none, .load false 1 (.t 25)⟩,
   ⟨(some 4), none, .move (.t 26)⟩] (some [4]))
 .ret))))), [.tmp 4]⟩

theorem is136 : FnIs Tryz.prog 136 x136 := ⟨Tryz.f136, _, Tryz.func136, by kernel_rfl, rfl, by kernel_rfl, by decide, by kernel_rfl⟩

/-- cloisonne/sector.Pack -/
def x138 : XDecl := .code ⟨2, 
 (.seq (.ops [⟨(some 2), none, .box (.t 0)⟩,
   ⟨(some 4), none, .move (.c (.string .empty))⟩,
   ⟨(some 5), none, .move (.c (.int .i64 0))⟩] (some [1, 2]))
 (.seq (.block 0
  (.seq (.ops [⟨(some 8), none, .load true 5 (.t 2)⟩,
    ⟨(some 9), none, .call (.c (.func (.func 146) #[] #[])) [(.t 8)]⟩,
    ⟨(some 10), none, .un .not (.t 9)⟩,
    ⟨(some 7), none, .move (.t 10)⟩] (some [1, 2, 7]))
  (.cond (.t 7)
   (.seq (.ops [⟨(some 4), none, .move (.c (.string .empty))⟩,
     ⟨(some 5), none, .move (.c (.int .i64 1))⟩] (some [4, 5]))
   .ret)
   (.seq (.ops [⟨(some 12), none, .move (.t 1)⟩,
     ⟨(some 13), none, .calcB .len [9] 3 [(.t 12)]⟩,
     ⟨(some 14), none, .bin .gtr 3 (.t 13) (.c (.int .i64 50))⟩,
     ⟨(some 11), none, .move (.t 14)⟩] (some [1, 2, 11]))
   (.cond (.t 11)
    (.seq (.ops [⟨(some 4), none, .move (.c (.string .empty))⟩,
      ⟨(some 5), none, .move (.c (.int .i64 5))⟩] (some [4, 5]))
    .ret)
    .skip)))))
 (.seq (.ops [⟨(some 15), none, .buildSlice [(.int .u8 0)] 1 1 [(0, (.c (.int .u8 193)))]⟩,
   ⟨(some 16), none, .fieldAddr 0 (.t 2)⟩,
   ⟨(some 17), none, .load false 1 (.t 16)⟩,
   ⟨(some 18), none, .call (.c (.func (.func 179) #[] #[])) [(.t 15), (.t 17), (.c (.int .i64 4))]⟩,
   ⟨(some 6), none, .move (.t 18)⟩] (some [1, 2, 6]))
 (.seq (.ops [⟨(some 19), none, .move (.t 6)⟩,
   ⟨(some 20), none, .fieldAddr 1 (.t 2)⟩,
   ⟨(some 21), none, .load false 1 (.t 20)⟩,
   ⟨(some 22), none, .call (.c (.func (.func 179) #[] #[])) [(.t 19), (.t 21), (.c (.int .i64 2))]⟩,
   ⟨(some 6), none, .move (.t 22)⟩] (some [1, 2, 6]))
 (.seq (.ops [⟨(some 23), none, .move (.t 6)⟩,
   ⟨(some 24), none, .fieldAddr 2 (.t 2)⟩,
   ⟨(some 25), none, .load false 1 (.t 24)⟩,
   ⟨(some 26), none, .call (.c (.func (.func 179) #[] #[])) [(.t 23), (.t 25), (.c (.int .i64 4))]⟩,
   ⟨(some 6), none, .move (.t 26)⟩] (some [1, 2, 6]))
 (.seq (.ops [⟨(some 27), none, .move (.t 6)⟩,
   ⟨(some 28), none, .fieldAddr 3 (.t 2)⟩,
   ⟨(some 29), none, .load false 1 (.t 28)⟩,
   ⟨(some 30), none, .conv 3 5 (.t 29)⟩,
   ⟨(some 31), none, .fieldAddr 4 (.t 2)⟩,
   ⟨(some 32), none, .load false 1 (.t 31)⟩,
   ⟨(some 33), none, .conv 3 5 (.t 32)⟩,
   ⟨(some 34), none, .move (.t 1)⟩,
   ⟨(some 35), none, .calcB .len [9] 3 [(.t 34)]⟩,
   ⟨(some 36), none, .conv 3 5 (.t 35)⟩,
   ⟨(some 37), none, .buildSlice [(.int .u8 0)] 1 3 [(0, (.t 30)), (1, (.t 33)), (2, (.t 36))]⟩,
   ⟨(some 38), none, .append 1 1 [(.int .u8 0)] (.t 27) (.t 37)⟩,
   ⟨(some 6), none, .move (.t 38)⟩] (some [1, 6]))
 (.seq (.ops [⟨(some 39), none, .move (.t 6)⟩,
   ⟨(some 40), none, .move (.t 1)⟩,
   ⟨(some 41), none, .append 1 1 [(.int .u8 0)] (.t 39) (.t 40)⟩,
   ⟨(some 6), none, .move (.t 41)⟩] (some [6]))
 (.seq (.ops [⟨(some 42), none, .move (.t 6)⟩,
   ⟨(some 43), none, .move (.t 6)⟩,
   ⟨(some 44), none, .len (.t 43)⟩,
   ⟨(some 45), none, .bin .sub 3 (.c (.int .i64 64)) (.t 44)⟩,
   ⟨(some 46), none, .appendZeros 1 1 [(.int .u8 0)] (.t 42) (.t 45)⟩,
   ⟨(some 47), none, .bstr (.t 46)⟩,
   ⟨(some 4), none, .move (.t 47)⟩,
   ⟨(some 5), none, .move (.c (.int .i64 0))⟩] (some [4, 5]))
 .ret)))))))), [.tmp 4, .tmp 5]⟩

theorem is138 : FnIs Tryz.prog 138 x138 := ⟨Tryz.f138, _, Tryz.func138, by kernel_rfl, rfl, by kernel_rfl, by decide, by kernel_rfl⟩

/-- (*cloisonne/extent.World).Write -/
def x139 : XDecl := .code ⟨4, 
 (.seq (.ops [⟨(some 8), none, .move (.c (.int .i64 0))⟩] (some [0, 1, 2, 3]))
 (.seq (.ops [⟨(some 10), none, .move (.t 0)⟩,
   ⟨(some 11), none, .move (.t 1)⟩,
   ⟨(some 12), none, .move (.t 2)⟩,
   ⟨(some 13), none, .call (.c (.func (.func 140) #[] #[])) [(.t 10), (.t 11), (.t 12)]⟩,
   ⟨(some 9), none, .move (.t 13)⟩] (some [0, 1, 2, 3, 9]))
 (.seq (.block 0
  (.seq (.ops [⟨(some 15), none, .move (.t 9)⟩,
    ⟨(some 16), none, .bin .neq 28 (.t 15) (.c (.int .i64 0))⟩,
    ⟨(some 14), none, .move (.t 16)⟩] (some [0, 1, 2, 3, 9, 14]))
  (.cond (.t 14)
   (.seq (.ops [⟨(some 17), none, .move (.t 9)⟩,
     ⟨(some 8), none, .move (.t 17)⟩] (some [8]))
   .ret)
   (.seq (.ops [⟨(some 19), none, .move (.t 3)⟩,
     ⟨(some 20), none, .calcB .len [9] 3 [(.t 19)]⟩,
     ⟨(some 21), none, .bin .gtr 3 (.t 20) (.c (.int .i64 64))⟩,
     ⟨(some 18), none, .move (.t 21)⟩] (some [0, 1, 2, 3, 18]))
   (.cond (.t 18)
    (.seq (.ops [⟨(some 8), none, .move (.c (.int .i64 5))⟩] (some [8]))
    .ret)
    .skip)))))
 (.seq (.ops [⟨(some 22), none, .move (.t 0)⟩,
   ⟨(some 23), none, .nilCheck (.t 22)⟩,
   ⟨(some 24), none, .fieldAddr 3 (.t 23)⟩,
   ⟨(some 25), none, .load false 1 (.t 24)⟩,
   ⟨(some 26), none, .move (.t 1)⟩,
   ⟨(some 27), none, .indexAddr 1 (.t 25) (.t 26)⟩,
   ⟨(some 28), none, .load false 1 (.t 27)⟩,
   ⟨(some 29), none, .move (.t 2)⟩,
   ⟨(some 30), none, .move (.t 3)⟩,
   ⟨none, none, .mapUpdate true (.t 28) (.t 29) (.t 30)⟩] (some []))
 (.seq (.ops [⟨(some 8), none, .move (.c (.int .i64 0))⟩] (some [8]))
 .ret))))), [.tmp 8]⟩

theorem is139 : FnIs Tryz.prog 139 x139 := ⟨Tryz.f139, _, Tryz.func139, by kernel_rfl, rfl, by kernel_rfl, by decide, by kernel_rfl⟩

/-- (*cloisonne/extent.World).power -/
def x140 : XDecl := .code ⟨3, 
 (.seq (.ops [⟨(some 6), none, .move (.c (.int .i64 0))⟩] (some [0, 1, 2]))
 (.seq (.seq (.ops [⟨(some 7), none, .move (.t 0)⟩,
   ⟨(some 8), none, .isNil .ptr true (.t 7)⟩,
   ⟨(some 9), none, .move (.t 8)⟩,
   ⟨(some 10), (some (9, true)), .move (.t 0)⟩,
   ⟨(some 11), (some (9, true)), .nilCheck (.t 10)⟩,
   ⟨(some 12), (some (9, true)), .fieldAddr 0 (.t 11)⟩,
   ⟨(some 13), (some (9, true)), .load false 1 (.t 12)⟩,
   ⟨(some 14), none, .pick (.t 9) (.t 13) (.c (.bool false))⟩] (some [0, 1, 2, 14]))
 (.cond (.t 14)
  (.seq (.ops [⟨(some 6), none, .move (.c (.int .i64 6))⟩] (some [6]))
  .ret)
  .skip))
 (.seq (.ops [⟨(some 15), none, .move (.t 0)⟩,
   ⟨(some 16), none, .move (.t 1)⟩,
   ⟨(some 17), none, .move (.t 2)⟩,
   ⟨(some 18), none, .call (.c (.func (.func 47) #[] #[])) [(.t 15), (.t 16), (.t 17)]⟩,
   ⟨(some 6), none, .move (.t 18)⟩] (some [6]))
 .ret))), [.tmp 6]⟩

theorem is140 : FnIs Tryz.prog 140 x140 := ⟨Tryz.f140, _, Tryz.func140, by kernel_rfl, rfl, by kernel_rfl, by decide, by kernel_rfl⟩

/-- cloisonne/sector.Right -/
def x146 : XDecl := .code ⟨1, 
 (.seq (.ops [⟨(some 1), none, .box (.t 0)⟩,
   ⟨(some 2), none, .move (.c (.bool false))⟩] (some [1]))
 (.seq (.ops [⟨(some 3), none, .fieldAddr 0 (.t 1)⟩,
   ⟨(some 4), none, .load false 1 (.t 3)⟩,
   ⟨(some 5), none, .call (.c (.func (.func 180) #[] #[])) [(.t 4), (.c (.int .i64 1)), (.c (.int .i64 2147483647))]⟩,
   ⟨(some 6), none, .move (.t 5)⟩,
   ⟨(some 7), (some (6, true)), .fieldAddr 2 (.t 1)⟩,
   ⟨(some 8), (some (6, true)), .load false 1 (.t 7)⟩,
   ⟨(some 9), (some (6, true)), .call (.c (.func (.func 180) #[] #[])) [(.t 8), (.c (.int .i64 1)), (.c (.int .i64 2147483647))]⟩,
   ⟨(some 10), none, .pick (.t 6) (.t 9) (.c (.bool false))⟩,
   ⟨(some 11), none, .move (.t 10)⟩,
   ⟨(some 12), (some (11, true)), .fieldAddr 1 (.t 1)⟩,
   ⟨(some 13), (some (11, true)), .load false 1 (.t 12)⟩,
   ⟨(some 14), (some (11, true)), .call (.c (.func (.func 180) #[] #[])) [(.t 13), (.c (.int .i64 0)), (.c (.int .i64 127))]⟩,
   ⟨(some 15), none, .pick (.t 11) (.t 14) (.c (.bool false))⟩,
   ⟨(some 16), none, .move (.t 15)⟩,
   ⟨(some 17), (some (16, true)), .fieldAddr 4 (.t 1)⟩,
   ⟨(some 18), (some (16, true)), .load false 1 (.t 17)⟩,
   ⟨(some 19), (some (16, true)), .call (.c (.func (.func 180) #[] #[])) [(.t 18), (.c (.int .i64 1)), (.c (.int .i64 128))]⟩,
   ⟨(some 20), none, .pick (.t 16) (.t 19) (.c (.bool false))⟩,
   ⟨(some 21), none, .move (.t 20)⟩,
   ⟨(some 22), (some (21, true)), .fieldAddr 3 (.t 1)⟩,
   ⟨(some 23), (some (21, true)), .load false 1 (.t 22)⟩,
   ⟨(some 24), (some (21, true)), .fieldAddr 4 (.t 1)⟩,
   ⟨(some 25), (some (21, true)), .load false 1 (.t 24)⟩,
   ⟨(some 26), (some (21, true)), .bin .sub 3 (.t 25) (.c (.int .i64 1))⟩,
   ⟨(some 27), (some (21, true)), .call (.c (.func (.func 180) #[] #[])) [(.t 23), (.c (.int .i64 0)), (.t 26)]⟩,
   ⟨(some 28), none, .pick (.t 21) (.t 27) (.c (.bool false))⟩,
   ⟨(some 2), none, .move (.t 28)⟩] (some [2]))
 .ret)), [.tmp 2]⟩

theorem is146 : FnIs Tryz.prog 146 x146 := ⟨Tryz.f146, _, Tryz.func146, by kernel_rfl, rfl, by kernel_rfl, by decide, by kernel_rfl⟩

/-- cloisonne/wire.parts -/
def x152 : XDecl := .code ⟨1, 
 (.seq (.ops [⟨(some 2), none, .move (.c (.slice none 0 0))⟩,
   ⟨(some 3), none, .move (.c (.slice none 0 0))⟩,
   ⟨(some 4), none, .move (.c (.bool false))⟩] (some [0]))
 (.seq (.ops [⟨(some 5), none, .move (.c (.slice none 0 0))⟩] (some [0, 5]))
 (.seq (.ops [⟨(some 6), none, .move (.c (.slice none 0 0))⟩] (some [0, 5, 6]))
 (.seq (.ops [⟨(some 7), none, .move (.c (.bool false))⟩] (some [0, 5, 6, 7]))
 (.seq (.seq (.ops [⟨(some 10), none, .move (.t 0)⟩,
   ⟨(some 11), none, .calcB .len [9] 3 [(.t 10)]⟩,
   ⟨(some 12), none, .move (.c (.int .i64 0))⟩] (some [0, 5, 6, 7, 11, 12]))
 (.block 0
  (.loop
   (.seq (.ops [⟨(some 13), none, .bin .lss 3 (.t 12) (.t 11)⟩] (some [0, 5, 6, 7, 11, 12, 13]))
   (.seq (.cond (.t 13)
    .skip
    (.exit 0))
   (.seq (.block 1
    (.seq (.ops [⟨(some 14), none, .move (.t 12)⟩,
      ⟨(some 8), none, .move (.t 14)⟩] (some [0, 5, 6, 7, 8, 11, 12]))
    (.seq (.ops [⟨(some 15), none, .move (.t 0)⟩,
      ⟨(some 16), none, .move (.t 8)⟩,
      ⟨(some 17), none, .index 9 (.t 15) (.t 16)⟩,
      ⟨(some 9), none, .move (.t 17)⟩] (some [0, 5, 6, 7, 9, 11, 12]))
    (.block 2
     (.seq (.ops [⟨(some 19), none, .move (.t 9)⟩,
       ⟨(some 20), none, .bin .eql 5 (.t 19) (.c (.int .u8 42))⟩,
       ⟨(some 21), none, .move (.t 20)⟩,
       ⟨(some 22), (some (21, true)), .move (.t 7)⟩,
       ⟨(some 23), (some (21, true)), .un .not (.t 22)⟩,
       ⟨(some 24), none, .pick (.t 21) (.t 23) (.c (.bool false))⟩,
       ⟨(some 18), none, .move (.t 24)⟩] (some [0, 5, 6, 7, 9, 11, 12, 18]))
     (.cond (.t 18)
      (.ops [⟨(some 7), none, .move (.c (.bool true))⟩] (some [0, 5, 6, 7, 11, 12]))
      (.seq (.ops [⟨(some 26), none, .move (.t 9)⟩,
        ⟨(some 27), none, .call (.c (.func (.func 189) #[] #[])) [(.t 26)]⟩,
        ⟨(some 25), none, .move (.t 27)⟩] (some [0, 5, 6, 7, 9, 11, 12, 25]))
      (.cond (.t 25)
       (.seq (.ops [⟨(some 28), none, .move (.t 5)⟩,
         ⟨(some 29), none, .move (.t 9)⟩,
         ⟨(some 30), none, .buildSlice [(.int .u8 0)] 1 1 [(0, (.t 29))]⟩,
         ⟨(some 31), none, .append 1 1 [(.int .u8 0)] (.t 28) (.t 30)⟩,
         ⟨(some 32), none, .move (.t 6)⟩,
         ⟨(some 33), none, .move (.t 7)⟩,
         ⟨(some 34), none, .buildSlice [(.bool false)] 1 1 [(0, (.t 33))]⟩,
         ⟨(some 35), none, .append 1 1 [(.bool false)] (.t 32) (.t 34)⟩,
         ⟨(some 5), none, .move (.t 31)⟩,
         ⟨(some 6), none, .move (.t 35)⟩] (some [0, 5, 6, 11, 12]))
       (.ops [⟨(some 7), none, .move (.c (.bool false))⟩] (some [0, 5, 6, 7, 11, 12])))
       (.seq (.ops [⟨(some 2), none, .move (.c (.slice none 0 0))⟩,
         ⟨(some 3), none, .move (.c (.slice none 0 0))⟩,
         ⟨(some 4), none, .move (.c (.bool false))⟩] (some [2, 3, 4]))
       .ret)))))))))
   (.ops [⟨(some 36), none, .bin .add 3 (.t 12) (.c (.int .i64 1))⟩,
     ⟨(some 12), none, .move (.t 36)⟩] (some [0, 5, 6, 7, 11, 12]))))))))
 (.seq (.ops [⟨(some 37), none, .move (.t 5)⟩,
   ⟨(some 38), none, .move (.t 6)⟩,
   ⟨(some 39), none, .move (.t 7)⟩,
   ⟨(some 40), none, .un .not (.t 39)⟩,
   ⟨(some 41), none, .move (.t 40)⟩,
   ⟨(some 42), (some (41, true)), .move (.t 0)⟩,
   ⟨(some 43), (some (41, true)), .calcB .len [9] 3 [(.t 42)]⟩,
   ⟨(some 44), (some (41, true)), .bin .leq 3 (.t 43) (.c (.int .i64 40))⟩,
   ⟨(some 45), none, .pick (.t 41) (.t 44) (.c (.bool false))⟩,
   ⟨(some 2), none, .move (.t 37)⟩,
   ⟨(some 3), none, .move (.t 38)⟩,
   ⟨(some 4), none, .move (.t 45)⟩] (some [2, 3, 4]))
 .ret)))))), [.tmp 2, .tmp 3, .tmp 4]⟩

theorem is152 : FnIs Tryz.prog 152 x152 := ⟨Tryz.f152, _, Tryz.func152, by kernel_rfl, rfl, by kernel_rfl, by decide, by kernel_rfl⟩

/-- cloisonne/wire.check -/
def x153 : XDecl := .code ⟨2, 
 (.seq (.ops [⟨(some 4), none, .move (.t 0)⟩,
   ⟨(some 5), none, .un .not (.t 4)⟩] (some [1, 5]))
 (.cond (.t 5)
  (.ops [⟨(some 6), none, .move (.t 1)⟩,
    ⟨(some 7), none, .makeIface 291 (.t 6)⟩,
    ⟨none, none, .fail⟩] (some []))
  .skip)), []⟩

theorem is153 : FnIs Tryz.prog 153 x153 := ⟨Tryz.f153, _, Tryz.func153, by kernel_rfl, rfl, by kernel_rfl, by decide, by kernel_rfl⟩

/-- (*cloisonne/wire.printer).one -/
def x155 : XDecl := .code ⟨3, 
 (.seq (.ops [⟨(some 5), none, .box (.t 2)⟩] (some [0, 1, 5]))
 (.seq (.ops [⟨(some 9), none, .fieldAddr 3 (.t 5)⟩,
   ⟨(some 10), none, .load false 1 (.t 9)⟩,
   ⟨(some 11), none, .len (.t 10)⟩,
   ⟨(some 12), none, .bin .eql 3 (.t 11) (.c (.int .i64 0))⟩,
   ⟨(some 13), none, .call (.c (.func (.func 153) #[] #[])) [(.t 12), (.c (.int .i64 1))]⟩] (some [0, 1, 5]))
 (.seq (.ops [⟨(some 14), none, .move (.t 1)⟩] (some [0, 5, 14]))
 (.block 0
  (.seq (.ops [⟨(some 16), none, .bin .eql 5 (.t 14) (.c (.int .u8 98))⟩,
    ⟨(some 15), none, .move (.t 16)⟩] (some [0, 5, 14, 15]))
  (.cond (.t 15)
   (.seq (.ops [⟨(some 17), none, .load true 4 (.t 5)⟩,
     ⟨(some 18), none, .call (.c (.func (.func 190) #[] #[])) [(.t 17), (.c (.bool true)), (.c (.bool false)), (.c (.bool false))]⟩,
     ⟨(some 19), none, .move (.t 18)⟩,
     ⟨(some 20), (some (19, true)), .fieldAddr 0 (.t 5)⟩,
     ⟨(some 21), (some (19, true)), .load false 1 (.t 20)⟩,
     ⟨(some 22), (some (19, true)), .bin .leq 40 (.t 21) (.c (.int .u64 255))⟩,
     ⟨(some 23), none, .pick (.t 19) (.t 22) (.c (.bool false))⟩,
     ⟨(some 24), none, .call (.c (.func (.func 153) #[] #[])) [(.t 23), (.c (.int .i64 1))]⟩] (some [0, 5]))
   (.opsd [(0, 0, ⟨(some 25), none, .move (.t 0)⟩),
     (1, 0, ⟨(some 26), none, .move (.t 0)⟩),
     (2, 2, ⟨(some 27), none, .nilCheck (.t 26)⟩),
     (3, 6, ⟨(some 28), none, .fieldAddr 0 (.t 27)⟩),
     (4, 14, ⟨(some 29), none, .load false 1 (.t 28)⟩),
     (5, 0, ⟨(some 30), none, .fieldAddr 0 (.t 5)⟩),
     (6, 32, ⟨(some 31), none, .load false 1 (.t 30)⟩),
     (7, 96, ⟨(some 32), none, .conv 40 5 (.t 31)⟩),
     (8, 224, ⟨(some 33), none, .buildSlice [(.int .u8 0)] 1 1 [(0, (.t 32))]⟩),
     (9, 510, ⟨(some 34), none, .append 1 1 [(.int .u8 0)] (.t 29) (.t 33)⟩),
     (10, 1023, ⟨(some 35), none, .nilCheck (.t 25)⟩),
     (11, 2047, ⟨(some 36), none, .fieldAddr 0 (.t 35)⟩),
     (12, 4095, ⟨none, none, .store 1 (.t 36) (.t 34)⟩)] (some [])))
   (.seq (.ops [⟨(some 38), none, .bin .eql 5 (.t 14) (.c (.int .u8 110))⟩,
     ⟨(some 37), none, .move (.t 38)⟩] (some [0, 5, 14, 37]))
   (.cond (.t 37)
    (.seq (.ops [⟨(some 39), none, .load true 4 (.t 5)⟩,
      ⟨(some 40), none, .call (.c (.func (.func 190) #[] #[])) [(.t 39), (.c (.bool true)), (.c (.bool false)), (.c (.bool false))]⟩,
      ⟨(some 41), none, .call (.c (.func (.func 153) #[] #[])) [(.t 40), (.c (.int .i64 1))]⟩] (some [0, 5]))
    (.ops [⟨(some 42), none, .move (.t 0)⟩,
      ⟨(some 43), none, .fieldAddr 0 (.t 5)⟩,
      ⟨(some 44), none, .load false 1 (.t 43)⟩,
      ⟨(some 45), none, .call (.c (.func (.func 191) #[] #[])) [(.t 42), (.t 44)]⟩] (some [])))
    (.seq (.ops [⟨(some 47), none, .bin .eql 5 (.t 14) (.c (.int .u8 116))⟩,
      ⟨(some 46), none, .move (.t 47)⟩] (some [0, 5, 14, 46]))
    (.cond (.t 46)
     (.seq (.ops [⟨(some 48), none, .load true 4 (.t 5)⟩,
       ⟨(some 49), none, .call (.c (.func (.func 190) #[] #[])) [(.t 48), (.c (.bool false)), (.c (.bool true)), (.c (.bool false))]⟩,
       ⟨(some 50), none, .move (.t 49)⟩,
       ⟨(some 51), (some (50, true)), .fieldAddr 1 (.t 5)⟩,
       ⟨(some 52), (some (50, true)), .load false 1 (.t 51)⟩,
       ⟨(some 53), (some (50, true)), .calcB .len [9] 3 [(.t 52)]⟩,
       ⟨(some 54), (some (50, true)), .bin .leq 3 (.t 53) (.c (.int .i64 200))⟩,
       ⟨(some 55), none, .pick (.t 50) (.t 54) (.c (.bool false))⟩,
       ⟨(some 56), none, .call (.c (.func (.func 153) #[] #[])) [(.t 55), (.c (.int .i64 1))]⟩] (some [0, 5]))
     (.seq (.ops [⟨(some 57), none, .move (.t 0)⟩,
       ⟨(some 58), none, .fieldAddr 1 (.t 5)⟩,
       ⟨(some 59), none, .load false 1 (.t 58)⟩,
       ⟨(some 60), none, .calcB .len [9] 3 [(.t 59)]⟩,
       ⟨(some 61), none, .conv 3 40 (.t 60)⟩,
       ⟨(some 62), none, .call (.c (.func (.func 191) #[] #[])) [(.t 57), (.t 61)]⟩] (some [0, 5]))
     (.opsd [(0, 0, ⟨(some 63), none, .move (.t 0)⟩),
       (1, 0, ⟨(some 64), none, .move (.t 0)⟩),
       (2, 2, ⟨(some 65), none, .nilCheck (.t 64)⟩),
       (3, 6, ⟨(some 66), none, .fieldAddr 0 (.t 65)⟩),
       (4, 14, ⟨(some 67), none, .load false 1 (.t 66)⟩),
       (5, 0, ⟨(some 68), none, .fieldAddr 1 (.t 5)⟩),
       (6, 32, ⟨(some 69), none, .load false 1 (.t 68)⟩),
       (7, 126, ⟨(some 70), none, .append 1 1 [(.int .u8 0)] (.t 67) (.t 69)⟩),
       (8, 255, ⟨(some 71), none, .nilCheck (.t 63)⟩),
       (9, 511, ⟨(some 72), none, .fieldAddr 0 (.t 71)⟩),
       (10, 1023, ⟨none, none, .store 1 (.t 72) (.t 70)⟩)] (some []))))
     (.seq (.ops [⟨(some 74), none, .bin .eql 5 (.t 14) (.c (.int .u8 102))⟩,
       ⟨(some 73), none, .move (.t 74)⟩] (some [0, 5, 14, 73]))
     (.cond (.t 73)
      (.seq (.ops [⟨(some 75), none, .fieldAddr 0 (.t 5)⟩,
        ⟨(some 76), none, .load false 1 (.t 75)⟩,
        ⟨(some 77), none, .call (.c (.func (.func 110) #[] #[])) [(.t 76)]⟩,
        ⟨(some 6), none, .move (.t 77)⟩] (some [0, 5, 6]))
      (.seq (.opsd [(0, 0, ⟨(some 78), none, .load true 4 (.t 5)⟩),
        (1, 1, ⟨(some 79), none, .call (.c (.func (.func 190) #[] #[])) [(.t 78), (.c (.bool true)), (.c (.bool false)), (.c (.bool false))]⟩),
        (2, 3, ⟨(some 80), none, .move (.t 79)⟩),
        (3, 7, ⟨(some 81), (some (80, true)), .move (.t 6)⟩),
        (5, 7, ⟨(some 83), (some (80, true)), .fieldAddr 0 (.t 5)⟩),
        (6, 39, ⟨(some 84), (some (80, true)), .load false 1 (.t 83)⟩),
        (4, 15, ⟨(some 82), (some (80, true)), .call (.c (.func (.func 109) #[] #[])) [(.t 81)]⟩),
        (7, 127, ⟨(some 85), (some (80, true)), .bin .eql 40 (.t 82) (.t 84)⟩),
        (8, 255, ⟨(some 86), none, .pick (.t 80) (.t 85) (.c (.bool false))⟩),
        (9, 511, ⟨(some 87), none, .call (.c (.func (.func 153) #[] #[])) [(.t 86), (.c (.int .i64 1))]⟩)] (some [0, 6]))
      (.opsd [(0, 0, ⟨(some 88), none, .move (.t 0)⟩),
        (1, 0, ⟨(some 89), none, .move (.t 0)⟩),
        (2, 2, ⟨(some 90), none, .nilCheck (.t 89)⟩),
        (3, 6, ⟨(some 91), none, .fieldAddr 0 (.t 90)⟩),
        (4, 14, ⟨(some 92), none, .load false 1 (.t 91)⟩),
        (5, 0, ⟨(some 93), none, .move (.t 6)⟩),
        (6, 32, ⟨(some 94), none, .call (.c (.func (.func 165) #[] #[])) [(.t 93)]⟩),
        (7, 126, ⟨(some 95), none, .append 1 1 [(.int .u8 0)] (.t 92) (.t 94)⟩),
        (8, 255, ⟨(some 96), none, .nilCheck (.t 88)⟩),
        (9, 511, ⟨(some 97), none, .fieldAddr 0 (.t 96)⟩),
        (10, 1023, ⟨none, none, .store 1 (.t 97) (.t 95)⟩)] (some []))))
      (.seq (.ops [⟨(some 99), none, .bin .eql 5 (.t 14) (.c (.int .u8 108))⟩,
        ⟨(some 98), none, .move (.t 99)⟩] (some [0, 5, 98]))
      (.cond (.t 98)
       (.seq (.ops [⟨(some 101), none, .fieldAddr 2 (.t 5)⟩,
         ⟨(some 102), none, .load false 1 (.t 101)⟩,
         ⟨(some 103), none, .call (.c (.func (.func 192) #[] #[])) [(.t 102)]⟩,
         ⟨(some 100), none, .move (.t 103)⟩,
         ⟨(some 104), none, .extract (.t 100) 0⟩,
         ⟨(some 105), none, .extract (.t 100) 1⟩,
         ⟨(some 7), none, .move (.t 104)⟩,
         ⟨(some 8), none, .move (.t 105)⟩] (some [0, 5, 7, 8]))
       (.seq (.ops [⟨(some 106), none, .load true 4 (.t 5)⟩,
         ⟨(some 107), none, .call (.c (.func (.func 190) #[] #[])) [(.t 106), (.c (.bool false)), (.c (.bool false)), (.c (.bool true))]⟩,
         ⟨(some 108), none, .move (.t 107)⟩,
         ⟨(some 109), (some (108, true)), .move (.t 8)⟩,
         ⟨(some 110), (some (108, true)), .bin .eql 28 (.t 109) (.c (.int .i64 0))⟩,
         ⟨(some 111), none, .pick (.t 108) (.t 110) (.c (.bool false))⟩,
         ⟨(some 112), none, .call (.c (.func (.func 153) #[] #[])) [(.t 111), (.c (.int .i64 1))]⟩] (some [0, 7]))
       (.ops [⟨(some 113), none, .move (.t 0)⟩,
         ⟨(some 114), none, .move (.t 0)⟩,
         ⟨(some 115), none, .nilCheck (.t 114)⟩,
         ⟨(some 116), none, .fieldAddr 0 (.t 115)⟩,
         ⟨(some 117), none, .load false 1 (.t 116)⟩,
         ⟨(some 118), none, .move (.t 7)⟩,
         ⟨(some 119), none, .append 1 1 [(.int .u8 0)] (.t 117) (.t 118)⟩,
         ⟨(some 120), none, .nilCheck (.t 113)⟩,
         ⟨(some 121), none, .fieldAddr 0 (.t 120)⟩,
         ⟨none, none, .store 1 (.t 121) (.t 119)⟩] (some []))))
       .skip)))))))))))))), []⟩

theorem is155 : FnIs Tryz.prog 155 x155 := ⟨Tryz.f155, _, Tryz.func155, by kernel_rfl, rfl, by kernel_rfl, by decide, by kernel_rfl⟩

/-- cloisonne/sector.Count -/
def x156 : XDecl := .code ⟨1, 
 (.seq (.ops [⟨(some 2), none, .move (.c (.int .i64 0))⟩] (some [0]))
 (.seq (.seq (.ops [⟨(some 3), none, .move (.t 0)⟩,
   ⟨(some 4), none, .bin .lss 3 (.t 3) (.c (.int .i64 0))⟩] (some [0, 4]))
 (.cond (.t 4)
  (.seq (.ops [⟨(some 2), none, .move (.c (.int .i64 0))⟩] (some [2]))
  .ret)
  .skip))
 (.seq (.ops [⟨(some 5), none, .move (.t 0)⟩,
   ⟨(some 6), none, .bin .sub 3 (.t 5) (.c (.int .i64 1))⟩,
   ⟨(some 7), none, .bin .quo 3 (.t 6) (.c (.int .i64 50))⟩,
   ⟨(some 8), none, .bin .add 3 (.t 7) (.c (.int .i64 1))⟩,
   ⟨(some 9), none, .calcB .max [3, 3] 3 [(.c (.int .i64 1)), (.t 8)]⟩,
   ⟨(some 2), none, .move (.t 9)⟩] (some [2]))
 .ret))), [.tmp 2]⟩

theorem is156 : FnIs Tryz.prog 156 x156 := ⟨Tryz.f156, _, Tryz.func156, by kernel_rfl, rfl, by kernel_rfl, by decide, by kernel_rfl⟩

/-- cloisonne/chain.Add -/
def x167 : XDecl := .code ⟨2, 
 (.seq (.ops [⟨(some 3), none, .box (.t 1)⟩,
   ⟨(some 4), none, .move (.c (.slice none 0 0))⟩,
   ⟨(some 5), none, .move (.c (.int .i64 0))⟩] (some [0, 3]))
 (.seq (.opsd [(0, 0, ⟨(some 7), none, .move (.t 0)⟩),
   (2, 0, ⟨(some 9), none, .load true 5 (.t 3)⟩),
   (3, 4, ⟨(some 10), none, .buildSlice [(.int .i64 0), (.bool false), (.bool false), (.string .empty), (.int .u64 0)] 5 1 [(0, (.t 9))]⟩),
   (1, 1, ⟨(some 8), none, .call (.c (.func (.func 198) #[] #[])) [(.t 7)]⟩),
   (4, 15, ⟨(some 11), none, .append 5 48 [(.int .i64 0), (.bool false), (.bool false), (.string .empty), (.int .u64 0)] (.t 8) (.t 10)⟩),
   (5, 31, ⟨(some 6), none, .move (.t 11)⟩)] (some [6]))
 (.seq (.seq (.ops [⟨(some 12), none, .move (.t 6)⟩,
   ⟨(some 13), none, .call (.c (.func (.func 176) #[] #[])) [(.t 12)]⟩,
   ⟨(some 14), none, .un .not (.t 13)⟩] (some [6, 14]))
 (.cond (.t 14)
  (.seq (.ops [⟨(some 4), none, .move (.c (.slice none 0 0))⟩,
    ⟨(some 5), none, .move (.c (.int .i64 1))⟩] (some [4, 5]))
  .ret)
  .skip))
 (.seq (.ops [⟨(some 15), none, .move (.t 6)⟩,
   ⟨(some 4), none, .move (.t 15)⟩,
   ⟨(some 5), none, .move (.c (.int .i64 0))⟩] (some [4, 5]))
 .ret)))), [.tmp 4, .tmp 5]⟩

theorem is167 : FnIs Tryz.prog 167 x167 := ⟨Tryz.f167, _, Tryz.func167, by kernel_rfl, rfl, by kernel_rfl, by decide, by kernel_rfl⟩

/-- (*cloisonne/room.Room).lay -/
def x168 : XDecl := .code ⟨3, 
 (.seq (.ops [⟨(some 11), none, .move (.t 0)⟩,
   ⟨(some 12), none, .move (.t 1)⟩,
   ⟨(some 13), none, .call (.c (.func (.func 136) #[] #[])) [(.t 11), (.t 12)]⟩,
   ⟨(some 6), none, .move (.t 13)⟩] (some [0, 1, 2, 6]))
 (.seq (.ops [⟨(some 14), none, .move (.t 0)⟩,
   ⟨(some 15), none, .nilCheck (.t 14)⟩,
   ⟨(some 16), none, .fieldAddr 10 (.t 15)⟩,
   ⟨(some 17), none, .load false 1 (.t 16)⟩,
   ⟨(some 18), none, .move (.t 2)⟩,
   ⟨(some 19), none, .len (.t 18)⟩,
   ⟨(some 20), none, .move (.t 6)⟩,
   ⟨(some 21), none, .len (.t 20)⟩,
   ⟨(some 22), none, .bin .sub 3 (.t 19) (.t 21)⟩,
   ⟨(some 23), none, .bin .add 3 (.t 17) (.t 22)⟩,
   ⟨(some 24), none, .nilCheck (.t 14)⟩,
   ⟨(some 25), none, .fieldAddr 10 (.t 24)⟩,
   ⟨none, none, .store 1 (.t 25) (.t 23)⟩] (some [0, 1, 2, 6]))
 (.seq (.ops [⟨(some 26), none, .move (.t 1)⟩,
   ⟨(some 27), none, .move (.t 6)⟩,
   ⟨(some 28), none, .call (.c (.func (.func 170) #[] #[])) [(.t 26), (.t 27)]⟩,
   ⟨(some 29), none, .move (.t 1)⟩,
   ⟨(some 30), none, .move (.t 2)⟩,
   ⟨(some 31), none, .call (.c (.func (.func 170) #[] #[])) [(.t 29), (.t 30)]⟩,
   ⟨(some 7), none, .move (.t 28)⟩,
   ⟨(some 8), none, .move (.t 31)⟩] (some [0, 1, 2, 7, 8]))
 (.seq (.ops [⟨(some 32), none, .move (.t 0)⟩,
   ⟨(some 33), none, .nilCheck (.t 32)⟩,
   ⟨(some 34), none, .fieldAddr 8 (.t 33)⟩,
   ⟨(some 35), none, .load false 1 (.t 34)⟩,
   ⟨(some 36), none, .move (.t 8)⟩,
   ⟨(some 37), none, .move (.t 7)⟩,
   ⟨(some 38), none, .bin .sub 3 (.t 36) (.t 37)⟩,
   ⟨(some 39), none, .bin .add 3 (.t 35) (.t 38)⟩,
   ⟨(some 40), none, .nilCheck (.t 32)⟩,
   ⟨(some 41), none, .fieldAddr 8 (.t 40)⟩,
   ⟨none, none, .store 1 (.t 41) (.t 39)⟩] (some [0, 1, 2, 7, 8]))
 (.seq (.ops [⟨(some 42), none, .move (.t 0)⟩,
   ⟨(some 43), none, .nilCheck (.t 42)⟩,
   ⟨(some 44), none, .fieldAddr 9 (.t 43)⟩,
   ⟨(some 45), none, .load false 1 (.t 44)⟩,
   ⟨(some 46), none, .move (.t 8)⟩,
   ⟨(some 47), none, .calcB .min [3, 3] 3 [(.t 46), (.c (.int .i64 1))]⟩,
   ⟨(some 48), none, .move (.t 7)⟩,
   ⟨(some 49), none, .calcB .min [3, 3] 3 [(.t 48), (.c (.int .i64 1))]⟩,
   ⟨(some 50), none, .bin .sub 3 (.t 47) (.t 49)⟩,
   ⟨(some 51), none, .bin .add 3 (.t 45) (.t 50)⟩,
   ⟨(some 52), none, .nilCheck (.t 42)⟩,
   ⟨(some 53), none, .fieldAddr 9 (.t 52)⟩,
   ⟨none, none, .store 1 (.t 53) (.t 51)⟩] (some [0, 1, 2]))
 (.seq (.ops [⟨(some 55), none, .move (.t 0)⟩,
   ⟨(some 56), none, .nilCheck (.t 55)⟩,
   ⟨(some 57), none, .fieldAddr 5 (.t 56)⟩,
   ⟨(some 58), none, .load false 1 (.t 57)⟩,
   ⟨(some 59), none, .move (.t 1)⟩,
   ⟨(some 60), none, .call (.c (.func (.func 178) #[] #[])) [(.t 58), (.t 59)]⟩,
   ⟨(some 54), none, .move (.t 60)⟩,
   ⟨(some 61), none, .extract (.t 54) 0⟩,
   ⟨(some 62), none, .extract (.t 54) 1⟩,
   ⟨(some 9), none, .move (.t 61)⟩,
   ⟨(some 10), none, .move (.t 62)⟩] (some [0, 1, 2, 9, 10]))
 (.block 0
  (.seq (.ops [⟨(some 64), none, .move (.t 10)⟩,
    ⟨(some 65), none, .move (.t 64)⟩,
    ⟨(some 66), (some (65, true)), .move (.t 2)⟩,
    ⟨(some 67), (some (65, true)), .len (.t 66)⟩,
    ⟨(some 68), (some (65, true)), .bin .eql 3 (.t 67) (.c (.int .i64 0))⟩,
    ⟨(some 69), none, .pick (.t 65) (.t 68) (.c (.bool false))⟩,
    ⟨(some 63), none, .move (.t 69)⟩] (some [0, 1, 2, 9, 10, 63]))
  (.cond (.t 63)
   (.seq (.ops [⟨(some 70), none, .move (.t 0)⟩,
     ⟨(some 71), none, .nilCheck (.t 70)⟩,
     ⟨(some 72), none, .fieldAddr 5 (.t 71)⟩,
     ⟨(some 73), none, .load false 1 (.t 72)⟩,
     ⟨(some 74), none, .move (.t 1)⟩,
     ⟨(some 75), none, .call (.c (.func (.func 199) #[] #[])) [(.t 73), (.t 74)]⟩] (some [0, 9]))
   (.seq (.ops [⟨(some 76), none, .move (.t 0)⟩,
     ⟨(some 77), none, .nilCheck (.t 76)⟩,
     ⟨(some 78), none, .fieldAddr 6 (.t 77)⟩,
     ⟨(some 79), none, .load false 1 (.t 78)⟩,
     ⟨(some 80), none, .move (.t 9)⟩,
     ⟨(some 81), none, .indexAddr 1 (.t 79) (.t 80)⟩,
     ⟨none, none, .store 1 (.t 81) (.c (.slice none 0 0))⟩] (some [0, 9]))
   (.ops [⟨(some 82), none, .move (.t 0)⟩,
     ⟨(some 83), none, .move (.t 0)⟩,
     ⟨(some 84), none, .nilCheck (.t 83)⟩,
     ⟨(some 85), none, .fieldAddr 7 (.t 84)⟩,
     ⟨(some 86), none, .load false 1 (.t 85)⟩,
     ⟨(some 87), none, .move (.t 9)⟩,
     ⟨(some 88), none, .buildSlice [(.int .i64 0)] 1 1 [(0, (.t 87))]⟩,
     ⟨(some 89), none, .append 1 8 [(.int .i64 0)] (.t 86) (.t 88)⟩,
     ⟨(some 90), none, .nilCheck (.t 82)⟩,
     ⟨(some 91), none, .fieldAddr 7 (.t 90)⟩,
     ⟨none, none, .store 1 (.t 91) (.t 89)⟩] (some []))))
   (.seq (.ops [⟨(some 93), none, .move (.t 10)⟩,
     ⟨(some 92), none, .move (.t 93)⟩] (some [0, 1, 2, 9, 92]))
   (.cond (.t 92)
    (.ops [⟨(some 94), none, .move (.t 0)⟩,
      ⟨(some 95), none, .nilCheck (.t 94)⟩,
      ⟨(some 96), none, .fieldAddr 6 (.t 95)⟩,
      ⟨(some 97), none, .load false 1 (.t 96)⟩,
      ⟨(some 98), none, .move (.t 9)⟩,
      ⟨(some 99), none, .move (.t 2)⟩,
      ⟨(some 100), none, .indexAddr 1 (.t 97) (.t 98)⟩,
      ⟨none, none, .store 1 (.t 100) (.t 99)⟩] (some []))
    (.seq (.ops [⟨(some 102), none, .move (.t 2)⟩,
      ⟨(some 103), none, .len (.t 102)⟩,
      ⟨(some 104), none, .bin .gtr 3 (.t 103) (.c (.int .i64 0))⟩,
      ⟨(some 105), none, .move (.t 104)⟩,
      ⟨(some 106), (some (105, true)), .move (.t 0)⟩,
      ⟨(some 107), (some (105, true)), .nilCheck (.t 106)⟩,
      ⟨(some 108), (some (105, true)), .fieldAddr 7 (.t 107)⟩,
      ⟨(some 109), (some (105, true)), .load false 1 (.t 108)⟩,
      ⟨(some 110), (some (105, true)), .len (.t 109)⟩,
      ⟨(some 111), (some (105, true)), .bin .gtr 3 (.t 110) (.c (.int .i64 0))⟩,
      ⟨(some 112), none, .pick (.t 105) (.t 111) (.c (.bool false))⟩,
      ⟨(some 101), none, .move (.t 112)⟩] (some [0, 1, 2, 101]))
    (.cond (.t 101)
     (.seq (.opsr [⟨(some 113), none, .move (.t 0)⟩,
       ⟨(some 114), none, .nilCheck (.t 113)⟩,
       ⟨(some 115), none, .fieldAddr 7 (.t 114)⟩,
       ⟨(some 116), none, .load false 1 (.t 115)⟩,
       ⟨(some 117), none, .move (.t 0)⟩,
       ⟨(some 118), none, .nilCheck (.t 117)⟩,
       ⟨(some 119), none, .fieldAddr 7 (.t 118)⟩,
       ⟨(some 120), none, .load false 1 (.t 119)⟩,
       ⟨(some 121), none, .len (.t 120)⟩,
       ⟨(some 122), none, .bin .sub 3 (.t 121) (.c (.int .i64 1))⟩,
       ⟨(some 123), none, .indexAddr 1 (.t 116) (.t 122)⟩,
       ⟨(some 124), none, .load false 1 (.t 123)⟩,
       ⟨(some 9), none, .move (.t 124)⟩] (some [0, 1, 2, 9]))
     (.seq (.opsd [(0, 0, ⟨(some 125), none, .move (.t 0)⟩),
       (1, 0, ⟨(some 126), none, .move (.t 0)⟩),
       (2, 2, ⟨(some 127), none, .nilCheck (.t 126)⟩),
       (3, 6, ⟨(some 128), none, .fieldAddr 7 (.t 127)⟩),
       (4, 14, ⟨(some 129), none, .load false 1 (.t 128)⟩),
       (5, 0, ⟨(some 130), none, .move (.t 0)⟩),
       (6, 32, ⟨(some 131), none, .nilCheck (.t 130)⟩),
       (7, 96, ⟨(some 132), none, .fieldAddr 7 (.t 131)⟩),
       (8, 224, ⟨(some 133), none, .load false 1 (.t 132)⟩),
       (9, 480, ⟨(some 134), none, .len (.t 133)⟩),
       (10, 992, ⟨(some 135), none, .bin .sub 3 (.t 134) (.c (.int .i64 1))⟩),
       (11, 2046, ⟨(some 136), none, .slice 1 (.t 129) none (some (.t 135)) none⟩),
       (12, 4095, ⟨(some 137), none, .nilCheck (.t 125)⟩),
       (13, 8191, ⟨(some 138), none, .fieldAddr 7 (.t 137)⟩),
       (14, 16383, ⟨none, none, .store 1 (.t 138) (.t 136)⟩)] (some [0, 1, 2, 9]))
     (.seq (.ops [⟨(some 139), none, .move (.t 0)⟩,
       ⟨(some 140), none, .nilCheck (.t 139)⟩,
       ⟨(some 141), none, .fieldAddr 6 (.t 140)⟩,
       ⟨(some 142), none, .load false 1 (.t 141)⟩,
       ⟨(some 143), none, .move (.t 9)⟩,
       ⟨(some 144), none, .move (.t 2)⟩,
       ⟨(some 145), none, .indexAddr 1 (.t 142) (.t 143)⟩,
       ⟨none, none, .store 1 (.t 145) (.t 144)⟩] (some [0, 1, 9]))
     (.ops [⟨(some 146), none, .move (.t 0)⟩,
       ⟨(some 147), none, .nilCheck (.t 146)⟩,
       ⟨(some 148), none, .fieldAddr 5 (.t 147)⟩,
       ⟨(some 149), none, .load false 1 (.t 148)⟩,
       ⟨(some 150), none, .move (.t 1)⟩,
       ⟨(some 151), none, .move (.t 9)⟩,
       ⟨(some 152), none, .call (.c (.func (.func 200) #[] #[])) [(.t 149), (.t 150), (.t 151)]⟩] (some [])))))
     (.seq (.ops [⟨(some 154), none, .move (.t 2)⟩,
       ⟨(some 155), none, .len (.t 154)⟩,
       ⟨(some 156), none, .bin .gtr 3 (.t 155) (.c (.int .i64 0))⟩,
       ⟨(some 153), none, .move (.t 156)⟩] (some [0, 1, 2, 153]))
     (.cond (.t 153)
      (.seq (.opsd [(0, 0, ⟨(some 157), none, .move (.t 0)⟩),
        (1, 1, ⟨(some 158), none, .nilCheck (.t 157)⟩),
        (2, 3, ⟨(some 159), none, .fieldAddr 5 (.t 158)⟩),
        (3, 7, ⟨(some 160), none, .load false 1 (.t 159)⟩),
        (4, 0, ⟨(some 161), none, .move (.t 1)⟩),
        (5, 0, ⟨(some 162), none, .move (.t 0)⟩),
        (6, 32, ⟨(some 163), none, .nilCheck (.t 162)⟩),
        (7, 96, ⟨(some 164), none, .fieldAddr 6 (.t 163)⟩),
        (8, 224, ⟨(some 165), none, .load false 1 (.t 164)⟩),
        (9, 480, ⟨(some 166), none, .len (.t 165)⟩),
        (10, 1023, ⟨(some 167), none, .call (.c (.func (.func 200) #[] #[])) [(.t 160), (.t 161), (.t 166)]⟩)] (some [0, 2]))
      (.ops [⟨(some 168), none, .move (.t 0)⟩,
        ⟨(some 169), none, .move (.t 0)⟩,
        ⟨(some 170), none, .nilCheck (.t 169)⟩,
        ⟨(some 171), none, .fieldAddr 6 (.t 170)⟩,
        ⟨(some 172), none, .load false 1 (.t 171)⟩,
        ⟨(some 173), none, .move (.t 2)⟩,
        ⟨(some 174), none, .buildSlice [(.slice none 0 0)] 1 1 [(0, (.t 173))]⟩,
        ⟨(some 175), none, .append 1 24 [(.slice none 0 0)] (.t 172) (.t 174)⟩,
        ⟨(some 176), none, .nilCheck (.t 168)⟩,
        ⟨(some 177), none, .fieldAddr 6 (.t 176)⟩,
        ⟨none, none, .store 1 (.t 177) (.t 175)⟩] (some [])))
      .skip))))))))))))))), []⟩

theorem is168 : FnIs Tryz.prog 168 x168 := ⟨Tryz.f168, _, Tryz.func168, by kernel_rfl, rfl, by kernel_rfl, by decide, by kernel_rfl⟩

/-- cloisonne/room.lives -/
def x170 : XDecl := .code ⟨2, 
 (.seq (.ops [⟨(some 4), none, .move (.c (.int .i64 0))⟩] (some [0, 1]))
 (.seq (.ops [⟨(some 6), none, .move (.t 1)⟩,
   ⟨(some 7), none, .call (.c (.func (.func 201) #[] #[])) [(.t 6)]⟩,
   ⟨(some 5), none, .move (.t 7)⟩] (some [0, 5]))
 (.seq (.seq (.ops [⟨(some 8), none, .move (.t 5)⟩,
   ⟨(some 9), none, .bin .eql 3 (.t 8) (.c (.int .i64 0))⟩] (some [0, 5, 9]))
 (.cond (.t 9)
  (.seq (.ops [⟨(some 4), none, .move (.c (.int .i64 0))⟩] (some [4]))
  .ret)
  .skip))
 (.seq (.ops [⟨(some 10), none, .move (.t 0)⟩,
   ⟨(some 11), none, .calcB .len [9] 3 [(.t 10)]⟩,
   ⟨(some 12), none, .move (.t 5)⟩,
   ⟨(some 13), none, .bin .add 3 (.t 11) (.t 12)⟩,
   ⟨(some 4), none, .move (.t 13)⟩] (some [4]))
 .ret)))), [.tmp 4]⟩

theorem is170 : FnIs Tryz.prog 170 x170 := ⟨Tryz.f170, _, Tryz.func170, by kernel_rfl, rfl, by kernel_rfl, by decide, by kernel_rfl⟩

/-- cloisonne/value.Weight -/
def x171 : XDecl := .code ⟨1, 
 (.seq (.ops [⟨(some 1), none, .box (.t 0)⟩,
   ⟨(some 2), none, .move (.c (.int .i64 0))⟩] (some [1]))
 (.seq (.ops [⟨(some 6), none, .load true 3 (.t 1)⟩,
   ⟨(some 7), none, .call (.c (.func (.func 128) #[] #[])) [(.t 6)]⟩,
   ⟨(some 5), none, .move (.t 7)⟩,
   ⟨(some 8), none, .extract (.t 5) 0⟩,
   ⟨(some 9), none, .extract (.t 5) 1⟩,
   ⟨(some 3), none, .move (.t 8)⟩,
   ⟨(some 4), none, .move (.t 9)⟩] (some [3]))
 (.seq (.ops [⟨(some 10), none, .move (.t 3)⟩,
   ⟨(some 11), none, .calcB .len [9] 3 [(.t 10)]⟩,
   ⟨(some 2), none, .move (.t 11)⟩] (some [2]))
 .ret))), [.tmp 2]⟩

theorem is171 : FnIs Tryz.prog 171 x171 := ⟨Tryz.f171, _, Tryz.func171, by kernel_rfl, rfl, by kernel_rfl, by decide, by kernel_rfl⟩

/-- (*cloisonne/ring.Ring).last -/
def x172 : XDecl := .code ⟨1, 
 (.seq (.ops [⟨(some 2), none, .move (.c (.int .u64 0))⟩] (some [0]))
 (.seq (.seq (.ops [⟨(some 3), none, .move (.t 0)⟩,
   ⟨(some 4), none, .nilCheck (.t 3)⟩,
   ⟨(some 5), none, .fieldAddr 3 (.t 4)⟩,
   ⟨(some 6), none, .load false 1 (.t 5)⟩,
   ⟨(some 7), none, .len (.t 6)⟩,
   ⟨(some 8), none, .bin .eql 3 (.t 7) (.c (.int .i64 0))⟩] (some [0, 8]))
 (.cond (.t 8)
  (.seq (.ops [⟨(some 2), none, .move (.c (.int .u64 0))⟩] (some [2]))
  .ret)
  .skip))
 (.seq (.opsr [⟨(some 9), none, .move (.t 0)⟩,
   ⟨(some 10), none, .nilCheck (.t 9)⟩,
   ⟨(some 11), none, .fieldAddr 3 (.t 10)⟩,
   ⟨(some 12), none, .load false 1 (.t 11)⟩,
   ⟨(some 13), none, .move (.t 0)⟩,
   ⟨(some 14), none, .nilCheck (.t 13)⟩,
   ⟨(some 15), none, .fieldAddr 3 (.t 14)⟩,
   ⟨(some 16), none, .load false 1 (.t 15)⟩,
   ⟨(some 17), none, .len (.t 16)⟩,
   ⟨(some 18), none, .bin .sub 3 (.t 17) (.c (.int .i64 1))⟩,
   ⟨(some 19), none, .indexAddr 1 (.t 12) (.t 18)⟩,
   ⟨(some 20), none, .load false 1 (.t 19)⟩,
   ⟨(some 2), none, .move (.t 20)⟩] (some [2]))
 .ret))), [.tmp 2]⟩

theorem is172 : FnIs Tryz.prog 172 x172 := ⟨Tryz.f172, _, Tryz.func172, by kernel_rfl, rfl, by kernel_rfl, by decide, by kernel_rfl⟩


end Go.Proofs.YtepadpjpmmaodaaGreatDoor.X
