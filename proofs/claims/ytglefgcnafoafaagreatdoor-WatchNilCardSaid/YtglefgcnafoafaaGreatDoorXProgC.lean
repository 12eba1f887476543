/-
  Own work, printed by a program of ours (mkprog.py): the functions of this seat as code of the abstract run, and that each is the model's.
-/
import Derived.Test.YtglefgcnafoafaaGreatDoorXLaw
import Derived.Test.YtglefgcnafoafaaGreatDoorChecked
set_option maxRecDepth 100000
namespace Go.Proofs.YtglefgcnafoafaaGreatDoor.X
open Go

/-- (*cloisonne/vault.Vault).Log -/
def x149 : XDecl := .code ⟨2, 
 (.seq (.ops [⟨(some 4), none, .move (.c (.pointer none))⟩] (some [0, 1]))
 (.seq (.seq (.ops [⟨(some 5), none, .move (.t 0)⟩,
   ⟨(some 6), none, .move (.t 1)⟩,
   ⟨(some 7), none, .call (.c (.func (.func 210) #[] #[])) [(.t 5), (.t 6)]⟩,
   ⟨(some 8), none, .un .not (.t 7)⟩] (some [0, 1, 8]))
 (.cond (.t 8)
  (.seq (.ops [⟨(some 4), none, .move (.c (.pointer none))⟩] (some [4]))
  .ret)
  .skip))
 (.seq (.ops [⟨(some 9), none, .move (.t 0)⟩,
   ⟨(some 10), none, .nilCheck (.t 9)⟩,
   ⟨(some 11), none, .fieldAddr 7 (.t 10)⟩,
   ⟨(some 12), none, .load false 1 (.t 11)⟩,
   ⟨(some 13), none, .move (.t 1)⟩,
   ⟨(some 14), none, .bin .add 3 (.t 13) (.c (.int .i64 1))⟩,
   ⟨(some 15), none, .indexAddr 1 (.t 12) (.t 14)⟩,
   ⟨(some 16), none, .load false 1 (.t 15)⟩,
   ⟨(some 4), none, .move (.t 16)⟩] (some [4]))
 .ret))), [.tmp 4]⟩

theorem is149 : FnIs Tryz.prog 149 x149 := ⟨Tryz.f149, _, Tryz.func149, by kernel_rfl, rfl, by kernel_rfl, by decide, by kernel_rfl⟩

/-- (*cloisonne/job.Job).latch -/
def x150 : XDecl := .code ⟨1, 
 (.seq (.ops [⟨(some 2), none, .move (.c (.int .i64 0))⟩,
   ⟨(some 3), none, .move (.c (.int .i64 0))⟩] (some [0]))
 (.seq (.seq (.opsd [(0, 0, ⟨(some 4), none, .move (.t 0)⟩),
   (1, 1, ⟨(some 5), none, .nilCheck (.t 4)⟩),
   (2, 3, ⟨(some 6), none, .fieldAddr 0 (.t 5)⟩),
   (3, 7, ⟨(some 7), none, .load false 1 (.t 6)⟩),
   (4, 0, ⟨(some 8), none, .move (.t 0)⟩),
   (5, 16, ⟨(some 9), none, .nilCheck (.t 8)⟩),
   (6, 48, ⟨(some 10), none, .fieldAddr 2 (.t 9)⟩),
   (7, 112, ⟨(some 11), none, .load false 1 (.t 10)⟩),
   (8, 0, ⟨(some 12), none, .move (.t 0)⟩),
   (9, 256, ⟨(some 13), none, .nilCheck (.t 12)⟩),
   (10, 768, ⟨(some 14), none, .fieldAddr 1 (.t 13)⟩),
   (11, 1792, ⟨(some 15), none, .load false 1 (.t 14)⟩),
   (12, 4095, ⟨(some 16), none, .call (.c (.func (.func 211) #[] #[])) [(.t 7), (.t 11), (.t 15)]⟩),
   (13, 8191, ⟨(some 17), none, .un .not (.t 16)⟩)] (some [0, 17]))
 (.cond (.t 17)
  (.seq (.ops [⟨(some 2), none, .move (.c (.int .i64 3))⟩,
    ⟨(some 3), none, .move (.c (.int .i64 0))⟩] (some [2, 3]))
  .ret)
  .skip))
 (.seq (.ops [⟨(some 18), none, .move (.t 0)⟩,
   ⟨(some 19), none, .nilCheck (.t 18)⟩,
   ⟨(some 20), none, .fieldAddr 4 (.t 19)⟩,
   ⟨none, none, .store 1 (.t 20) (.c (.int .i64 1))⟩] (some []))
 (.seq (.ops [⟨(some 2), none, .move (.c (.int .i64 1))⟩,
   ⟨(some 3), none, .move (.c (.int .i64 0))⟩] (some [2, 3]))
 .ret)))), [.tmp 2, .tmp 3]⟩

theorem is150 : FnIs Tryz.prog 150 x150 := ⟨Tryz.f150, _, Tryz.func150, by kernel_rfl, rfl, by kernel_rfl, by decide, by kernel_rfl⟩

/-- (*cloisonne/job.Job).check -/
def x151 : XDecl := .code ⟨1, 
 (.seq (.ops [⟨(some 2), none, .move (.c (.int .i64 0))⟩,
   ⟨(some 3), none, .move (.c (.int .i64 0))⟩] (some [0]))
 (.seq (.opsd [(0, 0, ⟨(some 7), none, .move (.t 0)⟩),
   (1, 1, ⟨(some 8), none, .nilCheck (.t 7)⟩),
   (2, 3, ⟨(some 9), none, .fieldAddr 3 (.t 8)⟩),
   (3, 7, ⟨(some 10), none, .load false 1 (.t 9)⟩),
   (4, 0, ⟨(some 11), none, .move (.t 0)⟩),
   (5, 16, ⟨(some 12), none, .nilCheck (.t 11)⟩),
   (6, 48, ⟨(some 13), none, .fieldAddr 0 (.t 12)⟩),
   (7, 112, ⟨(some 14), none, .load false 1 (.t 13)⟩),
   (8, 15, ⟨(some 15), none, .nilCheck (.t 10)⟩),
   (9, 271, ⟨(some 16), none, .move (.t 10)⟩),
   (10, 1023, ⟨(some 17), none, .invoke [(260, 554), (537, 558), (538, 566)] (.t 16) [(.t 14)]⟩),
   (11, 2047, ⟨(some 6), none, .move (.t 17)⟩),
   (12, 4095, ⟨(some 18), none, .extract (.t 6) 0⟩),
   (13, 4095, ⟨(some 19), none, .extract (.t 6) 1⟩),
   (14, 8191, ⟨(some 4), none, .move (.t 18)⟩),
   (15, 32767, ⟨(some 5), none, .move (.t 19)⟩)] (some [0, 4, 5]))
 (.seq (.seq (.ops [⟨(some 20), none, .move (.t 5)⟩,
   ⟨(some 21), none, .bin .neq 32 (.t 20) (.c (.int .i64 0))⟩] (some [0, 4, 5, 21]))
 (.cond (.t 21)
  (.seq (.ops [⟨(some 22), none, .move (.t 0)⟩,
    ⟨(some 23), none, .move (.t 5)⟩,
    ⟨(some 24), none, .call (.c (.func (.func 212) #[] #[])) [(.t 22), (.c (.int .u64 0)), (.t 23)]⟩,
    ⟨(some 25), none, .extract (.t 24) 0⟩,
    ⟨(some 26), none, .extract (.t 24) 1⟩,
    ⟨(some 2), none, .move (.t 25)⟩,
    ⟨(some 3), none, .move (.t 26)⟩] (some [2, 3]))
  .ret)
  .skip))
 (.seq (.ops [⟨(some 27), none, .move (.t 0)⟩,
   ⟨(some 28), none, .move (.t 0)⟩,
   ⟨(some 29), none, .move (.t 4)⟩,
   ⟨(some 30), none, .nilCheck (.t 27)⟩,
   ⟨(some 31), none, .fieldAddr 5 (.t 30)⟩,
   ⟨none, none, .store 1 (.t 31) (.t 29)⟩,
   ⟨(some 32), none, .nilCheck (.t 28)⟩,
   ⟨(some 33), none, .fieldAddr 4 (.t 32)⟩,
   ⟨none, none, .store 1 (.t 33) (.c (.int .i64 2))⟩] (some []))
 (.seq (.ops [⟨(some 2), none, .move (.c (.int .i64 1))⟩,
   ⟨(some 3), none, .move (.c (.int .i64 0))⟩] (some [2, 3]))
 .ret))))), [.tmp 2, .tmp 3]⟩

theorem is151 : FnIs Tryz.prog 151 x151 := ⟨Tryz.f151, _, Tryz.func151, by kernel_rfl, rfl, by kernel_rfl, by decide, by kernel_rfl⟩

/-- (*cloisonne/job.Job).write -/
def x152 : XDecl := .code ⟨1, 
 (.seq (.ops [⟨(some 2), none, .move (.c (.int .i64 0))⟩,
   ⟨(some 3), none, .move (.c (.int .i64 0))⟩] (some [0]))
 (.seq (.ops [⟨(some 7), none, .move (.t 0)⟩,
   ⟨(some 8), none, .nilCheck (.t 7)⟩,
   ⟨(some 9), none, .fieldAddr 5 (.t 8)⟩,
   ⟨(some 10), none, .load false 1 (.t 9)⟩,
   ⟨(some 11), none, .call (.c (.func (.func 213) #[] #[])) [(.t 10)]⟩,
   ⟨(some 6), none, .move (.t 11)⟩,
   ⟨(some 12), none, .extract (.t 6) 0⟩,
   ⟨(some 13), none, .extract (.t 6) 1⟩,
   ⟨(some 4), none, .move (.t 12)⟩,
   ⟨(some 5), none, .move (.t 13)⟩] (some [0, 4, 5]))
 (.seq (.seq (.ops [⟨(some 14), none, .move (.t 5)⟩,
   ⟨(some 15), none, .bin .neq 32 (.t 14) (.c (.int .i64 0))⟩,
   ⟨(some 16), none, .move (.t 15)⟩,
   ⟨(some 17), (some (16, false)), .move (.t 4)⟩,
   ⟨(some 18), (some (16, false)), .bin .neq 3 (.t 17) (.c (.int .i64 2))⟩,
   ⟨(some 19), none, .pick (.t 16) (.c (.bool true)) (.t 18)⟩] (some [0, 4, 5, 19]))
 (.cond (.t 19)
  (.seq (.ops [⟨(some 20), none, .move (.t 4)⟩,
    ⟨(some 21), none, .move (.t 5)⟩,
    ⟨(some 2), none, .move (.t 20)⟩,
    ⟨(some 3), none, .move (.t 21)⟩] (some [2, 3]))
  .ret)
  .skip))
 (.seq (.opsd [(0, 0, ⟨(some 22), none, .move (.t 0)⟩),
   (1, 0, ⟨(some 23), none, .move (.t 0)⟩),
   (2, 2, ⟨(some 24), none, .nilCheck (.t 23)⟩),
   (3, 6, ⟨(some 25), none, .fieldAddr 3 (.t 24)⟩),
   (4, 14, ⟨(some 26), none, .load false 1 (.t 25)⟩),
   (5, 0, ⟨(some 27), none, .move (.t 0)⟩),
   (6, 32, ⟨(some 28), none, .nilCheck (.t 27)⟩),
   (7, 96, ⟨(some 29), none, .fieldAddr 0 (.t 28)⟩),
   (8, 224, ⟨(some 30), none, .load false 1 (.t 29)⟩),
   (9, 30, ⟨(some 31), none, .nilCheck (.t 26)⟩),
   (10, 542, ⟨(some 32), none, .move (.t 26)⟩),
   (11, 2046, ⟨(some 33), none, .invoke [(260, 555), (537, 559), (538, 567)] (.t 32) [(.t 30)]⟩),
   (12, 4094, ⟨(some 34), none, .extract (.t 33) 0⟩),
   (13, 4094, ⟨(some 35), none, .extract (.t 33) 1⟩),
   (14, 16383, ⟨(some 36), none, .call (.c (.func (.func 212) #[] #[])) [(.t 22), (.t 34), (.t 35)]⟩),
   (15, 32767, ⟨(some 37), none, .extract (.t 36) 0⟩),
   (16, 32767, ⟨(some 38), none, .extract (.t 36) 1⟩),
   (17, 131071, ⟨(some 2), none, .move (.t 37)⟩),
   (18, 262143, ⟨(some 3), none, .move (.t 38)⟩)] (some [2, 3]))
 .ret)))), [.tmp 2, .tmp 3]⟩

theorem is152 : FnIs Tryz.prog 152 x152 := ⟨Tryz.f152, _, Tryz.func152, by kernel_rfl, rfl, by kernel_rfl, by decide, by kernel_rfl⟩

/-- (*cloisonne/extent.World).may -/
def x153 : XDecl := .code ⟨3, 
 (.seq (.ops [⟨(some 6), none, .move (.c (.int .i64 0))⟩] (some [0, 1, 2]))
 (.seq (.block 0
  (.seq (.ops [⟨(some 8), none, .move (.t 0)⟩,
    ⟨(some 9), none, .isNil .ptr false (.t 8)⟩,
    ⟨(some 7), none, .move (.t 9)⟩] (some [0, 1, 2, 7]))
  (.cond (.t 7)
   (.seq (.ops [⟨(some 6), none, .move (.c (.int .i64 2))⟩] (some [6]))
   .ret)
   (.seq (.ops [⟨(some 11), none, .move (.t 0)⟩,
     ⟨(some 12), none, .move (.t 1)⟩,
     ⟨(some 13), none, .call (.c (.func (.func 214) #[] #[])) [(.t 11), (.t 12)]⟩,
     ⟨(some 14), none, .un .not (.t 13)⟩,
     ⟨(some 15), none, .move (.t 14)⟩,
     ⟨(some 16), (some (15, false)), .move (.t 2)⟩,
     ⟨(some 17), (some (15, false)), .bin .lss 3 (.t 16) (.c (.int .i64 0))⟩,
     ⟨(some 18), none, .pick (.t 15) (.c (.bool true)) (.t 17)⟩,
     ⟨(some 19), none, .move (.t 18)⟩,
     ⟨(some 20), (some (19, false)), .move (.t 2)⟩,
     ⟨(some 21), (some (19, false)), .move (.t 0)⟩,
     ⟨(some 22), (some (19, false)), .nilCheck (.t 21)⟩,
     ⟨(some 23), (some (19, false)), .fieldAddr 1 (.t 22)⟩,
     ⟨(some 24), (some (19, false)), .load false 1 (.t 23)⟩,
     ⟨(some 25), (some (19, false)), .bin .geq 3 (.t 20) (.t 24)⟩,
     ⟨(some 26), none, .pick (.t 19) (.c (.bool true)) (.t 25)⟩,
     ⟨(some 10), none, .move (.t 26)⟩] (some [10]))
   (.cond (.t 10)
    (.seq (.ops [⟨(some 6), none, .move (.c (.int .i64 1))⟩] (some [6]))
    .ret)
    .skip)))))
 (.seq (.ops [⟨(some 6), none, .move (.c (.int .i64 0))⟩] (some [6]))
 .ret))), [.tmp 6]⟩

theorem is153 : FnIs Tryz.prog 153 x153 := ⟨Tryz.f153, _, Tryz.func153, by kernel_rfl, rfl, by kernel_rfl, by decide, by kernel_rfl⟩

/-- cloisonne/vault.Right -/
def x154 : XDecl := .code ⟨1, 
 (.seq (.ops [⟨(some 1), none, .box (.t 0)⟩,
   ⟨(some 2), none, .move (.c (.bool false))⟩] (some [1]))
 (.seq (.seq (.ops [⟨(some 6), none, .fieldAddr 0 (.t 1)⟩,
   ⟨(some 7), none, .load false 1 (.t 6)⟩,
   ⟨(some 8), none, .call (.c (.func (.func 86) #[] #[])) [(.t 7), (.c (.int .i64 1)), (.c (.int .i64 8))]⟩,
   ⟨(some 9), none, .un .not (.t 8)⟩,
   ⟨(some 10), none, .move (.t 9)⟩,
   ⟨(some 11), (some (10, false)), .fieldAddr 1 (.t 1)⟩,
   ⟨(some 12), (some (10, false)), .load false 1 (.t 11)⟩,
   ⟨(some 13), (some (10, false)), .call (.c (.func (.func 86) #[] #[])) [(.t 12), (.c (.int .i64 1)), (.c (.int .i64 16))]⟩,
   ⟨(some 14), (some (10, false)), .un .not (.t 13)⟩,
   ⟨(some 15), none, .pick (.t 10) (.c (.bool true)) (.t 14)⟩,
   ⟨(some 16), none, .move (.t 15)⟩,
   ⟨(some 17), (some (16, false)), .fieldAddr 2 (.t 1)⟩,
   ⟨(some 18), (some (16, false)), .load false 1 (.t 17)⟩,
   ⟨(some 19), (some (16, false)), .call (.c (.func (.func 86) #[] #[])) [(.t 18), (.c (.int .i64 1)), (.c (.int .i64 128))]⟩,
   ⟨(some 20), (some (16, false)), .un .not (.t 19)⟩,
   ⟨(some 21), none, .pick (.t 16) (.c (.bool true)) (.t 20)⟩,
   ⟨(some 22), none, .move (.t 21)⟩,
   ⟨(some 23), (some (22, false)), .fieldAddr 3 (.t 1)⟩,
   ⟨(some 24), (some (22, false)), .load false 1 (.t 23)⟩,
   ⟨(some 25), (some (22, false)), .len (.t 24)⟩,
   ⟨(some 26), (some (22, false)), .bin .gtr 3 (.t 25) (.c (.int .i64 8))⟩,
   ⟨(some 27), none, .pick (.t 22) (.c (.bool true)) (.t 26)⟩] (some [1, 27]))
 (.cond (.t 27)
  (.seq (.ops [⟨(some 2), none, .move (.c (.bool false))⟩] (some [2]))
  .ret)
  .skip))
 (.seq (.seq (.ops [⟨(some 28), none, .fieldAddr 3 (.t 1)⟩,
   ⟨(some 29), none, .load false 1 (.t 28)⟩,
   ⟨(some 30), none, .len (.t 29)⟩,
   ⟨(some 31), none, .move (.c (.int .i64 0))⟩] (some [1, 29, 30, 31]))
 (.block 0
  (.loop
   (.seq (.ops [⟨(some 32), none, .bin .lss 3 (.t 31) (.t 30)⟩] (some [1, 29, 30, 31, 32]))
   (.seq (.cond (.t 32)
    .skip
    (.exit 0))
   (.seq (.block 1
    (.seq (.ops [⟨(some 33), none, .move (.t 31)⟩,
      ⟨(some 34), none, .indexAddr 4 (.t 29) (.t 31)⟩,
      ⟨(some 35), none, .load true 4 (.t 34)⟩,
      ⟨(some 4), none, .alloc [(.slice none 0 0), (.int .i64 0), (.int .i64 0), (.int .i64 0)]⟩,
      ⟨(some 3), none, .move (.t 33)⟩,
      ⟨none, none, .store 4 (.t 4) (.t 35)⟩] (some [1, 3, 4, 29, 30, 31]))
    (.seq (.ops [⟨(some 36), none, .makeFunc (.func 215) [] [(.t 4)]⟩,
      ⟨(some 5), none, .move (.t 36)⟩] (some [1, 3, 4, 5, 29, 30, 31]))
    (.seq (.ops [⟨(some 37), none, .load true 4 (.t 4)⟩,
      ⟨(some 38), none, .call (.c (.func (.func 217) #[] #[])) [(.t 37)]⟩,
      ⟨(some 39), none, .un .not (.t 38)⟩,
      ⟨(some 40), none, .move (.t 39)⟩,
      ⟨(some 41), (some (40, false)), .fieldAddr 3 (.t 1)⟩,
      ⟨(some 42), (some (40, false)), .load false 1 (.t 41)⟩,
      ⟨(some 43), (some (40, false)), .move (.t 3)⟩,
      ⟨(some 44), (some (40, false)), .slice 4 (.t 42) none (some (.t 43)) none⟩,
      ⟨(some 45), (some (40, false)), .move (.t 5)⟩,
      ⟨(some 46), (some (40, false)), .call (.c (.func (.func 218) #[] #[])) [(.t 44), (.t 45)]⟩,
      ⟨(some 47), none, .pick (.t 40) (.c (.bool true)) (.t 46)⟩] (some [1, 29, 30, 31, 47]))
    (.cond (.t 47)
     (.seq (.ops [⟨(some 2), none, .move (.c (.bool false))⟩] (some [2]))
     .ret)
     .skip)))))
   (.ops [⟨(some 48), none, .bin .add 3 (.t 31) (.c (.int .i64 1))⟩,
     ⟨(some 31), none, .move (.t 48)⟩] (some [1, 29, 30, 31]))))))))
 (.seq (.ops [⟨(some 2), none, .move (.c (.bool true))⟩] (some [2]))
 .ret)))), [.tmp 2]⟩

theorem is154 : FnIs Tryz.prog 154 x154 := ⟨Tryz.f154, _, Tryz.func154, by kernel_rfl, rfl, by kernel_rfl, by decide, by kernel_rfl⟩

/-- (*cloisonne/extent.World).Extents -/
def x155 : XDecl := .code ⟨1, 
 (.seq (.ops [⟨(some 2), none, .move (.c (.int .i64 0))⟩] (some [0]))
 (.seq (.seq (.ops [⟨(some 3), none, .move (.t 0)⟩,
   ⟨(some 4), none, .isNil .ptr false (.t 3)⟩] (some [0, 4]))
 (.cond (.t 4)
  (.seq (.ops [⟨(some 2), none, .move (.c (.int .i64 0))⟩] (some [2]))
  .ret)
  .skip))
 (.seq (.ops [⟨(some 5), none, .move (.t 0)⟩,
   ⟨(some 6), none, .nilCheck (.t 5)⟩,
   ⟨(some 7), none, .fieldAddr 2 (.t 6)⟩,
   ⟨(some 8), none, .load false 1 (.t 7)⟩,
   ⟨(some 9), none, .len (.t 8)⟩,
   ⟨(some 2), none, .move (.t 9)⟩] (some [2]))
 .ret))), [.tmp 2]⟩

theorem is155 : FnIs Tryz.prog 155 x155 := ⟨Tryz.f155, _, Tryz.func155, by kernel_rfl, rfl, by kernel_rfl, by decide, by kernel_rfl⟩

/-- (*cloisonne/extent.World).Sectors -/
def x156 : XDecl := .code ⟨1, 
 (.seq (.ops [⟨(some 2), none, .move (.c (.int .i64 0))⟩] (some [0]))
 (.seq (.seq (.ops [⟨(some 3), none, .move (.t 0)⟩,
   ⟨(some 4), none, .isNil .ptr false (.t 3)⟩] (some [0, 4]))
 (.cond (.t 4)
  (.seq (.ops [⟨(some 2), none, .move (.c (.int .i64 0))⟩] (some [2]))
  .ret)
  .skip))
 (.seq (.ops [⟨(some 5), none, .move (.t 0)⟩,
   ⟨(some 6), none, .nilCheck (.t 5)⟩,
   ⟨(some 7), none, .fieldAddr 1 (.t 6)⟩,
   ⟨(some 8), none, .load false 1 (.t 7)⟩,
   ⟨(some 2), none, .move (.t 8)⟩] (some [2]))
 .ret))), [.tmp 2]⟩

theorem is156 : FnIs Tryz.prog 156 x156 := ⟨Tryz.f156, _, Tryz.func156, by kernel_rfl, rfl, by kernel_rfl, by decide, by kernel_rfl⟩

/-- (*cloisonne/vault.Vault).openTable -/
def x157 : XDecl := .code ⟨1, 
 (.seq (.ops [⟨(some 2), none, .move (.c (.int .i64 0))⟩] (some [0]))
 (.seq (.ops [⟨(some 12), none, .move (.t 0)⟩,
   ⟨(some 13), none, .nilCheck (.t 12)⟩,
   ⟨(some 14), none, .fieldAddr 4 (.t 13)⟩,
   ⟨(some 15), none, .load false 1 (.t 14)⟩,
   ⟨(some 16), none, .call (.c (.func (.func 219) #[] #[])) [(.t 15), (.c (.int .i64 0))]⟩,
   ⟨(some 11), none, .move (.t 16)⟩,
   ⟨(some 17), none, .extract (.t 11) 0⟩,
   ⟨(some 18), none, .extract (.t 11) 1⟩,
   ⟨(some 19), none, .extract (.t 11) 2⟩,
   ⟨(some 3), none, .move (.t 17)⟩,
   ⟨(some 4), none, .move (.t 18)⟩,
   ⟨(some 5), none, .move (.t 19)⟩] (some [0, 3, 4, 5]))
 (.seq (.seq (.ops [⟨(some 20), none, .move (.t 5)⟩,
   ⟨(some 21), none, .bin .neq 32 (.t 20) (.c (.int .i64 0))⟩] (some [0, 3, 4, 5, 21]))
 (.cond (.t 21)
  (.seq (.ops [⟨(some 22), none, .move (.t 5)⟩,
    ⟨(some 2), none, .move (.t 22)⟩] (some [2]))
  .ret)
  .skip))
 (.seq (.ops [⟨(some 23), none, .move (.t 0)⟩,
   ⟨(some 24), none, .move (.t 0)⟩,
   ⟨(some 25), none, .nilCheck (.t 24)⟩,
   ⟨(some 26), none, .fieldAddr 7 (.t 25)⟩,
   ⟨(some 27), none, .load false 1 (.t 26)⟩,
   ⟨(some 28), none, .move (.t 3)⟩,
   ⟨(some 29), none, .buildSlice [(.pointer none)] 1 1 [(0, (.t 28))]⟩,
   ⟨(some 30), none, .append 1 8 [(.pointer none)] (.t 27) (.t 29)⟩,
   ⟨(some 31), none, .nilCheck (.t 23)⟩,
   ⟨(some 32), none, .fieldAddr 7 (.t 31)⟩,
   ⟨none, none, .store 1 (.t 32) (.t 30)⟩] (some [0, 3, 4]))
 (.seq (.seq (.ops [⟨(some 33), none, .move (.t 3)⟩,
   ⟨(some 34), none, .call (.c (.func (.func 220) #[] #[])) [(.t 33)]⟩,
   ⟨(some 35), none, .bin .eql 3 (.t 34) (.c (.int .i64 0))⟩] (some [0, 3, 4, 35]))
 (.cond (.t 35)
  (.seq (.ops [⟨(some 37), none, .move (.t 0)⟩,
    ⟨(some 38), none, .nilCheck (.t 37)⟩,
    ⟨(some 39), none, .fieldAddr 0 (.t 38)⟩,
    ⟨(some 40), none, .fieldAddr 0 (.t 39)⟩,
    ⟨(some 41), none, .load false 1 (.t 40)⟩,
    ⟨(some 42), none, .call (.c (.func (.func 221) #[] #[])) [(.t 41)]⟩,
    ⟨(some 36), none, .move (.t 42)⟩,
    ⟨(some 43), none, .extract (.t 36) 0⟩,
    ⟨(some 44), none, .extract (.t 36) 1⟩,
    ⟨(some 6), none, .move (.t 43)⟩,
    ⟨(some 7), none, .move (.t 44)⟩] (some [0, 3, 6, 7]))
  (.seq (.seq (.ops [⟨(some 45), none, .move (.t 7)⟩,
    ⟨(some 46), none, .bin .neq 32 (.t 45) (.c (.int .i64 0))⟩] (some [0, 3, 6, 7, 46]))
  (.cond (.t 46)
   (.seq (.ops [⟨(some 47), none, .move (.t 7)⟩,
     ⟨(some 2), none, .move (.t 47)⟩] (some [2]))
   .ret)
   .skip))
  (.seq (.ops [⟨(some 49), none, .move (.t 6)⟩,
    ⟨(some 50), none, .call (.c (.func (.func 222) #[] #[])) [(.t 49)]⟩,
    ⟨(some 48), none, .move (.t 50)⟩,
    ⟨(some 51), none, .extract (.t 48) 0⟩,
    ⟨(some 52), none, .extract (.t 48) 1⟩,
    ⟨(some 8), none, .move (.t 51)⟩,
    ⟨(some 7), none, .move (.t 52)⟩] (some [0, 3, 6, 7, 8]))
  (.seq (.seq (.ops [⟨(some 53), none, .move (.t 7)⟩,
    ⟨(some 54), none, .bin .neq 32 (.t 53) (.c (.int .i64 0))⟩] (some [0, 3, 6, 7, 8, 54]))
  (.cond (.t 54)
   (.seq (.ops [⟨(some 55), none, .move (.t 7)⟩,
     ⟨(some 2), none, .move (.t 55)⟩] (some [2]))
   .ret)
   .skip))
  (.seq (.ops [⟨(some 56), none, .move (.t 0)⟩,
    ⟨(some 57), none, .move (.t 6)⟩,
    ⟨(some 58), none, .nilCheck (.t 56)⟩,
    ⟨(some 59), none, .fieldAddr 5 (.t 58)⟩,
    ⟨none, none, .store 1 (.t 59) (.t 57)⟩] (some [3, 8]))
  (.seq (.ops [⟨(some 60), none, .move (.t 3)⟩,
    ⟨(some 61), none, .move (.t 8)⟩,
    ⟨(some 62), none, .call (.c (.func (.func 223) #[] #[])) [(.t 60), (.t 61)]⟩,
    ⟨(some 2), none, .move (.t 62)⟩] (some [2]))
  .ret))))))
  .skip))
 (.seq (.ops [⟨(some 64), none, .move (.t 0)⟩,
   ⟨(some 65), none, .nilCheck (.t 64)⟩,
   ⟨(some 66), none, .fieldAddr 0 (.t 65)⟩,
   ⟨(some 67), none, .fieldAddr 0 (.t 66)⟩,
   ⟨(some 68), none, .load false 1 (.t 67)⟩,
   ⟨(some 69), none, .move (.t 4)⟩,
   ⟨(some 70), none, .call (.c (.func (.func 224) #[] #[])) [(.t 68), (.t 69)]⟩,
   ⟨(some 63), none, .move (.t 70)⟩,
   ⟨(some 71), none, .extract (.t 63) 0⟩,
   ⟨(some 72), none, .extract (.t 63) 1⟩,
   ⟨(some 9), none, .move (.t 71)⟩,
   ⟨(some 10), none, .move (.t 72)⟩] (some [0, 9, 10]))
 (.seq (.seq (.ops [⟨(some 73), none, .move (.t 10)⟩,
   ⟨(some 74), none, .un .not (.t 73)⟩] (some [0, 9, 74]))
 (.cond (.t 74)
  (.seq (.ops [⟨(some 2), none, .move (.c (.int .i64 19))⟩] (some [2]))
  .ret)
  .skip))
 (.seq (.ops [⟨(some 75), none, .move (.t 0)⟩,
   ⟨(some 76), none, .move (.t 9)⟩,
   ⟨(some 77), none, .nilCheck (.t 75)⟩,
   ⟨(some 78), none, .fieldAddr 5 (.t 77)⟩,
   ⟨none, none, .store 1 (.t 78) (.t 76)⟩] (some []))
 (.seq (.ops [⟨(some 2), none, .move (.c (.int .i64 0))⟩] (some [2]))
 .ret))))))))), [.tmp 2]⟩

theorem is157 : FnIs Tryz.prog 157 x157 := ⟨Tryz.f157, _, Tryz.func157, by kernel_rfl, rfl, by kernel_rfl, by decide, by kernel_rfl⟩

/-- (*cloisonne/vault.Vault).openRoom -/
def x158 : XDecl := .code ⟨2, 
 (.seq (.ops [⟨(some 3), none, .box (.t 1)⟩,
   ⟨(some 4), none, .move (.c (.int .i64 0))⟩] (some [0, 3]))
 (.seq (.opsd [(0, 0, ⟨(some 14), none, .move (.t 0)⟩),
   (1, 1, ⟨(some 15), none, .nilCheck (.t 14)⟩),
   (2, 3, ⟨(some 16), none, .fieldAddr 4 (.t 15)⟩),
   (3, 7, ⟨(some 17), none, .load false 1 (.t 16)⟩),
   (4, 0, ⟨(some 18), none, .move (.t 0)⟩),
   (5, 16, ⟨(some 19), none, .nilCheck (.t 18)⟩),
   (6, 48, ⟨(some 20), none, .fieldAddr 7 (.t 19)⟩),
   (7, 112, ⟨(some 21), none, .load false 1 (.t 20)⟩),
   (8, 240, ⟨(some 22), none, .len (.t 21)⟩),
   (9, 496, ⟨(some 23), none, .bin .mul 3 (.c (.int .i64 2)) (.t 22)⟩),
   (10, 1023, ⟨(some 24), none, .call (.c (.func (.func 219) #[] #[])) [(.t 17), (.t 23)]⟩),
   (11, 2047, ⟨(some 13), none, .move (.t 24)⟩),
   (12, 4095, ⟨(some 25), none, .extract (.t 13) 0⟩),
   (13, 4095, ⟨(some 26), none, .extract (.t 13) 1⟩),
   (14, 4095, ⟨(some 27), none, .extract (.t 13) 2⟩),
   (15, 8191, ⟨(some 5), none, .move (.t 25)⟩),
   (16, 49151, ⟨(some 6), none, .move (.t 26)⟩),
   (17, 131071, ⟨(some 7), none, .move (.t 27)⟩)] (some [0, 3, 5, 6, 7]))
 (.seq (.seq (.ops [⟨(some 28), none, .move (.t 7)⟩,
   ⟨(some 29), none, .bin .neq 32 (.t 28) (.c (.int .i64 0))⟩] (some [0, 3, 5, 6, 7, 29]))
 (.cond (.t 29)
  (.seq (.ops [⟨(some 30), none, .move (.t 7)⟩,
    ⟨(some 4), none, .move (.t 30)⟩] (some [4]))
  .ret)
  .skip))
 (.seq (.ops [⟨(some 31), none, .move (.t 0)⟩,
   ⟨(some 32), none, .move (.t 0)⟩,
   ⟨(some 33), none, .nilCheck (.t 32)⟩,
   ⟨(some 34), none, .fieldAddr 7 (.t 33)⟩,
   ⟨(some 35), none, .load false 1 (.t 34)⟩,
   ⟨(some 36), none, .move (.t 5)⟩,
   ⟨(some 37), none, .buildSlice [(.pointer none)] 1 1 [(0, (.t 36))]⟩,
   ⟨(some 38), none, .append 1 8 [(.pointer none)] (.t 35) (.t 37)⟩,
   ⟨(some 39), none, .nilCheck (.t 31)⟩,
   ⟨(some 40), none, .fieldAddr 7 (.t 39)⟩,
   ⟨none, none, .store 1 (.t 40) (.t 38)⟩] (some [0, 3, 5, 6]))
 (.seq (.seq (.ops [⟨(some 41), none, .move (.t 5)⟩,
   ⟨(some 42), none, .call (.c (.func (.func 220) #[] #[])) [(.t 41)]⟩,
   ⟨(some 43), none, .bin .eql 3 (.t 42) (.c (.int .i64 0))⟩] (some [0, 3, 5, 6, 43]))
 (.cond (.t 43)
  (.seq (.ops [⟨(some 45), none, .load true 4 (.t 3)⟩,
    ⟨(some 46), none, .call (.c (.func (.func 225) #[] #[])) [(.t 45)]⟩,
    ⟨(some 44), none, .move (.t 46)⟩,
    ⟨(some 47), none, .extract (.t 44) 0⟩,
    ⟨(some 48), none, .extract (.t 44) 1⟩,
    ⟨(some 8), none, .move (.t 47)⟩,
    ⟨(some 9), none, .move (.t 48)⟩] (some [0, 5, 8, 9]))
  (.seq (.seq (.ops [⟨(some 49), none, .move (.t 9)⟩,
    ⟨(some 50), none, .bin .neq 32 (.t 49) (.c (.int .i64 0))⟩] (some [0, 5, 8, 9, 50]))
  (.cond (.t 50)
   (.seq (.ops [⟨(some 51), none, .move (.t 9)⟩,
     ⟨(some 4), none, .move (.t 51)⟩] (some [4]))
   .ret)
   .skip))
  (.seq (.ops [⟨(some 53), none, .call (.c (.func (.func 226) #[] #[])) [(.c (.int .i64 0)), (.c (.slice none 0 0))]⟩,
    ⟨(some 52), none, .move (.t 53)⟩,
    ⟨(some 54), none, .extract (.t 52) 0⟩,
    ⟨(some 55), none, .extract (.t 52) 1⟩,
    ⟨(some 10), none, .move (.t 54)⟩,
    ⟨(some 9), none, .move (.t 55)⟩] (some [0, 5, 8, 9, 10]))
  (.seq (.seq (.ops [⟨(some 56), none, .move (.t 9)⟩,
    ⟨(some 57), none, .bin .neq 32 (.t 56) (.c (.int .i64 0))⟩] (some [0, 5, 8, 9, 10, 57]))
  (.cond (.t 57)
   (.seq (.ops [⟨(some 58), none, .move (.t 9)⟩,
     ⟨(some 4), none, .move (.t 58)⟩] (some [4]))
   .ret)
   .skip))
  (.seq (.ops [⟨(some 59), none, .move (.t 0)⟩,
    ⟨(some 60), none, .move (.t 0)⟩,
    ⟨(some 61), none, .nilCheck (.t 60)⟩,
    ⟨(some 62), none, .fieldAddr 6 (.t 61)⟩,
    ⟨(some 63), none, .load false 1 (.t 62)⟩,
    ⟨(some 64), none, .move (.t 8)⟩,
    ⟨(some 65), none, .buildSlice [(.pointer none)] 1 1 [(0, (.t 64))]⟩,
    ⟨(some 66), none, .append 1 8 [(.pointer none)] (.t 63) (.t 65)⟩,
    ⟨(some 67), none, .nilCheck (.t 59)⟩,
    ⟨(some 68), none, .fieldAddr 6 (.t 67)⟩,
    ⟨none, none, .store 1 (.t 68) (.t 66)⟩] (some [5, 10]))
  (.seq (.ops [⟨(some 69), none, .move (.t 5)⟩,
    ⟨(some 70), none, .move (.t 10)⟩,
    ⟨(some 71), none, .call (.c (.func (.func 223) #[] #[])) [(.t 69), (.t 70)]⟩,
    ⟨(some 4), none, .move (.t 71)⟩] (some [4]))
  .ret))))))
  .skip))
 (.seq (.ops [⟨(some 73), none, .load true 4 (.t 3)⟩,
   ⟨(some 74), none, .move (.t 6)⟩,
   ⟨(some 75), none, .call (.c (.func (.func 227) #[] #[])) [(.t 73), (.t 74)]⟩,
   ⟨(some 72), none, .move (.t 75)⟩,
   ⟨(some 76), none, .extract (.t 72) 0⟩,
   ⟨(some 77), none, .extract (.t 72) 1⟩,
   ⟨(some 11), none, .move (.t 76)⟩,
   ⟨(some 12), none, .move (.t 77)⟩] (some [0, 11, 12]))
 (.seq (.seq (.ops [⟨(some 78), none, .move (.t 12)⟩,
   ⟨(some 79), none, .un .not (.t 78)⟩] (some [0, 11, 79]))
 (.cond (.t 79)
  (.seq (.ops [⟨(some 4), none, .move (.c (.int .i64 19))⟩] (some [4]))
  .ret)
  .skip))
 (.seq (.ops [⟨(some 80), none, .move (.t 0)⟩,
   ⟨(some 81), none, .move (.t 0)⟩,
   ⟨(some 82), none, .nilCheck (.t 81)⟩,
   ⟨(some 83), none, .fieldAddr 6 (.t 82)⟩,
   ⟨(some 84), none, .load false 1 (.t 83)⟩,
   ⟨(some 85), none, .move (.t 11)⟩,
   ⟨(some 86), none, .buildSlice [(.pointer none)] 1 1 [(0, (.t 85))]⟩,
   ⟨(some 87), none, .append 1 8 [(.pointer none)] (.t 84) (.t 86)⟩,
   ⟨(some 88), none, .nilCheck (.t 80)⟩,
   ⟨(some 89), none, .fieldAddr 6 (.t 88)⟩,
   ⟨none, none, .store 1 (.t 89) (.t 87)⟩] (some []))
 (.seq (.ops [⟨(some 4), none, .move (.c (.int .i64 0))⟩] (some [4]))
 .ret))))))))), [.tmp 4]⟩

theorem is158 : FnIs Tryz.prog 158 x158 := ⟨Tryz.f158, _, Tryz.func158, by kernel_rfl, rfl, by kernel_rfl, by decide, by kernel_rfl⟩

/-- slices.Clone[[]cloisonne/api.Room,cloisonne/api.Room] -/
def x159 : XDecl := .code ⟨1, 
 (.seq (.ops [⟨(some 2), none, .move (.c (.slice none 0 0))⟩] (some [0]))
 (.seq (.seq (.ops [⟨(some 3), none, .move (.t 0)⟩,
   ⟨(some 4), none, .isNil .slice false (.t 3)⟩] (some [0, 4]))
 (.cond (.t 4)
  (.seq (.ops [⟨(some 2), none, .move (.c (.slice none 0 0))⟩] (some [2]))
  .ret)
  .skip))
 (.seq (.ops [⟨(some 5), none, .buildSlice [(.slice none 0 0), (.int .i64 0), (.int .i64 0), (.int .i64 0)] 4 0 []⟩,
   ⟨(some 6), none, .move (.t 0)⟩,
   ⟨(some 7), none, .append 4 48 [(.slice none 0 0), (.int .i64 0), (.int .i64 0), (.int .i64 0)] (.t 5) (.t 6)⟩,
   ⟨(some 2), none, .move (.t 7)⟩] (some [2]))
 .ret))), [.tmp 2]⟩

theorem is159 : FnIs Tryz.prog 159 x159 := ⟨Tryz.f159, _, Tryz.func159, by kernel_rfl, rfl, by kernel_rfl, by decide, by kernel_rfl⟩

/-- cloisonne/cloisonneref03.Number -/
def x160 : XDecl := .code ⟨1, 
 (.seq (.ops [⟨(some 2), none, .move (.c (.string .empty))⟩] (some [0]))
 (.seq (.ops [⟨(some 4), none, .buildSlice [(.int .u8 0)] 1 0 []⟩,
   ⟨(some 3), none, .move (.t 4)⟩] (some [0, 3]))
 (.seq (.block 0
  (.loop
   (.seq (.seq (.ops [⟨(some 5), none, .move (.t 0)⟩,
     ⟨(some 6), none, .bin .gtr 77 (.t 5) (.c (.int .u64 127))⟩] (some [0, 3, 6]))
   (.cond (.t 6)
    .skip
    (.exit 0)))
   (.block 1
    (.seq (.ops [⟨(some 7), none, .move (.t 3)⟩,
      ⟨(some 8), none, .move (.t 0)⟩,
      ⟨(some 9), none, .bin .rem 77 (.t 8) (.c (.int .u64 128))⟩,
      ⟨(some 10), none, .bin .add 77 (.c (.int .u64 128)) (.t 9)⟩,
      ⟨(some 11), none, .conv 77 5 (.t 10)⟩,
      ⟨(some 12), none, .buildSlice [(.int .u8 0)] 1 1 [(0, (.t 11))]⟩,
      ⟨(some 13), none, .append 1 1 [(.int .u8 0)] (.t 7) (.t 12)⟩,
      ⟨(some 3), none, .move (.t 13)⟩] (some [0, 3]))
    (.ops [⟨(some 14), none, .move (.t 0)⟩,
      ⟨(some 15), none, .bin .quo 77 (.t 14) (.c (.int .u64 128))⟩,
      ⟨(some 0), none, .move (.t 15)⟩] (some [0, 3])))))))
 (.seq (.ops [⟨(some 16), none, .move (.t 3)⟩,
   ⟨(some 17), none, .move (.t 0)⟩,
   ⟨(some 18), none, .conv 77 5 (.t 17)⟩,
   ⟨(some 19), none, .buildSlice [(.int .u8 0)] 1 1 [(0, (.t 18))]⟩,
   ⟨(some 20), none, .append 1 1 [(.int .u8 0)] (.t 16) (.t 19)⟩,
   ⟨(some 21), none, .bstr (.t 20)⟩,
   ⟨(some 2), none, .move (.t 21)⟩] (some [2]))
 .ret)))), [.tmp 2]⟩

theorem is160 : FnIs Tryz.prog 160 x160 := ⟨Tryz.f160, _, Tryz.func160, by kernel_rfl, rfl, by kernel_rfl, by decide, by kernel_rfl⟩

/-- slices.insertionSortCmpFunc[cloisonne/api.Call] -/
def x163 : XDecl := .code ⟨4, 
 (.seq (.ops [⟨(some 10), none, .move (.t 1)⟩,
   ⟨(some 11), none, .bin .add 3 (.t 10) (.c (.int .i64 1))⟩,
   ⟨(some 8), none, .move (.t 11)⟩] (some [0, 1, 2, 3, 8]))
 (.block 0
  (.loop
   (.seq (.seq (.ops [⟨(some 12), none, .move (.t 8)⟩,
     ⟨(some 13), none, .move (.t 2)⟩,
     ⟨(some 14), none, .bin .lss 3 (.t 12) (.t 13)⟩] (some [0, 1, 2, 3, 8, 14]))
   (.cond (.t 14)
    .skip
    (.exit 0)))
   (.seq (.block 1
    (.seq (.ops [⟨(some 17), none, .move (.t 8)⟩,
      ⟨(some 9), none, .move (.t 17)⟩] (some [0, 1, 2, 3, 8, 9]))
    (.block 2
     (.loop
      (.seq (.seq (.opsd [(0, 0, ⟨(some 18), none, .move (.t 9)⟩),
        (1, 0, ⟨(some 19), none, .move (.t 1)⟩),
        (2, 3, ⟨(some 20), none, .bin .gtr 3 (.t 18) (.t 19)⟩),
        (3, 7, ⟨(some 21), none, .move (.t 20)⟩),
        (4, 15, ⟨(some 22), (some (21, true)), .move (.t 3)⟩),
        (5, 15, ⟨(some 23), (some (21, true)), .move (.t 0)⟩),
        (6, 15, ⟨(some 24), (some (21, true)), .move (.t 9)⟩),
        (7, 111, ⟨(some 25), (some (21, true)), .indexAddr 6 (.t 23) (.t 24)⟩),
        (8, 239, ⟨(some 26), (some (21, true)), .load true 6 (.t 25)⟩),
        (9, 15, ⟨(some 27), (some (21, true)), .move (.t 0)⟩),
        (10, 15, ⟨(some 28), (some (21, true)), .move (.t 9)⟩),
        (11, 1039, ⟨(some 29), (some (21, true)), .bin .sub 3 (.t 28) (.c (.int .i64 1))⟩),
        (12, 3599, ⟨(some 30), (some (21, true)), .indexAddr 6 (.t 27) (.t 29)⟩),
        (13, 7695, ⟨(some 31), (some (21, true)), .load true 6 (.t 30)⟩),
        (14, 16383, ⟨(some 32), (some (21, true)), .call (.t 22) [(.t 26), (.t 31)]⟩),
        (15, 32767, ⟨(some 33), (some (21, true)), .bin .lss 3 (.t 32) (.c (.int .i64 0))⟩),
        (16, 65535, ⟨(some 34), none, .pick (.t 21) (.t 33) (.c (.bool false))⟩)] (some [0, 1, 2, 3, 8, 9, 34]))
      (.cond (.t 34)
       .skip
       (.exit 2)))
      (.seq (.block 3
       (.opsd [(0, 0, ⟨(some 37), none, .move (.t 0)⟩),
         (1, 0, ⟨(some 38), none, .move (.t 9)⟩),
         (2, 0, ⟨(some 39), none, .move (.t 0)⟩),
         (3, 0, ⟨(some 40), none, .move (.t 9)⟩),
         (4, 8, ⟨(some 41), none, .bin .sub 3 (.t 40) (.c (.int .i64 1))⟩),
         (5, 0, ⟨(some 42), none, .move (.t 0)⟩),
         (6, 0, ⟨(some 43), none, .move (.t 9)⟩),
         (7, 64, ⟨(some 44), none, .bin .sub 3 (.t 43) (.c (.int .i64 1))⟩),
         (8, 224, ⟨(some 45), none, .indexAddr 6 (.t 42) (.t 44)⟩),
         (9, 480, ⟨(some 46), none, .load true 6 (.t 45)⟩),
         (10, 0, ⟨(some 47), none, .move (.t 0)⟩),
         (11, 0, ⟨(some 48), none, .move (.t 9)⟩),
         (12, 3072, ⟨(some 49), none, .indexAddr 6 (.t 47) (.t 48)⟩),
         (13, 7168, ⟨(some 50), none, .load true 6 (.t 49)⟩),
         (14, 16355, ⟨(some 51), none, .indexAddr 6 (.t 37) (.t 38)⟩),
         (15, 32739, ⟨none, none, .store 6 (.t 51) (.t 46)⟩),
         (16, 65535, ⟨(some 52), none, .indexAddr 6 (.t 39) (.t 41)⟩),
         (17, 131071, ⟨none, none, .store 6 (.t 52) (.t 50)⟩)] (some [0, 1, 2, 3, 8, 9])))
      (.ops [⟨(some 35), none, .move (.t 9)⟩,
        ⟨(some 36), none, .bin .sub 3 (.t 35) (.c (.int .i64 1))⟩,
        ⟨(some 9), none, .move (.t 36)⟩] (some [0, 1, 2, 3, 8, 9]))))))))
   (.ops [⟨(some 15), none, .move (.t 8)⟩,
     ⟨(some 16), none, .bin .add 3 (.t 15) (.c (.int .i64 1))⟩,
     ⟨(some 8), none, .move (.t 16)⟩] (some [0, 1, 2, 3, 8]))))))), []⟩

theorem is163 : FnIs Tryz.prog 163 x163 := ⟨Tryz.f163, _, Tryz.func163, by kernel_rfl, rfl, by kernel_rfl, by decide, by kernel_rfl⟩

/-- cloisonne/cloisonneref02.Right -/
def x172 : XDecl := .code ⟨1, 
 (.seq (.ops [⟨(some 2), none, .move (.c (.bool false))⟩] (some [0]))
 (.seq (.seq (.ops [⟨(some 3), none, .move (.c (.int .i64 0))⟩] (some [0, 3]))
 (.block 0
  (.loop
   (.seq (.seq (.ops [⟨(some 4), none, .move (.t 3)⟩,
     ⟨(some 5), none, .move (.t 0)⟩,
     ⟨(some 6), none, .len (.t 5)⟩,
     ⟨(some 7), none, .bin .lss 3 (.t 4) (.t 6)⟩] (some [0, 3, 7]))
   (.cond (.t 7)
    .skip
    (.exit 0)))
   (.seq (.block 1
    (.seq (.opsr [⟨(some 10), none, .move (.t 0)⟩,
      ⟨(some 11), none, .move (.t 3)⟩,
      ⟨(some 12), none, .indexAddr 1 (.t 10) (.t 11)⟩,
      ⟨(some 13), none, .load false 1 (.t 12)⟩,
      ⟨(some 14), none, .bin .eql 77 (.t 13) (.c (.int .u64 0))⟩,
      ⟨(some 15), none, .move (.t 14)⟩,
      ⟨(some 16), (some (15, false)), .move (.t 3)⟩,
      ⟨(some 17), (some (15, false)), .bin .gtr 3 (.t 16) (.c (.int .i64 0))⟩,
      ⟨(some 18), (some (15, false)), .move (.t 17)⟩,
      ⟨(some 19), (some (18, true)), .move (.t 0)⟩,
      ⟨(some 20), (some (18, true)), .move (.t 3)⟩,
      ⟨(some 21), (some (18, true)), .bin .sub 3 (.t 20) (.c (.int .i64 1))⟩,
      ⟨(some 22), (some (18, true)), .indexAddr 1 (.t 19) (.t 21)⟩,
      ⟨(some 23), (some (18, true)), .load false 1 (.t 22)⟩,
      ⟨(some 24), (some (18, true)), .move (.t 0)⟩,
      ⟨(some 25), (some (18, true)), .move (.t 3)⟩,
      ⟨(some 26), (some (18, true)), .indexAddr 1 (.t 24) (.t 25)⟩,
      ⟨(some 27), (some (18, true)), .load false 1 (.t 26)⟩,
      ⟨(some 28), (some (18, true)), .bin .geq 77 (.t 23) (.t 27)⟩,
      ⟨(some 29), (some (15, false)), .pick (.t 18) (.t 28) (.c (.bool false))⟩,
      ⟨(some 30), none, .pick (.t 15) (.c (.bool true)) (.t 29)⟩] (some [0, 3, 30]))
    (.cond (.t 30)
     (.seq (.ops [⟨(some 2), none, .move (.c (.bool false))⟩] (some [2]))
     .ret)
     .skip)))
   (.ops [⟨(some 8), none, .move (.t 3)⟩,
     ⟨(some 9), none, .bin .add 3 (.t 8) (.c (.int .i64 1))⟩,
     ⟨(some 3), none, .move (.t 9)⟩] (some [0, 3])))))))
 (.seq (.ops [⟨(some 31), none, .move (.t 0)⟩,
   ⟨(some 32), none, .len (.t 31)⟩,
   ⟨(some 33), none, .bin .leq 3 (.t 32) (.c (.int .i64 6))⟩,
   ⟨(some 2), none, .move (.t 33)⟩] (some [2]))
 .ret))), [.tmp 2]⟩

theorem is172 : FnIs Tryz.prog 172 x172 := ⟨Tryz.f172, _, Tryz.func172, by kernel_rfl, rfl, by kernel_rfl, by decide, by kernel_rfl⟩

/-- cloisonne/cloisonneref02.Compare -/
def x173 : XDecl := .code ⟨2, 
 (.seq (.ops [⟨(some 4), none, .move (.c (.int .i64 0))⟩] (some [0, 1]))
 (.seq (.seq (.ops [⟨(some 6), none, .move (.t 0)⟩,
   ⟨(some 7), none, .len (.t 6)⟩,
   ⟨(some 8), none, .move (.t 1)⟩,
   ⟨(some 9), none, .len (.t 8)⟩,
   ⟨(some 10), none, .bin .lss 3 (.t 7) (.t 9)⟩] (some [0, 1, 10]))
 (.cond (.t 10)
  (.seq (.ops [⟨(some 4), none, .move (.c (.int .i64 (-1)))⟩] (some [4]))
  .ret)
  .skip))
 (.seq (.seq (.ops [⟨(some 11), none, .move (.t 0)⟩,
   ⟨(some 12), none, .len (.t 11)⟩,
   ⟨(some 13), none, .move (.t 1)⟩,
   ⟨(some 14), none, .len (.t 13)⟩,
   ⟨(some 15), none, .bin .gtr 3 (.t 12) (.t 14)⟩] (some [0, 1, 15]))
 (.cond (.t 15)
  (.seq (.ops [⟨(some 4), none, .move (.c (.int .i64 1))⟩] (some [4]))
  .ret)
  .skip))
 (.seq (.seq (.ops [⟨(some 5), none, .move (.c (.int .i64 0))⟩] (some [0, 1, 5]))
 (.block 0
  (.loop
   (.seq (.seq (.ops [⟨(some 16), none, .move (.t 5)⟩,
     ⟨(some 17), none, .move (.t 0)⟩,
     ⟨(some 18), none, .len (.t 17)⟩,
     ⟨(some 19), none, .bin .lss 3 (.t 16) (.t 18)⟩] (some [0, 1, 5, 19]))
   (.cond (.t 19)
    .skip
    (.exit 0)))
   (.seq (.block 1
    (.seq (.seq (.opsr [⟨(some 22), none, .move (.t 0)⟩,
      ⟨(some 23), none, .move (.t 5)⟩,
      ⟨(some 24), none, .indexAddr 1 (.t 22) (.t 23)⟩,
      ⟨(some 25), none, .load false 1 (.t 24)⟩,
      ⟨(some 26), none, .move (.t 1)⟩,
      ⟨(some 27), none, .move (.t 5)⟩,
      ⟨(some 28), none, .indexAddr 1 (.t 26) (.t 27)⟩,
      ⟨(some 29), none, .load false 1 (.t 28)⟩,
      ⟨(some 30), none, .bin .lss 77 (.t 25) (.t 29)⟩] (some [0, 1, 5, 30]))
    (.cond (.t 30)
     (.seq (.ops [⟨(some 4), none, .move (.c (.int .i64 (-1)))⟩] (some [4]))
     .ret)
     .skip))
    (.seq (.opsr [⟨(some 31), none, .move (.t 0)⟩,
      ⟨(some 32), none, .move (.t 5)⟩,
      ⟨(some 33), none, .indexAddr 1 (.t 31) (.t 32)⟩,
      ⟨(some 34), none, .load false 1 (.t 33)⟩,
      ⟨(some 35), none, .move (.t 1)⟩,
      ⟨(some 36), none, .move (.t 5)⟩,
      ⟨(some 37), none, .indexAddr 1 (.t 35) (.t 36)⟩,
      ⟨(some 38), none, .load false 1 (.t 37)⟩,
      ⟨(some 39), none, .bin .gtr 77 (.t 34) (.t 38)⟩] (some [0, 1, 5, 39]))
    (.cond (.t 39)
     (.seq (.ops [⟨(some 4), none, .move (.c (.int .i64 1))⟩] (some [4]))
     .ret)
     .skip))))
   (.ops [⟨(some 20), none, .move (.t 5)⟩,
     ⟨(some 21), none, .bin .add 3 (.t 20) (.c (.int .i64 1))⟩,
     ⟨(some 5), none, .move (.t 21)⟩] (some [0, 1, 5])))))))
 (.seq (.ops [⟨(some 4), none, .move (.c (.int .i64 0))⟩] (some [4]))
 .ret))))), [.tmp 4]⟩

theorem is173 : FnIs Tryz.prog 173 x173 := ⟨Tryz.f173, _, Tryz.func173, by kernel_rfl, rfl, by kernel_rfl, by decide, by kernel_rfl⟩

/-- slices.Index[[]cloisonne/ask.field,cloisonne/ask.field] -/
def x174 : XDecl := .code ⟨2, 
 (.seq (.ops [⟨(some 4), none, .move (.c (.int .i64 0))⟩] (some [0, 1]))
 (.seq (.seq (.ops [⟨(some 6), none, .move (.t 0)⟩,
   ⟨(some 7), none, .len (.t 6)⟩,
   ⟨(some 8), none, .move (.c (.int .i64 0))⟩] (some [0, 1, 7, 8]))
 (.block 0
  (.loop
   (.seq (.ops [⟨(some 9), none, .bin .lss 3 (.t 8) (.t 7)⟩] (some [0, 1, 7, 8, 9]))
   (.seq (.cond (.t 9)
    .skip
    (.exit 0))
   (.seq (.block 1
    (.seq (.ops [⟨(some 10), none, .move (.t 8)⟩,
      ⟨(some 5), none, .move (.t 10)⟩] (some [0, 1, 5, 7, 8]))
    (.seq (.ops [⟨(some 11), none, .move (.t 1)⟩,
      ⟨(some 12), none, .move (.t 0)⟩,
      ⟨(some 13), none, .move (.t 5)⟩,
      ⟨(some 14), none, .indexAddr 1 (.t 12) (.t 13)⟩,
      ⟨(some 15), none, .load false 1 (.t 14)⟩,
      ⟨(some 16), none, .bin .eql 160 (.t 11) (.t 15)⟩] (some [0, 1, 5, 7, 8, 16]))
    (.cond (.t 16)
     (.seq (.ops [⟨(some 17), none, .move (.t 5)⟩,
       ⟨(some 4), none, .move (.t 17)⟩] (some [4]))
     .ret)
     .skip))))
   (.ops [⟨(some 18), none, .bin .add 3 (.t 8) (.c (.int .i64 1))⟩,
     ⟨(some 8), none, .move (.t 18)⟩] (some [0, 1, 7, 8]))))))))
 (.seq (.ops [⟨(some 4), none, .move (.c (.int .i64 (-1)))⟩] (some [4]))
 .ret))), [.tmp 4]⟩

theorem is174 : FnIs Tryz.prog 174 x174 := ⟨Tryz.f174, _, Tryz.func174, by kernel_rfl, rfl, by kernel_rfl, by decide, by kernel_rfl⟩

/-- cloisonne/label.Right -/
def x175 : XDecl := .code ⟨1, 
 (.seq (.ops [⟨(some 2), none, .move (.c (.bool false))⟩] (some [0]))
 (.seq (.seq (.ops [⟨(some 6), none, .move (.t 0)⟩,
   ⟨(some 7), none, .len (.t 6)⟩,
   ⟨(some 8), none, .bin .gtr 3 (.t 7) (.c (.int .i64 6))⟩] (some [0, 8]))
 (.cond (.t 8)
  (.seq (.ops [⟨(some 2), none, .move (.c (.bool false))⟩] (some [2]))
  .ret)
  .skip))
 (.seq (.ops [⟨(some 3), none, .move (.c (.int .u64 0))⟩] (some [0, 3]))
 (.seq (.seq (.ops [⟨(some 9), none, .move (.t 0)⟩,
   ⟨(some 10), none, .len (.t 9)⟩,
   ⟨(some 11), none, .move (.c (.int .i64 0))⟩] (some [3, 9, 10, 11]))
 (.block 0
  (.loop
   (.seq (.ops [⟨(some 12), none, .bin .lss 3 (.t 11) (.t 10)⟩] (some [3, 9, 10, 11, 12]))
   (.seq (.cond (.t 12)
    .skip
    (.exit 0))
   (.seq (.block 1
    (.seq (.ops [⟨(some 13), none, .indexAddr 1 (.t 9) (.t 11)⟩,
      ⟨(some 14), none, .load false 1 (.t 13)⟩,
      ⟨(some 5), none, .move (.t 14)⟩] (some [3, 5, 9, 10, 11]))
    (.seq (.seq (.ops [⟨(some 15), none, .move (.t 5)⟩,
      ⟨(some 16), none, .move (.t 3)⟩,
      ⟨(some 17), none, .bin .leq 77 (.t 15) (.t 16)⟩] (some [5, 9, 10, 11, 17]))
    (.cond (.t 17)
     (.seq (.ops [⟨(some 2), none, .move (.c (.bool false))⟩] (some [2]))
     .ret)
     .skip))
    (.ops [⟨(some 18), none, .move (.t 5)⟩,
      ⟨(some 3), none, .move (.t 18)⟩] (some [3, 9, 10, 11])))))
   (.ops [⟨(some 19), none, .bin .add 3 (.t 11) (.c (.int .i64 1))⟩,
     ⟨(some 11), none, .move (.t 19)⟩] (some [3, 9, 10, 11]))))))))
 (.seq (.ops [⟨(some 2), none, .move (.c (.bool true))⟩] (some [2]))
 .ret))))), [.tmp 2]⟩

theorem is175 : FnIs Tryz.prog 175 x175 := ⟨Tryz.f175, _, Tryz.func175, by kernel_rfl, rfl, by kernel_rfl, by decide, by kernel_rfl⟩

/-- cloisonne/wire.parts -/
def x179 : XDecl := .code ⟨1, 
 (.seq (.ops [⟨(some 2), none, .move (.c (.slice none 0 0))⟩,
   ⟨(some 3), none, .move (.c (.slice none 0 0))⟩,
   ⟨(some 4), none, .move (.c (.bool false))⟩] (some [0]))
 (.seq (.ops [⟨(some 5), none, .move (.c (.slice none 0 0))⟩] (some [0, 5]))
 (.seq (.ops [⟨(some 6), none, .move (.c (.slice none 0 0))⟩] (some [0, 5, 6]))
 (.seq (.ops [⟨(some 7), none, .move (.c (.bool false))⟩] (some [0, 5, 6, 7]))
 (.seq (.seq (.ops [⟨(some 10), none, .move (.t 0)⟩,
   ⟨(some 11), none, .calcB .len [9] 3 [(.t 10)]⟩,
   ⟨(some 12), none, .move (.c (.int .i64 0))⟩] (some [0, 5, 6, 7, 11, 12]))
 (.block 0
  (.loop
   (.seq (.ops [⟨(some 13), none, .bin .lss 3 (.t 12) (.t 11)⟩] (some [0, 5, 6, 7, 11, 12, 13]))
   (.seq (.cond (.t 13)
    .skip
    (.exit 0))
   (.seq (.block 1
    (.seq (.ops [⟨(some 14), none, .move (.t 12)⟩,
      ⟨(some 8), none, .move (.t 14)⟩] (some [0, 5, 6, 7, 8, 11, 12]))
    (.seq (.ops [⟨(some 15), none, .move (.t 0)⟩,
      ⟨(some 16), none, .move (.t 8)⟩,
      ⟨(some 17), none, .index 9 (.t 15) (.t 16)⟩,
      ⟨(some 9), none, .move (.t 17)⟩] (some [0, 5, 6, 7, 9, 11, 12]))
    (.block 2
     (.seq (.ops [⟨(some 19), none, .move (.t 9)⟩,
       ⟨(some 20), none, .bin .eql 5 (.t 19) (.c (.int .u8 42))⟩,
       ⟨(some 21), none, .move (.t 20)⟩,
       ⟨(some 22), (some (21, true)), .move (.t 7)⟩,
       ⟨(some 23), (some (21, true)), .un .not (.t 22)⟩,
       ⟨(some 24), none, .pick (.t 21) (.t 23) (.c (.bool false))⟩,
       ⟨(some 18), none, .move (.t 24)⟩] (some [0, 5, 6, 7, 9, 11, 12, 18]))
     (.cond (.t 18)
      (.ops [⟨(some 7), none, .move (.c (.bool true))⟩] (some [0, 5, 6, 7, 11, 12]))
      (.seq (.ops [⟨(some 26), none, .move (.t 9)⟩,
        ⟨(some 27), none, .call (.c (.func (.func 239) #[] #[])) [(.t 26)]⟩,
        ⟨(some 25), none, .move (.t 27)⟩] (some [0, 5, 6, 7, 9, 11, 12, 25]))
      (.cond (.t 25)
       (.seq (.ops [⟨(some 28), none, .move (.t 5)⟩,
         ⟨(some 29), none, .move (.t 9)⟩,
         ⟨(some 30), none, .buildSlice [(.int .u8 0)] 1 1 [(0, (.t 29))]⟩,
         ⟨(some 31), none, .append 1 1 [(.int .u8 0)] (.t 28) (.t 30)⟩,
         ⟨(some 32), none, .move (.t 6)⟩,
         ⟨(some 33), none, .move (.t 7)⟩,
         ⟨(some 34), none, .buildSlice [(.bool false)] 1 1 [(0, (.t 33))]⟩,
         ⟨(some 35), none, .append 1 1 [(.bool false)] (.t 32) (.t 34)⟩,
         ⟨(some 5), none, .move (.t 31)⟩,
         ⟨(some 6), none, .move (.t 35)⟩] (some [0, 5, 6, 11, 12]))
       (.ops [⟨(some 7), none, .move (.c (.bool false))⟩] (some [0, 5, 6, 7, 11, 12])))
       (.seq (.ops [⟨(some 2), none, .move (.c (.slice none 0 0))⟩,
         ⟨(some 3), none, .move (.c (.slice none 0 0))⟩,
         ⟨(some 4), none, .move (.c (.bool false))⟩] (some [2, 3, 4]))
       .ret)))))))))
   (.ops [⟨(some 36), none, .bin .add 3 (.t 12) (.c (.int .i64 1))⟩,
     ⟨(some 12), none, .move (.t 36)⟩] (some [0, 5, 6, 7, 11, 12]))))))))
 (.seq (.ops [⟨(some 37), none, .move (.t 5)⟩,
   ⟨(some 38), none, .move (.t 6)⟩,
   ⟨(some 39), none, .move (.t 7)⟩,
   ⟨(some 40), none, .un .not (.t 39)⟩,
   ⟨(some 41), none, .move (.t 40)⟩,
   ⟨(some 42), (some (41, true)), .move (.t 0)⟩,
   ⟨(some 43), (some (41, true)), .calcB .len [9] 3 [(.t 42)]⟩,
   ⟨(some 44), (some (41, true)), .bin .leq 3 (.t 43) (.c (.int .i64 40))⟩,
   ⟨(some 45), none, .pick (.t 41) (.t 44) (.c (.bool false))⟩,
   ⟨(some 2), none, .move (.t 37)⟩,
   ⟨(some 3), none, .move (.t 38)⟩,
   ⟨(some 4), none, .move (.t 45)⟩] (some [2, 3, 4]))
 .ret)))))), [.tmp 2, .tmp 3, .tmp 4]⟩

theorem is179 : FnIs Tryz.prog 179 x179 := ⟨Tryz.f179, _, Tryz.func179, by kernel_rfl, rfl, by kernel_rfl, by decide, by kernel_rfl⟩

/-- cloisonne/wire.check -/
def x180 : XDecl := .code ⟨2, 
 (.seq (.ops [⟨(some 4), none, .move (.t 0)⟩,
   ⟨(some 5), none, .un .not (.t 4)⟩] (some [1, 5]))
 (.cond (.t 5)
  (.ops [⟨(some 6), none, .move (.t 1)⟩,
    ⟨(some 7), none, .makeIface 365 (.t 6)⟩,
    ⟨none, none, .fail⟩] (some []))
  .skip)), []⟩

theorem is180 : FnIs Tryz.prog 180 x180 := ⟨Tryz.f180, _, Tryz.func180, by kernel_rfl, rfl, by kernel_rfl, by decide, by kernel_rfl⟩

/-- (*cloisonne/wire.printer).one -/
def x182 : XDecl := .code ⟨3, 
 (.seq (.ops [⟨(some 5), none, .box (.t 2)⟩] (some [0, 1, 5]))
 (.seq (.ops [⟨(some 9), none, .fieldAddr 3 (.t 5)⟩,
   ⟨(some 10), none, .load false 1 (.t 9)⟩,
   ⟨(some 11), none, .len (.t 10)⟩,
   ⟨(some 12), none, .bin .eql 3 (.t 11) (.c (.int .i64 0))⟩,
   ⟨(some 13), none, .call (.c (.func (.func 180) #[] #[])) [(.t 12), (.c (.int .i64 1))]⟩] (some [0, 1, 5]))
 (.seq (.ops [⟨(some 14), none, .move (.t 1)⟩] (some [0, 5, 14]))
 (.block 0
  (.seq (.ops [⟨(some 16), none, .bin .eql 5 (.t 14) (.c (.int .u8 98))⟩,
    ⟨(some 15), none, .move (.t 16)⟩] (some [0, 5, 14, 15]))
  (.cond (.t 15)
   (.seq (.ops [⟨(some 17), none, .load true 4 (.t 5)⟩,
     ⟨(some 18), none, .call (.c (.func (.func 240) #[] #[])) [(.t 17), (.c (.bool true)), (.c (.bool false)), (.c (.bool false))]⟩,
     ⟨(some 19), none, .move (.t 18)⟩,
     ⟨(some 20), (some (19, true)), .fieldAddr 0 (.t 5)⟩,
     ⟨(some 21), (some (19, true)), .load false 1 (.t 20)⟩,
     ⟨(some 22), (some (19, true)), .bin .leq 77 (.t 21) (.c (.int .u64 255))⟩,
     ⟨(some 23), none, .pick (.t 19) (.t 22) (.c (.bool false))⟩,
     ⟨(some 24), none, .call (.c (.func (.func 180) #[] #[])) [(.t 23), (.c (.int .i64 1))]⟩] (some [0, 5]))
   (.opsd [(0, 0, ⟨(some 25), none, .move (.t 0)⟩),
     (1, 0, ⟨(some 26), none, .move (.t 0)⟩),
     (2, 2, ⟨(some 27), none, .nilCheck (.t 26)⟩),
     (3, 6, ⟨(some 28), none, .fieldAddr 0 (.t 27)⟩),
     (4, 14, ⟨(some 29), none, .load false 1 (.t 28)⟩),
     (5, 0, ⟨(some 30), none, .fieldAddr 0 (.t 5)⟩),
     (6, 32, ⟨(some 31), none, .load false 1 (.t 30)⟩),
     (7, 96, ⟨(some 32), none, .conv 77 5 (.t 31)⟩),
     (8, 224, ⟨(some 33), none, .buildSlice [(.int .u8 0)] 1 1 [(0, (.t 32))]⟩),
     (9, 510, ⟨(some 34), none, .append 1 1 [(.int .u8 0)] (.t 29) (.t 33)⟩),
     (10, 1023, ⟨(some 35), none, .nilCheck (.t 25)⟩),
     (11, 2047, ⟨(some 36), none, .fieldAddr 0 (.t 35)⟩),
     (12, 4095, ⟨none, none, .store 1 (.t 36) (.t 34)⟩)] (some [])))
   (.seq (.ops [⟨(some 38), none, .bin .eql 5 (.t 14) (.c (.int .u8 110))⟩,
     ⟨(some 37), none, .move (.t 38)⟩] (some [0, 5, 14, 37]))
   (.cond (.t 37)
    (.seq (.ops [⟨(some 39), none, .load true 4 (.t 5)⟩,
      ⟨(some 40), none, .call (.c (.func (.func 240) #[] #[])) [(.t 39), (.c (.bool true)), (.c (.bool false)), (.c (.bool false))]⟩,
      ⟨(some 41), none, .call (.c (.func (.func 180) #[] #[])) [(.t 40), (.c (.int .i64 1))]⟩] (some [0, 5]))
    (.ops [⟨(some 42), none, .move (.t 0)⟩,
      ⟨(some 43), none, .fieldAddr 0 (.t 5)⟩,
      ⟨(some 44), none, .load false 1 (.t 43)⟩,
      ⟨(some 45), none, .call (.c (.func (.func 241) #[] #[])) [(.t 42), (.t 44)]⟩] (some [])))
    (.seq (.ops [⟨(some 47), none, .bin .eql 5 (.t 14) (.c (.int .u8 116))⟩,
      ⟨(some 46), none, .move (.t 47)⟩] (some [0, 5, 14, 46]))
    (.cond (.t 46)
     (.seq (.ops [⟨(some 48), none, .load true 4 (.t 5)⟩,
       ⟨(some 49), none, .call (.c (.func (.func 240) #[] #[])) [(.t 48), (.c (.bool false)), (.c (.bool true)), (.c (.bool false))]⟩,
       ⟨(some 50), none, .move (.t 49)⟩,
       ⟨(some 51), (some (50, true)), .fieldAddr 1 (.t 5)⟩,
       ⟨(some 52), (some (50, true)), .load false 1 (.t 51)⟩,
       ⟨(some 53), (some (50, true)), .calcB .len [9] 3 [(.t 52)]⟩,
       ⟨(some 54), (some (50, true)), .bin .leq 3 (.t 53) (.c (.int .i64 200))⟩,
       ⟨(some 55), none, .pick (.t 50) (.t 54) (.c (.bool false))⟩,
       ⟨(some 56), none, .call (.c (.func (.func 180) #[] #[])) [(.t 55), (.c (.int .i64 1))]⟩] (some [0, 5]))
     (.seq (.ops [⟨(some 57), none, .move (.t 0)⟩,
       ⟨(some 58), none, .fieldAddr 1 (.t 5)⟩,
       ⟨(some 59), none, .load false 1 (.t 58)⟩,
       ⟨(some 60), none, .calcB .len [9] 3 [(.t 59)]⟩,
       ⟨(some 61), none, .conv 3 77 (.t 60)⟩,
       ⟨(some 62), none, .call (.c (.func (.func 241) #[] #[])) [(.t 57), (.t 61)]⟩] (some [0, 5]))
     (.opsd [(0, 0, ⟨(some 63), none, .move (.t 0)⟩),
       (1, 0, ⟨(some 64), none, .move (.t 0)⟩),
       (2, 2, ⟨(some 65), none, .nilCheck (.t 64)⟩),
       (3, 6, ⟨(some 66), none, .fieldAddr 0 (.t 65)⟩),
       (4, 14, ⟨(some 67), none, .load false 1 (.t 66)⟩),
       (5, 0, ⟨(some 68), none, .fieldAddr 1 (.t 5)⟩),
       (6, 32, ⟨(some 69), none, .load false 1 (.t 68)⟩),
       (7, 126, ⟨(some 70), none, .append 1 1 [(.int .u8 0)] (.t 67) (.t 69)⟩),
       (8, 255, ⟨(some 71), none, .nilCheck (.t 63)⟩),
       (9, 511, ⟨(some 72), none, .fieldAddr 0 (.t 71)⟩),
       (10, 1023, ⟨none, none, .store 1 (.t 72) (.t 70)⟩)] (some []))))
     (.seq (.ops [⟨(some 74), none, .bin .eql 5 (.t 14) (.c (.int .u8 102))⟩,
       ⟨(some 73), none, .move (.t 74)⟩] (some [0, 5, 14, 73]))
     (.cond (.t 73)
      (.seq (.ops [⟨(some 75), none, .fieldAddr 0 (.t 5)⟩,
        ⟨(some 76), none, .load false 1 (.t 75)⟩,
        ⟨(some 77), none, .call (.c (.func (.func 168) #[] #[])) [(.t 76)]⟩,
        ⟨(some 6), none, .move (.t 77)⟩] (some [0, 5, 6]))
      (.seq (.opsd [(0, 0, ⟨(some 78), none, .load true 4 (.t 5)⟩),
        (1, 1, ⟨(some 79), none, .call (.c (.func (.func 240) #[] #[])) [(.t 78), (.c (.bool true)), (.c (.bool false)), (.c (.bool false))]⟩),
        (2, 3, ⟨(some 80), none, .move (.t 79)⟩),
        (3, 7, ⟨(some 81), (some (80, true)), .move (.t 6)⟩),
        (5, 7, ⟨(some 83), (some (80, true)), .fieldAddr 0 (.t 5)⟩),
        (6, 39, ⟨(some 84), (some (80, true)), .load false 1 (.t 83)⟩),
        (4, 15, ⟨(some 82), (some (80, true)), .call (.c (.func (.func 167) #[] #[])) [(.t 81)]⟩),
        (7, 127, ⟨(some 85), (some (80, true)), .bin .eql 77 (.t 82) (.t 84)⟩),
        (8, 255, ⟨(some 86), none, .pick (.t 80) (.t 85) (.c (.bool false))⟩),
        (9, 511, ⟨(some 87), none, .call (.c (.func (.func 180) #[] #[])) [(.t 86), (.c (.int .i64 1))]⟩)] (some [0, 6]))
      (.opsd [(0, 0, ⟨(some 88), none, .move (.t 0)⟩),
        (1, 0, ⟨(some 89), none, .move (.t 0)⟩),
        (2, 2, ⟨(some 90), none, .nilCheck (.t 89)⟩),
        (3, 6, ⟨(some 91), none, .fieldAddr 0 (.t 90)⟩),
        (4, 14, ⟨(some 92), none, .load false 1 (.t 91)⟩),
        (5, 0, ⟨(some 93), none, .move (.t 6)⟩),
        (6, 32, ⟨(some 94), none, .call (.c (.func (.func 242) #[] #[])) [(.t 93)]⟩),
        (7, 126, ⟨(some 95), none, .append 1 1 [(.int .u8 0)] (.t 92) (.t 94)⟩),
        (8, 255, ⟨(some 96), none, .nilCheck (.t 88)⟩),
        (9, 511, ⟨(some 97), none, .fieldAddr 0 (.t 96)⟩),
        (10, 1023, ⟨none, none, .store 1 (.t 97) (.t 95)⟩)] (some []))))
      (.seq (.ops [⟨(some 99), none, .bin .eql 5 (.t 14) (.c (.int .u8 108))⟩,
        ⟨(some 98), none, .move (.t 99)⟩] (some [0, 5, 98]))
      (.cond (.t 98)
       (.seq (.ops [⟨(some 101), none, .fieldAddr 2 (.t 5)⟩,
         ⟨(some 102), none, .load false 1 (.t 101)⟩,
         ⟨(some 103), none, .call (.c (.func (.func 243) #[] #[])) [(.t 102)]⟩,
         ⟨(some 100), none, .move (.t 103)⟩,
         ⟨(some 104), none, .extract (.t 100) 0⟩,
         ⟨(some 105), none, .extract (.t 100) 1⟩,
         ⟨(some 7), none, .move (.t 104)⟩,
         ⟨(some 8), none, .move (.t 105)⟩] (some [0, 5, 7, 8]))
       (.seq (.ops [⟨(some 106), none, .load true 4 (.t 5)⟩,
         ⟨(some 107), none, .call (.c (.func (.func 240) #[] #[])) [(.t 106), (.c (.bool false)), (.c (.bool false)), (.c (.bool true))]⟩,
         ⟨(some 108), none, .move (.t 107)⟩,
         ⟨(some 109), (some (108, true)), .move (.t 8)⟩,
         ⟨(some 110), (some (108, true)), .bin .eql 32 (.t 109) (.c (.int .i64 0))⟩,
         ⟨(some 111), none, .pick (.t 108) (.t 110) (.c (.bool false))⟩,
         ⟨(some 112), none, .call (.c (.func (.func 180) #[] #[])) [(.t 111), (.c (.int .i64 1))]⟩] (some [0, 7]))
       (.ops [⟨(some 113), none, .move (.t 0)⟩,
         ⟨(some 114), none, .move (.t 0)⟩,
         ⟨(some 115), none, .nilCheck (.t 114)⟩,
         ⟨(some 116), none, .fieldAddr 0 (.t 115)⟩,
         ⟨(some 117), none, .load false 1 (.t 116)⟩,
         ⟨(some 118), none, .move (.t 7)⟩,
         ⟨(some 119), none, .append 1 1 [(.int .u8 0)] (.t 117) (.t 118)⟩,
         ⟨(some 120), none, .nilCheck (.t 113)⟩,
         ⟨(some 121), none, .fieldAddr 0 (.t 120)⟩,
         ⟨none, none, .store 1 (.t 121) (.t 119)⟩] (some []))))
       .skip)))))))))))))), []⟩

theorem is182 : FnIs Tryz.prog 182 x182 := ⟨Tryz.f182, _, Tryz.func182, by kernel_rfl, rfl, by kernel_rfl, by decide, by kernel_rfl⟩

/-- cloisonne/value.Pack -/
def x183 : XDecl := .code ⟨1, 
 (.seq (.ops [⟨(some 1), none, .box (.t 0)⟩,
   ⟨(some 2), none, .move (.c (.string .empty))⟩,
   ⟨(some 3), none, .move (.c (.int .i64 0))⟩] (some [1]))
 (.seq (.block 0
  (.seq (.ops [⟨(some 5), none, .load true 3 (.t 1)⟩,
    ⟨(some 6), none, .call (.c (.func (.func 116) #[] #[])) [(.t 5)]⟩,
    ⟨(some 7), none, .un .not (.t 6)⟩,
    ⟨(some 4), none, .move (.t 7)⟩] (some [1, 4]))
  (.cond (.t 4)
   (.seq (.ops [⟨(some 2), none, .move (.c (.string .empty))⟩,
     ⟨(some 3), none, .move (.c (.int .i64 1))⟩] (some [2, 3]))
   .ret)
   (.seq (.ops [⟨(some 9), none, .fieldAddr 0 (.t 1)⟩,
     ⟨(some 10), none, .load false 1 (.t 9)⟩,
     ⟨(some 8), none, .move (.t 10)⟩] (some [1, 8]))
   (.cond (.t 8)
    (.seq (.ops [⟨(some 11), none, .fieldAddr 2 (.t 1)⟩,
      ⟨(some 12), none, .load false 1 (.t 11)⟩,
      ⟨(some 13), none, .call (.c (.func (.func 168) #[] #[])) [(.t 12)]⟩,
      ⟨(some 14), none, .call (.c (.func (.func 242) #[] #[])) [(.t 13)]⟩,
      ⟨(some 15), none, .bin .add 9 (.c (.string ⟨#[1]⟩)) (.t 14)⟩,
      ⟨(some 2), none, .move (.t 15)⟩,
      ⟨(some 3), none, .move (.c (.int .i64 0))⟩] (some [2, 3]))
    .ret)
    .skip)))))
 (.seq (.ops [⟨(some 16), none, .fieldAddr 1 (.t 1)⟩,
   ⟨(some 17), none, .load false 1 (.t 16)⟩,
   ⟨(some 18), none, .bin .add 9 (.c (.string ⟨#[0]⟩)) (.t 17)⟩,
   ⟨(some 2), none, .move (.t 18)⟩,
   ⟨(some 3), none, .move (.c (.int .i64 0))⟩] (some [2, 3]))
 .ret))), [.tmp 2, .tmp 3]⟩

theorem is183 : FnIs Tryz.prog 183 x183 := ⟨Tryz.f183, _, Tryz.func183, by kernel_rfl, rfl, by kernel_rfl, by decide, by kernel_rfl⟩

/-- cloisonne/wire.Begin -/
def x184 : XDecl := .codeD ⟨2, 
 (.seq (.ops [⟨(some 4), none, .alloc [(.slice none 0 0)]⟩,
   ⟨(some 5), none, .alloc [(.int .i64 0)]⟩,
   ⟨(some 6), none, .alloc [(.int .i64 0)]⟩] (some [0, 1, 4, 5, 6, 1000000]))
 (.seq (.ops [⟨(some 13), none, .makeFunc (.func 244) [] [(.t 6), (.t 4), (.t 5)]⟩,
   ⟨none, none, .dfrc (.t 13)⟩] (some [0, 1, 4, 5, 6, 1000000]))
 (.seq (.ops [⟨none, none, .dfr [(.t 6)]⟩] (some [0, 1, 4, 5, 6, 1000000]))
 (.seq (.ops [⟨(some 15), none, .move (.t 0)⟩,
   ⟨(some 16), none, .call (.c (.func (.func 179) #[] #[])) [(.t 15)]⟩,
   ⟨(some 14), none, .move (.t 16)⟩,
   ⟨(some 17), none, .extract (.t 14) 0⟩,
   ⟨(some 18), none, .extract (.t 14) 1⟩,
   ⟨(some 19), none, .extract (.t 14) 2⟩,
   ⟨(some 7), none, .move (.t 17)⟩,
   ⟨(some 8), none, .move (.t 18)⟩,
   ⟨(some 9), none, .move (.t 19)⟩] (some [1, 4, 5, 6, 7, 8, 9, 1000000]))
 (.seq (.ops [⟨(some 20), none, .move (.t 9)⟩,
   ⟨(some 21), none, .call (.c (.func (.func 180) #[] #[])) [(.t 20), (.c (.int .i64 1))]⟩] (some [1, 4, 5, 6, 7, 8, 1000000]))
 (.seq (.ops [⟨(some 22), none, .move (.t 1)⟩,
   ⟨(some 23), none, .build [(.string .empty)] [(0, 1)] [(0, (.t 22))]⟩,
   ⟨(some 24), none, .box (.t 23)⟩,
   ⟨(some 10), none, .move (.t 24)⟩] (some [1, 4, 5, 6, 7, 8, 10, 1000000]))
 (.seq (.seq (.ops [⟨(some 25), none, .move (.t 7)⟩,
   ⟨(some 26), none, .len (.t 25)⟩,
   ⟨(some 27), none, .move (.c (.int .i64 0))⟩] (some [1, 4, 5, 6, 8, 10, 25, 26, 27, 1000000]))
 (.block 0
  (.loop
   (.seq (.ops [⟨(some 28), none, .bin .lss 3 (.t 27) (.t 26)⟩] (some [1, 4, 5, 6, 8, 10, 25, 26, 27, 28, 1000000]))
   (.seq (.cond (.t 28)
    .skip
    (.exit 0))
   (.seq (.block 1
    (.seq (.ops [⟨(some 29), none, .move (.t 27)⟩,
      ⟨(some 30), none, .indexAddr 1 (.t 25) (.t 27)⟩,
      ⟨(some 31), none, .load false 1 (.t 30)⟩,
      ⟨(some 11), none, .move (.t 29)⟩,
      ⟨(some 12), none, .move (.t 31)⟩] (some [1, 4, 5, 6, 8, 10, 11, 12, 25, 26, 27, 1000000]))
    (.seq (.ops [⟨(some 32), none, .move (.t 8)⟩,
      ⟨(some 33), none, .move (.t 11)⟩,
      ⟨(some 34), none, .indexAddr 1 (.t 32) (.t 33)⟩,
      ⟨(some 35), none, .load false 1 (.t 34)⟩] (some [1, 4, 5, 6, 8, 10, 12, 25, 26, 27, 35, 1000000]))
    (.cond (.t 35)
     (.opsc [(0, 0, ⟨(some 36), none, .load false 1 (.t 4)⟩),
       (1, 0, ⟨(some 37), none, .move (.t 10)⟩),
       (2, 0, ⟨(some 38), none, .move (.t 12)⟩),
       (4, 1, ⟨(some 40), none, .len (.t 36)⟩),
       (5, 0, ⟨(some 41), none, .buildSlice [(.int .u64 0), (.string .empty), (.slice none 0 0), (.slice none 0 0)] 4 1 [(0, (.c (.agg #[(.int .u64 0), (.string .empty), (.slice none 0 0), (.slice none 0 0)])))]⟩),
       (3, 6, ⟨(some 39), none, .call (.c (.func (.func 245) #[] #[])) [(.t 37), (.t 38)]⟩),
       (6, 63, ⟨(some 42), none, .append 4 72 [(.int .u64 0), (.string .empty), (.slice none 0 0), (.slice none 0 0)] (.t 36) (.t 41)⟩),
       (7, 127, ⟨(some 43), none, .indexAddr 4 (.t 42) (.t 40)⟩),
       (8, 255, ⟨none, none, .store 4 (.t 43) (.t 39)⟩),
       (9, 127, ⟨none, none, .store 1 (.t 4) (.t 42)⟩)] (some [1, 4, 5, 6, 8, 10, 25, 26, 27, 1000000]))
     (.opsc [(0, 0, ⟨(some 44), none, .load false 1 (.t 4)⟩),
       (1, 0, ⟨(some 45), none, .move (.t 10)⟩),
       (2, 0, ⟨(some 46), none, .move (.t 12)⟩),
       (4, 1, ⟨(some 48), none, .len (.t 44)⟩),
       (5, 0, ⟨(some 49), none, .buildSlice [(.int .u64 0), (.string .empty), (.slice none 0 0), (.slice none 0 0)] 4 1 [(0, (.c (.agg #[(.int .u64 0), (.string .empty), (.slice none 0 0), (.slice none 0 0)])))]⟩),
       (3, 6, ⟨(some 47), none, .call (.c (.func (.func 246) #[] #[])) [(.t 45), (.t 46)]⟩),
       (6, 63, ⟨(some 50), none, .append 4 72 [(.int .u64 0), (.string .empty), (.slice none 0 0), (.slice none 0 0)] (.t 44) (.t 49)⟩),
       (7, 127, ⟨(some 51), none, .indexAddr 4 (.t 50) (.t 48)⟩),
       (8, 255, ⟨none, none, .store 4 (.t 51) (.t 47)⟩),
       (9, 127, ⟨none, none, .store 1 (.t 4) (.t 50)⟩)] (some [1, 4, 5, 6, 8, 10, 25, 26, 27, 1000000]))))))
   (.ops [⟨(some 52), none, .bin .add 3 (.t 27) (.c (.int .i64 1))⟩,
     ⟨(some 27), none, .move (.t 52)⟩] (some [1, 4, 5, 6, 8, 10, 25, 26, 27, 1000000]))))))))
 (.seq (.opsd [(0, 0, ⟨(some 53), none, .load false 1 (.t 4)⟩),
   (1, 0, ⟨(some 54), none, .move (.t 1)⟩),
   (2, 2, ⟨(some 55), none, .calcB .len [9] 3 [(.t 54)]⟩),
   (3, 0, ⟨(some 56), none, .move (.t 10)⟩),
   (4, 8, ⟨(some 57), none, .nilCheck (.t 56)⟩),
   (5, 24, ⟨(some 58), none, .fieldAddr 0 (.t 57)⟩),
   (6, 56, ⟨(some 59), none, .load false 1 (.t 58)⟩),
   (7, 120, ⟨(some 60), none, .calcB .len [9] 3 [(.t 59)]⟩),
   (8, 254, ⟨(some 61), none, .bin .sub 3 (.t 55) (.t 60)⟩),
   (9, 1, ⟨none, none, .store 1 (.t 4) (.t 53)⟩),
   (10, 1023, ⟨none, none, .store 1 (.t 5) (.t 61)⟩),
   (11, 2047, ⟨none, none, .store 1 (.t 6) (.c (.int .i64 0))⟩)] (some [4, 5, 6, 1000000]))
 .ret)))))))), [.cell false 1 4, .cell false 1 5, .cell false 1 6]⟩

theorem is184 : FnIs Tryz.prog 184 x184 := ⟨Tryz.f184, _, Tryz.func184, by kernel_rfl, rfl, by kernel_rfl, by decide, by kernel_rfl⟩

/-- cloisonne/ask.Same -/
def x187 : XDecl := .code ⟨2, 
 (.seq (.ops [⟨(some 2), none, .box (.t 0)⟩,
   ⟨(some 3), none, .box (.t 1)⟩,
   ⟨(some 4), none, .move (.c (.bool false))⟩] (some [2, 3]))
 (.seq (.ops [⟨(some 5), none, .fieldAddr 0 (.t 2)⟩,
   ⟨(some 6), none, .load false 1 (.t 5)⟩,
   ⟨(some 7), none, .fieldAddr 0 (.t 3)⟩,
   ⟨(some 8), none, .load false 1 (.t 7)⟩,
   ⟨(some 9), none, .bin .eql 32 (.t 6) (.t 8)⟩,
   ⟨(some 10), none, .move (.t 9)⟩,
   ⟨(some 11), (some (10, true)), .fieldAddr 1 (.t 2)⟩,
   ⟨(some 12), (some (10, true)), .load false 1 (.t 11)⟩,
   ⟨(some 13), (some (10, true)), .fieldAddr 1 (.t 3)⟩,
   ⟨(some 14), (some (10, true)), .load false 1 (.t 13)⟩,
   ⟨(some 15), (some (10, true)), .bin .eql 77 (.t 12) (.t 14)⟩,
   ⟨(some 16), none, .pick (.t 10) (.t 15) (.c (.bool false))⟩,
   ⟨(some 17), none, .move (.t 16)⟩,
   ⟨(some 18), (some (17, true)), .fieldAddr 2 (.t 2)⟩,
   ⟨(some 19), (some (17, true)), .load false 1 (.t 18)⟩,
   ⟨(some 20), (some (17, true)), .fieldAddr 2 (.t 3)⟩,
   ⟨(some 21), (some (17, true)), .load false 1 (.t 20)⟩,
   ⟨(some 22), (some (17, true)), .bin .eql 4 (.t 19) (.t 21)⟩,
   ⟨(some 23), none, .pick (.t 17) (.t 22) (.c (.bool false))⟩,
   ⟨(some 24), none, .move (.t 23)⟩,
   ⟨(some 25), (some (24, true)), .fieldAddr 3 (.t 2)⟩,
   ⟨(some 26), (some (24, true)), .load true 3 (.t 25)⟩,
   ⟨(some 27), (some (24, true)), .fieldAddr 3 (.t 3)⟩,
   ⟨(some 28), (some (24, true)), .load true 3 (.t 27)⟩,
   ⟨(some 29), (some (24, true)), .bin .eql 79 (.t 26) (.t 28)⟩,
   ⟨(some 30), none, .pick (.t 24) (.t 29) (.c (.bool false))⟩,
   ⟨(some 31), none, .move (.t 30)⟩,
   ⟨(some 32), (some (31, true)), .fieldAddr 7 (.t 2)⟩,
   ⟨(some 33), (some (31, true)), .load true 5 (.t 32)⟩,
   ⟨(some 34), (some (31, true)), .fieldAddr 7 (.t 3)⟩,
   ⟨(some 35), (some (31, true)), .load true 5 (.t 34)⟩,
   ⟨(some 36), (some (31, true)), .bin .eql 87 (.t 33) (.t 35)⟩,
   ⟨(some 37), none, .pick (.t 31) (.t 36) (.c (.bool false))⟩,
   ⟨(some 38), none, .move (.t 37)⟩,
   ⟨(some 39), (some (38, true)), .fieldAddr 6 (.t 2)⟩,
   ⟨(some 40), (some (38, true)), .load false 1 (.t 39)⟩,
   ⟨(some 41), (some (38, true)), .fieldAddr 6 (.t 3)⟩,
   ⟨(some 42), (some (38, true)), .load false 1 (.t 41)⟩,
   ⟨(some 43), (some (38, true)), .call (.c (.func (.func 247) #[] #[])) [(.t 40), (.t 42)]⟩,
   ⟨(some 44), none, .pick (.t 38) (.t 43) (.c (.bool false))⟩,
   ⟨(some 4), none, .move (.t 44)⟩] (some [4]))
 .ret)), [.tmp 4]⟩

theorem is187 : FnIs Tryz.prog 187 x187 := ⟨Tryz.f187, _, Tryz.func187, by kernel_rfl, rfl, by kernel_rfl, by decide, by kernel_rfl⟩

/-- slices.ContainsFunc[[]cloisonne/api.Row,cloisonne/api.Row] -/
def x188 : XDecl := .code ⟨2, 
 (.seq (.ops [⟨(some 4), none, .move (.c (.bool false))⟩] (some [0, 1]))
 (.seq (.ops [⟨(some 5), none, .move (.t 0)⟩,
   ⟨(some 6), none, .move (.t 1)⟩,
   ⟨(some 7), none, .call (.c (.func (.func 248) #[] #[])) [(.t 5), (.t 6)]⟩,
   ⟨(some 8), none, .bin .geq 3 (.t 7) (.c (.int .i64 0))⟩,
   ⟨(some 4), none, .move (.t 8)⟩] (some [4]))
 .ret)), [.tmp 4]⟩

theorem is188 : FnIs Tryz.prog 188 x188 := ⟨Tryz.f188, _, Tryz.func188, by kernel_rfl, rfl, by kernel_rfl, by decide, by kernel_rfl⟩

/-- cloisonne/value.Unpack -/
def x189 : XDecl := .code ⟨1, 
 (.seq (.ops [⟨(some 2), none, .alloc [(.bool false), (.string .empty), (.int .u64 0)]⟩,
   ⟨(some 3), none, .move (.c (.int .i64 0))⟩] (some [0, 2]))
 (.seq (.seq (.ops [⟨(some 10), none, .move (.t 0)⟩,
   ⟨(some 11), none, .bin .eql 9 (.t 10) (.c (.string .empty))⟩] (some [0, 2, 11]))
 (.cond (.t 11)
  (.seq (.ops [⟨(some 12), none, .build [(.bool false), (.string .empty), (.int .u64 0)] [(0, 1), (1, 1), (2, 1)] []⟩,
    ⟨none, none, .store 3 (.t 2) (.t 12)⟩,
    ⟨(some 3), none, .move (.c (.int .i64 3))⟩] (some [2, 3]))
  .ret)
  .skip))
 (.seq (.seq (.ops [⟨(some 14), none, .move (.t 0)⟩,
   ⟨(some 15), none, .call (.c (.func (.func 249) #[] #[])) [(.t 14), (.c (.string ⟨#[1]⟩))]⟩,
   ⟨(some 13), none, .move (.t 15)⟩,
   ⟨(some 16), none, .extract (.t 13) 0⟩,
   ⟨(some 17), none, .extract (.t 13) 1⟩,
   ⟨(some 4), none, .move (.t 16)⟩,
   ⟨(some 5), none, .move (.t 17)⟩] (some [0, 2, 4, 5]))
 (.seq (.ops [⟨(some 18), none, .move (.t 5)⟩] (some [0, 2, 4, 18]))
 (.cond (.t 18)
  (.seq (.ops [⟨(some 20), none, .move (.t 4)⟩,
    ⟨(some 21), none, .call (.c (.func (.func 250) #[] #[])) [(.t 20)]⟩,
    ⟨(some 19), none, .move (.t 21)⟩,
    ⟨(some 22), none, .extract (.t 19) 0⟩,
    ⟨(some 23), none, .extract (.t 19) 1⟩,
    ⟨(some 6), none, .move (.t 22)⟩,
    ⟨(some 7), none, .move (.t 23)⟩] (some [2, 6, 7]))
  (.seq (.seq (.ops [⟨(some 24), none, .move (.t 7)⟩,
    ⟨(some 25), none, .bin .neq 32 (.t 24) (.c (.int .i64 0))⟩] (some [2, 6, 25]))
  (.cond (.t 25)
   (.seq (.ops [⟨(some 26), none, .build [(.bool false), (.string .empty), (.int .u64 0)] [(0, 1), (1, 1), (2, 1)] []⟩,
     ⟨none, none, .store 3 (.t 2) (.t 26)⟩,
     ⟨(some 3), none, .move (.c (.int .i64 4))⟩] (some [2, 3]))
   .ret)
   .skip))
  (.seq (.ops [⟨(some 27), none, .move (.t 6)⟩,
    ⟨(some 28), none, .call (.c (.func (.func 251) #[] #[])) [(.t 27)]⟩,
    ⟨none, none, .store 3 (.t 2) (.t 28)⟩,
    ⟨(some 3), none, .move (.c (.int .i64 0))⟩] (some [2, 3]))
  .ret)))
  .skip)))
 (.seq (.ops [⟨(some 30), none, .move (.t 0)⟩,
   ⟨(some 31), none, .call (.c (.func (.func 249) #[] #[])) [(.t 30), (.c (.string ⟨#[0]⟩))]⟩,
   ⟨(some 29), none, .move (.t 31)⟩,
   ⟨(some 32), none, .extract (.t 29) 0⟩,
   ⟨(some 33), none, .extract (.t 29) 1⟩,
   ⟨(some 8), none, .move (.t 32)⟩,
   ⟨(some 9), none, .move (.t 33)⟩] (some [2, 8, 9]))
 (.seq (.seq (.ops [⟨(some 34), none, .move (.t 9)⟩,
   ⟨(some 35), none, .un .not (.t 34)⟩,
   ⟨(some 36), none, .move (.t 35)⟩,
   ⟨(some 37), (some (36, false)), .move (.t 8)⟩,
   ⟨(some 38), (some (36, false)), .calcB .len [9] 3 [(.t 37)]⟩,
   ⟨(some 39), (some (36, false)), .bin .gtr 3 (.t 38) (.c (.int .i64 64))⟩,
   ⟨(some 40), none, .pick (.t 36) (.c (.bool true)) (.t 39)⟩] (some [2, 8, 40]))
 (.cond (.t 40)
  (.seq (.ops [⟨(some 41), none, .build [(.bool false), (.string .empty), (.int .u64 0)] [(0, 1), (1, 1), (2, 1)] []⟩,
    ⟨none, none, .store 3 (.t 2) (.t 41)⟩,
    ⟨(some 3), none, .move (.c (.int .i64 4))⟩] (some [2, 3]))
  .ret)
  .skip))
 (.seq (.ops [⟨(some 42), none, .move (.t 8)⟩,
   ⟨(some 43), none, .build [(.bool false), (.string .empty), (.int .u64 0)] [(0, 1), (1, 1), (2, 1)] [(1, (.t 42))]⟩,
   ⟨none, none, .store 3 (.t 2) (.t 43)⟩,
   ⟨(some 3), none, .move (.c (.int .i64 0))⟩] (some [2, 3]))
 .ret)))))), [.cell true 3 2, .tmp 3]⟩

theorem is189 : FnIs Tryz.prog 189 x189 := ⟨Tryz.f189, _, Tryz.func189, by kernel_rfl, rfl, by kernel_rfl, by decide, by kernel_rfl⟩

/-- (*cloisonne/ask.reader).field -/
def x190 : XDecl := .code ⟨3, 
 (.seq (.ops [⟨(some 9), none, .move (.t 2)⟩] (some [0, 1, 9]))
 (.block 0
  (.seq (.ops [⟨(some 11), none, .bin .eql 160 (.t 9) (.c (.int .i64 0))⟩,
    ⟨(some 10), none, .move (.t 11)⟩] (some [0, 1, 9, 10]))
  (.cond (.t 10)
   (.ops [⟨(some 12), none, .move (.t 1)⟩,
     ⟨(some 13), none, .move (.t 0)⟩,
     ⟨(some 14), none, .call (.c (.func (.func 131) #[] #[])) [(.t 13), (.c (.string ⟨#[110]⟩))]⟩,
     ⟨(some 15), none, .indexAddr 4 (.t 14) (.c (.int .i64 0))⟩,
     ⟨(some 16), none, .load true 4 (.t 15)⟩,
     ⟨(some 17), none, .call (.c (.func (.func 130) #[] #[])) [(.t 16)]⟩,
     ⟨(some 18), none, .nilCheck (.t 12)⟩,
     ⟨(some 19), none, .fieldAddr 1 (.t 18)⟩,
     ⟨none, none, .store 1 (.t 19) (.t 17)⟩] (some []))
   (.seq (.ops [⟨(some 21), none, .bin .eql 160 (.t 9) (.c (.int .i64 1))⟩,
     ⟨(some 20), none, .move (.t 21)⟩] (some [0, 1, 9, 20]))
   (.cond (.t 20)
    (.ops [⟨(some 22), none, .move (.t 1)⟩,
      ⟨(some 23), none, .move (.t 0)⟩,
      ⟨(some 24), none, .call (.c (.func (.func 131) #[] #[])) [(.t 23), (.c (.string ⟨#[108]⟩))]⟩,
      ⟨(some 25), none, .indexAddr 4 (.t 24) (.c (.int .i64 0))⟩,
      ⟨(some 26), none, .fieldAddr 2 (.t 25)⟩,
      ⟨(some 27), none, .load false 1 (.t 26)⟩,
      ⟨(some 28), none, .nilCheck (.t 22)⟩,
      ⟨(some 29), none, .fieldAddr 2 (.t 28)⟩,
      ⟨none, none, .store 1 (.t 29) (.t 27)⟩] (some []))
    (.seq (.ops [⟨(some 31), none, .bin .eql 160 (.t 9) (.c (.int .i64 2))⟩,
      ⟨(some 30), none, .move (.t 31)⟩] (some [0, 1, 9, 30]))
    (.cond (.t 30)
     (.ops [⟨(some 32), none, .move (.t 1)⟩,
       ⟨(some 33), none, .move (.t 0)⟩,
       ⟨(some 34), none, .call (.c (.func (.func 131) #[] #[])) [(.t 33), (.c (.string ⟨#[110]⟩))]⟩,
       ⟨(some 35), none, .indexAddr 4 (.t 34) (.c (.int .i64 0))⟩,
       ⟨(some 36), none, .fieldAddr 0 (.t 35)⟩,
       ⟨(some 37), none, .load false 1 (.t 36)⟩,
       ⟨(some 38), none, .nilCheck (.t 32)⟩,
       ⟨(some 39), none, .fieldAddr 3 (.t 38)⟩,
       ⟨none, none, .store 1 (.t 39) (.t 37)⟩] (some []))
     (.seq (.ops [⟨(some 41), none, .bin .eql 160 (.t 9) (.c (.int .i64 3))⟩,
       ⟨(some 40), none, .move (.t 41)⟩] (some [0, 1, 9, 40]))
     (.cond (.t 40)
      (.ops [⟨(some 42), none, .move (.t 1)⟩,
        ⟨(some 43), none, .move (.t 0)⟩,
        ⟨(some 44), none, .call (.c (.func (.func 131) #[] #[])) [(.t 43), (.c (.string ⟨#[98]⟩))]⟩,
        ⟨(some 45), none, .indexAddr 4 (.t 44) (.c (.int .i64 0))⟩,
        ⟨(some 46), none, .load true 4 (.t 45)⟩,
        ⟨(some 47), none, .call (.c (.func (.func 133) #[] #[])) [(.t 46)]⟩,
        ⟨(some 48), none, .nilCheck (.t 42)⟩,
        ⟨(some 49), none, .fieldAddr 4 (.t 48)⟩,
        ⟨none, none, .store 1 (.t 49) (.t 47)⟩] (some []))
      (.seq (.ops [⟨(some 51), none, .bin .eql 160 (.t 9) (.c (.int .i64 4))⟩,
        ⟨(some 50), none, .move (.t 51)⟩] (some [0, 1, 9, 50]))
      (.cond (.t 50)
       (.ops [⟨(some 52), none, .move (.t 1)⟩,
         ⟨(some 53), none, .move (.t 0)⟩,
         ⟨(some 54), none, .call (.c (.func (.func 131) #[] #[])) [(.t 53), (.c (.string ⟨#[110]⟩))]⟩,
         ⟨(some 55), none, .indexAddr 4 (.t 54) (.c (.int .i64 0))⟩,
         ⟨(some 56), none, .load true 4 (.t 55)⟩,
         ⟨(some 57), none, .call (.c (.func (.func 130) #[] #[])) [(.t 56)]⟩,
         ⟨(some 58), none, .nilCheck (.t 52)⟩,
         ⟨(some 59), none, .fieldAddr 5 (.t 58)⟩,
         ⟨none, none, .store 1 (.t 59) (.t 57)⟩] (some []))
       (.seq (.ops [⟨(some 61), none, .bin .eql 160 (.t 9) (.c (.int .i64 5))⟩,
         ⟨(some 60), none, .move (.t 61)⟩] (some [0, 1, 9, 60]))
       (.cond (.t 60)
        (.ops [⟨(some 62), none, .move (.t 1)⟩,
          ⟨(some 63), none, .move (.t 0)⟩,
          ⟨(some 64), none, .call (.c (.func (.func 131) #[] #[])) [(.t 63), (.c (.string ⟨#[116]⟩))]⟩,
          ⟨(some 65), none, .indexAddr 4 (.t 64) (.c (.int .i64 0))⟩,
          ⟨(some 66), none, .fieldAddr 1 (.t 65)⟩,
          ⟨(some 67), none, .load false 1 (.t 66)⟩,
          ⟨(some 68), none, .nilCheck (.t 62)⟩,
          ⟨(some 69), none, .fieldAddr 6 (.t 68)⟩,
          ⟨none, none, .store 1 (.t 69) (.t 67)⟩] (some []))
        (.seq (.ops [⟨(some 71), none, .bin .eql 160 (.t 9) (.c (.int .i64 6))⟩,
          ⟨(some 70), none, .move (.t 71)⟩] (some [0, 1, 9, 70]))
        (.cond (.t 70)
         (.ops [⟨(some 72), none, .move (.t 1)⟩,
           ⟨(some 73), none, .move (.t 0)⟩,
           ⟨(some 74), none, .call (.c (.func (.func 134) #[] #[])) [(.t 73)]⟩,
           ⟨(some 75), none, .nilCheck (.t 72)⟩,
           ⟨(some 76), none, .fieldAddr 7 (.t 75)⟩,
           ⟨none, none, .store 3 (.t 76) (.t 74)⟩] (some []))
         (.seq (.ops [⟨(some 78), none, .bin .eql 160 (.t 9) (.c (.int .i64 7))⟩,
           ⟨(some 77), none, .move (.t 78)⟩] (some [0, 1, 9, 77]))
         (.cond (.t 77)
          (.seq (.ops [⟨(some 79), none, .move (.t 0)⟩,
            ⟨(some 80), none, .call (.c (.func (.func 131) #[] #[])) [(.t 79), (.c (.string ⟨#[116, 116, 110]⟩))]⟩,
            ⟨(some 6), none, .move (.t 80)⟩] (some [1, 6]))
          (.opsd [(0, 0, ⟨(some 81), none, .move (.t 1)⟩),
            (1, 0, ⟨(some 82), none, .move (.t 6)⟩),
            (2, 2, ⟨(some 83), none, .indexAddr 4 (.t 82) (.c (.int .i64 0))⟩),
            (3, 6, ⟨(some 84), none, .fieldAddr 1 (.t 83)⟩),
            (4, 14, ⟨(some 85), none, .load false 1 (.t 84)⟩),
            (5, 0, ⟨(some 86), none, .move (.t 6)⟩),
            (6, 32, ⟨(some 87), none, .indexAddr 4 (.t 86) (.c (.int .i64 1))⟩),
            (7, 96, ⟨(some 88), none, .fieldAddr 1 (.t 87)⟩),
            (8, 224, ⟨(some 89), none, .load false 1 (.t 88)⟩),
            (9, 0, ⟨(some 90), none, .move (.t 6)⟩),
            (10, 512, ⟨(some 91), none, .indexAddr 4 (.t 90) (.c (.int .i64 2))⟩),
            (11, 1536, ⟨(some 92), none, .load true 4 (.t 91)⟩),
            (12, 3584, ⟨(some 93), none, .call (.c (.func (.func 130) #[] #[])) [(.t 92)]⟩),
            (13, 8190, ⟨(some 94), none, .build [(.string .empty), (.string .empty), (.int .i64 0)] [(0, 1), (1, 1), (2, 1)] [(0, (.t 85)), (1, (.t 89)), (2, (.t 93))]⟩),
            (14, 16383, ⟨(some 95), none, .nilCheck (.t 81)⟩),
            (15, 32767, ⟨(some 96), none, .fieldAddr 10 (.t 95)⟩),
            (16, 65535, ⟨none, none, .store 3 (.t 96) (.t 94)⟩)] (some [])))
          (.seq (.ops [⟨(some 98), none, .bin .eql 160 (.t 9) (.c (.int .i64 8))⟩,
            ⟨(some 97), none, .move (.t 98)⟩] (some [0, 1, 9, 97]))
          (.cond (.t 97)
           (.ops [⟨(some 99), none, .move (.t 1)⟩,
             ⟨(some 100), none, .move (.t 0)⟩,
             ⟨(some 101), none, .call (.c (.func (.func 131) #[] #[])) [(.t 100), (.c (.string ⟨#[110]⟩))]⟩,
             ⟨(some 102), none, .indexAddr 4 (.t 101) (.c (.int .i64 0))⟩,
             ⟨(some 103), none, .load true 4 (.t 102)⟩,
             ⟨(some 104), none, .call (.c (.func (.func 130) #[] #[])) [(.t 103)]⟩,
             ⟨(some 105), none, .nilCheck (.t 99)⟩,
             ⟨(some 106), none, .fieldAddr 13 (.t 105)⟩,
             ⟨none, none, .store 1 (.t 106) (.t 104)⟩] (some []))
           (.seq (.ops [⟨(some 108), none, .bin .eql 160 (.t 9) (.c (.int .i64 9))⟩,
             ⟨(some 107), none, .move (.t 108)⟩] (some [0, 1, 107]))
           (.cond (.t 107)
            (.seq (.ops [⟨(some 109), none, .move (.t 0)⟩,
              ⟨(some 110), none, .call (.c (.func (.func 131) #[] #[])) [(.t 109), (.c (.string ⟨#[110]⟩))]⟩,
              ⟨(some 111), none, .indexAddr 4 (.t 110) (.c (.int .i64 0))⟩,
              ⟨(some 112), none, .load true 4 (.t 111)⟩,
              ⟨(some 113), none, .call (.c (.func (.func 130) #[] #[])) [(.t 112)]⟩,
              ⟨(some 7), none, .move (.t 113)⟩] (some [0, 1, 7]))
            (.seq (.ops [⟨(some 114), none, .move (.t 7)⟩,
              ⟨(some 115), none, .bin .leq 3 (.t 114) (.c (.int .i64 32))⟩,
              ⟨(some 116), none, .call (.c (.func (.func 75) #[] #[])) [(.t 115)]⟩] (some [0, 1, 7]))
            (.seq (.ops [⟨(some 117), none, .move (.t 7)⟩,
              ⟨(some 118), none, .move (.c (.int .i64 0))⟩] (some [0, 1, 117, 118]))
            (.block 1
             (.loop
              (.seq (.ops [⟨(some 119), none, .bin .lss 3 (.t 118) (.t 117)⟩] (some [0, 1, 117, 118, 119]))
              (.seq (.cond (.t 119)
               .skip
               (.exit 1))
              (.seq (.block 2
               (.seq (.ops [⟨(some 120), none, .move (.t 0)⟩,
                 ⟨(some 121), none, .call (.c (.func (.func 131) #[] #[])) [(.t 120), (.c (.string ⟨#[110, 110]⟩))]⟩,
                 ⟨(some 8), none, .move (.t 121)⟩] (some [0, 1, 8, 117, 118]))
               (.opsd [(0, 0, ⟨(some 122), none, .move (.t 1)⟩),
                 (1, 0, ⟨(some 123), none, .move (.t 1)⟩),
                 (2, 2, ⟨(some 124), none, .nilCheck (.t 123)⟩),
                 (3, 6, ⟨(some 125), none, .fieldAddr 14 (.t 124)⟩),
                 (4, 14, ⟨(some 126), none, .load false 1 (.t 125)⟩),
                 (5, 0, ⟨(some 127), none, .move (.t 8)⟩),
                 (6, 32, ⟨(some 128), none, .indexAddr 4 (.t 127) (.c (.int .i64 0))⟩),
                 (7, 96, ⟨(some 129), none, .load true 4 (.t 128)⟩),
                 (9, 0, ⟨(some 131), none, .move (.t 8)⟩),
                 (10, 512, ⟨(some 132), none, .indexAddr 4 (.t 131) (.c (.int .i64 1))⟩),
                 (11, 1536, ⟨(some 133), none, .fieldAddr 0 (.t 132)⟩),
                 (12, 3584, ⟨(some 134), none, .load false 1 (.t 133)⟩),
                 (8, 224, ⟨(some 130), none, .call (.c (.func (.func 130) #[] #[])) [(.t 129)]⟩),
                 (13, 8160, ⟨(some 135), none, .build [(.int .i64 0), (.int .u64 0)] [(0, 1), (1, 1)] [(0, (.t 130)), (1, (.t 134))]⟩),
                 (14, 16352, ⟨(some 136), none, .buildSlice [(.int .i64 0), (.int .u64 0)] 2 1 [(0, (.t 135))]⟩),
                 (15, 32766, ⟨(some 137), none, .append 2 16 [(.int .i64 0), (.int .u64 0)] (.t 126) (.t 136)⟩),
                 (16, 65535, ⟨(some 138), none, .nilCheck (.t 122)⟩),
                 (17, 131071, ⟨(some 139), none, .fieldAddr 14 (.t 138)⟩),
                 (18, 262143, ⟨none, none, .store 1 (.t 139) (.t 137)⟩)] (some [0, 1, 117, 118]))))
              (.ops [⟨(some 140), none, .bin .add 3 (.t 118) (.c (.int .i64 1))⟩,
                ⟨(some 118), none, .move (.t 140)⟩] (some [0, 1, 117, 118]))))))))))
            .skip)))))))))))))))))))))), []⟩

theorem is190 : FnIs Tryz.prog 190 x190 := ⟨Tryz.f190, _, Tryz.func190, by kernel_rfl, rfl, by kernel_rfl, by decide, by kernel_rfl⟩

/-- cloisonne/sess.as -/
def x191 : XDecl := .code ⟨1, 
 (.seq (.ops [⟨(some 2), none, .alloc [(.int .i64 0), (.int .u64 0), (.bool false), (.bool false), (.string .empty), (.int .u64 0), (.slice none 0 0), (.int .i64 0), (.int .u64 0), (.int .u64 0), (.int .u64 0), (.int .u64 0)]⟩] (some [0, 2]))
 (.seq (.ops [⟨(some 3), none, .move (.t 0)⟩,
   ⟨(some 4), none, .build [(.int .i64 0), (.int .u64 0), (.bool false), (.bool false), (.string .empty), (.int .u64 0), (.slice none 0 0), (.int .i64 0), (.int .u64 0), (.int .u64 0), (.int .u64 0), (.int .u64 0)] [(0, 1), (1, 1), (2, 1), (3, 3), (6, 1), (7, 5)] [(0, (.t 3))]⟩,
   ⟨none, none, .store 12 (.t 2) (.t 4)⟩] (some [2]))
 .ret)), [.cell true 12 2]⟩

theorem is191 : FnIs Tryz.prog 191 x191 := ⟨Tryz.f191, _, Tryz.func191, by kernel_rfl, rfl, by kernel_rfl, by decide, by kernel_rfl⟩

/-- (*cloisonne/sess.Session).outside -/
def x192 : XDecl := .code ⟨2, 
 (.seq (.ops [⟨(some 3), none, .box (.t 1)⟩,
   ⟨(some 4), none, .alloc [(.int .i64 0), (.int .u64 0), (.bool false), (.bool false), (.string .empty), (.int .u64 0), (.slice none 0 0), (.int .i64 0), (.int .u64 0), (.int .u64 0), (.int .u64 0), (.int .u64 0)]⟩,
   ⟨(some 5), none, .move (.c (.bool false))⟩] (some [0, 3, 4]))
 (.seq (.seq (.ops [⟨(some 6), none, .fieldAddr 0 (.t 3)⟩,
   ⟨(some 7), none, .load false 1 (.t 6)⟩] (some [0, 3, 4, 7]))
 (.block 0
  (.seq (.ops [⟨(some 9), none, .bin .eql 3 (.t 7) (.c (.int .i64 1))⟩,
    ⟨(some 8), none, .move (.t 9)⟩] (some [0, 3, 4, 7, 8]))
  (.cond (.t 8)
   (.seq (.ops [⟨(some 10), none, .move (.t 0)⟩,
     ⟨(some 11), none, .load true 15 (.t 3)⟩,
     ⟨(some 12), none, .call (.c (.func (.func 252) #[] #[])) [(.t 10), (.t 11)]⟩,
     ⟨none, none, .store 12 (.t 4) (.t 12)⟩,
     ⟨(some 5), none, .move (.c (.bool true))⟩] (some [4, 5]))
   .ret)
   (.seq (.ops [⟨(some 14), none, .bin .eql 3 (.t 7) (.c (.int .i64 2))⟩,
     ⟨(some 13), none, .move (.t 14)⟩] (some [0, 3, 4, 7, 13]))
   (.cond (.t 13)
    (.seq (.ops [⟨(some 15), none, .move (.t 0)⟩,
      ⟨(some 16), none, .move (.t 0)⟩,
      ⟨(some 17), none, .nilCheck (.t 15)⟩,
      ⟨(some 18), none, .fieldAddr 3 (.t 17)⟩,
      ⟨none, none, .store 1 (.t 18) (.c (.bool false))⟩,
      ⟨(some 19), none, .nilCheck (.t 16)⟩,
      ⟨(some 20), none, .fieldAddr 6 (.t 19)⟩,
      ⟨none, none, .store 1 (.t 20) (.c (.pointer none))⟩] (some [4]))
    (.seq (.ops [⟨(some 21), none, .call (.c (.func (.func 191) #[] #[])) [(.c (.int .i64 0))]⟩,
      ⟨none, none, .store 12 (.t 4) (.t 21)⟩,
      ⟨(some 5), none, .move (.c (.bool true))⟩] (some [4, 5]))
    .ret))
    (.seq (.ops [⟨(some 23), none, .bin .eql 3 (.t 7) (.c (.int .i64 3))⟩,
      ⟨(some 22), none, .move (.t 23)⟩] (some [0, 3, 4, 7, 22]))
    (.cond (.t 22)
     (.seq (.ops [⟨(some 24), none, .move (.t 0)⟩,
       ⟨(some 25), none, .fieldAddr 2 (.t 3)⟩,
       ⟨(some 26), none, .load false 1 (.t 25)⟩,
       ⟨(some 27), none, .call (.c (.func (.func 253) #[] #[])) [(.t 24), (.t 26)]⟩,
       ⟨(some 28), none, .call (.c (.func (.func 191) #[] #[])) [(.t 27)]⟩,
       ⟨none, none, .store 12 (.t 4) (.t 28)⟩,
       ⟨(some 5), none, .move (.c (.bool true))⟩] (some [4, 5]))
     .ret)
     (.seq (.ops [⟨(some 30), none, .bin .eql 3 (.t 7) (.c (.int .i64 4))⟩,
       ⟨(some 29), none, .move (.t 30)⟩] (some [0, 3, 4, 7, 29]))
     (.cond (.t 29)
      (.seq (.ops [⟨(some 31), none, .move (.t 0)⟩,
        ⟨(some 32), none, .load true 15 (.t 3)⟩,
        ⟨(some 33), none, .call (.c (.func (.func 254) #[] #[])) [(.t 31), (.t 32)]⟩,
        ⟨none, none, .store 12 (.t 4) (.t 33)⟩,
        ⟨(some 5), none, .move (.c (.bool true))⟩] (some [4, 5]))
      .ret)
      (.seq (.ops [⟨(some 35), none, .bin .eql 3 (.t 7) (.c (.int .i64 7))⟩,
        ⟨(some 34), none, .move (.t 35)⟩] (some [0, 4, 34]))
      (.cond (.t 34)
       (.seq (.seq (.ops [⟨(some 36), none, .move (.t 0)⟩,
         ⟨(some 37), none, .nilCheck (.t 36)⟩,
         ⟨(some 38), none, .fieldAddr 6 (.t 37)⟩,
         ⟨(some 39), none, .load false 1 (.t 38)⟩,
         ⟨(some 40), none, .isNil .ptr true (.t 39)⟩] (some [0, 4, 40]))
       (.cond (.t 40)
        (.seq (.ops [⟨(some 41), none, .call (.c (.func (.func 191) #[] #[])) [(.c (.int .i64 8))]⟩,
          ⟨none, none, .store 12 (.t 4) (.t 41)⟩,
          ⟨(some 5), none, .move (.c (.bool true))⟩] (some [4, 5]))
        .ret)
        .skip))
       (.seq (.ops [⟨(some 42), none, .move (.t 0)⟩,
         ⟨(some 43), none, .move (.t 0)⟩,
         ⟨(some 44), none, .nilCheck (.t 43)⟩,
         ⟨(some 45), none, .fieldAddr 0 (.t 44)⟩,
         ⟨(some 46), none, .load false 1 (.t 45)⟩,
         ⟨(some 47), none, .call (.c (.func (.func 255) #[] #[])) [(.t 46)]⟩,
         ⟨(some 48), none, .call (.c (.func (.func 256) #[] #[])) []⟩,
         ⟨(some 49), none, .build [(.int .u64 0), (.pointer none), (.int .i64 0)] [(0, 1), (1, 1), (2, 1)] [(0, (.t 47)), (1, (.t 48)), (2, (.c (.int .i64 (-1))))]⟩,
         ⟨(some 50), none, .box (.t 49)⟩,
         ⟨(some 51), none, .nilCheck (.t 42)⟩,
         ⟨(some 52), none, .fieldAddr 6 (.t 51)⟩,
         ⟨none, none, .store 1 (.t 52) (.t 50)⟩] (some [4]))
       (.seq (.ops [⟨(some 53), none, .call (.c (.func (.func 191) #[] #[])) [(.c (.int .i64 0))]⟩,
         ⟨none, none, .store 12 (.t 4) (.t 53)⟩,
         ⟨(some 5), none, .move (.c (.bool true))⟩] (some [4, 5]))
       .ret)))
       .skip))))))))))))
 (.seq (.ops [⟨(some 54), none, .build [(.int .i64 0), (.int .u64 0), (.bool false), (.bool false), (.string .empty), (.int .u64 0), (.slice none 0 0), (.int .i64 0), (.int .u64 0), (.int .u64 0), (.int .u64 0), (.int .u64 0)] [(0, 1), (1, 1), (2, 1), (3, 3), (6, 1), (7, 5)] []⟩,
   ⟨none, none, .store 12 (.t 4) (.t 54)⟩,
   ⟨(some 5), none, .move (.c (.bool false))⟩] (some [4, 5]))
 .ret))), [.cell true 12 4, .tmp 5]⟩

theorem is192 : FnIs Tryz.prog 192 x192 := ⟨Tryz.f192, _, Tryz.func192, by kernel_rfl, rfl, by kernel_rfl, by decide, by kernel_rfl⟩

/-- (*cloisonne/sess.Session).work -/
def x193 : XDecl := .code ⟨1, 
 (.seq (.ops [⟨(some 2), none, .move (.c (.int .i64 0))⟩,
   ⟨(some 3), none, .alloc [(.int .i64 0), (.int .u64 0), (.bool false), (.bool false), (.string .empty), (.int .u64 0), (.slice none 0 0), (.int .i64 0), (.int .u64 0), (.int .u64 0), (.int .u64 0), (.int .u64 0)]⟩,
   ⟨(some 4), none, .move (.c (.int .i64 0))⟩] (some [0, 3]))
 (.seq (.ops [⟨(some 12), none, .move (.t 0)⟩,
   ⟨(some 13), none, .nilCheck (.t 12)⟩,
   ⟨(some 14), none, .fieldAddr 7 (.t 13)⟩,
   ⟨(some 15), none, .load false 1 (.t 14)⟩,
   ⟨(some 5), none, .move (.t 15)⟩] (some [0, 3, 5]))
 (.seq (.seq (.ops [⟨(some 16), none, .move (.t 5)⟩,
   ⟨(some 17), none, .nilCheck (.t 16)⟩,
   ⟨(some 18), none, .fieldAddr 17 (.t 17)⟩,
   ⟨(some 19), none, .load false 1 (.t 18)⟩,
   ⟨(some 20), none, .isNil .ptr false (.t 19)⟩] (some [0, 3, 5, 20]))
 (.cond (.t 20)
  (.seq (.ops [⟨(some 22), none, .move (.t 0)⟩,
    ⟨(some 23), none, .move (.t 5)⟩,
    ⟨(some 24), none, .nilCheck (.t 23)⟩,
    ⟨(some 25), none, .fieldAddr 0 (.t 24)⟩,
    ⟨(some 26), none, .load true 15 (.t 25)⟩,
    ⟨(some 27), none, .call (.c (.func (.func 257) #[] #[])) [(.t 22), (.t 26)]⟩,
    ⟨(some 21), none, .move (.t 27)⟩,
    ⟨(some 28), none, .extract (.t 21) 0⟩,
    ⟨(some 29), none, .extract (.t 21) 1⟩,
    ⟨(some 7), none, .alloc [(.int .i64 0), (.int .u64 0), (.bool false), (.bool false), (.string .empty), (.int .u64 0), (.slice none 0 0), (.int .i64 0), (.int .u64 0), (.int .u64 0), (.int .u64 0), (.int .u64 0)]⟩,
    ⟨(some 6), none, .move (.t 28)⟩,
    ⟨none, none, .store 12 (.t 7) (.t 29)⟩] (some [3, 5, 6, 7]))
  (.seq (.seq (.ops [⟨(some 30), none, .move (.t 6)⟩,
    ⟨(some 31), none, .isNil .ptr false (.t 30)⟩] (some [3, 5, 6, 7, 31]))
  (.cond (.t 31)
   (.seq (.opsd [(0, 0, ⟨(some 32), none, .load true 12 (.t 7)⟩),
     (1, 0, ⟨(some 2), none, .move (.c (.int .i64 2))⟩),
     (2, 3, ⟨none, none, .store 12 (.t 3) (.t 32)⟩),
     (3, 7, ⟨(some 4), none, .move (.c (.int .i64 0))⟩)] (some [2, 3, 4]))
   .ret)
   .skip))
  (.ops [⟨(some 33), none, .move (.t 5)⟩,
    ⟨(some 34), none, .move (.t 6)⟩,
    ⟨(some 35), none, .nilCheck (.t 33)⟩,
    ⟨(some 36), none, .fieldAddr 17 (.t 35)⟩,
    ⟨none, none, .store 1 (.t 36) (.t 34)⟩] (some [3, 5]))))
  .skip))
 (.seq (.ops [⟨(some 38), none, .move (.t 5)⟩,
   ⟨(some 39), none, .nilCheck (.t 38)⟩,
   ⟨(some 40), none, .fieldAddr 17 (.t 39)⟩,
   ⟨(some 41), none, .load false 1 (.t 40)⟩,
   ⟨(some 42), none, .call (.c (.func (.func 94) #[] #[])) [(.t 41)]⟩,
   ⟨(some 37), none, .move (.t 42)⟩,
   ⟨(some 43), none, .extract (.t 37) 0⟩,
   ⟨(some 44), none, .extract (.t 37) 1⟩,
   ⟨(some 8), none, .move (.t 43)⟩,
   ⟨(some 9), none, .move (.t 44)⟩] (some [3, 5, 8, 9]))
 (.seq (.seq (.ops [⟨(some 45), none, .move (.t 9)⟩,
   ⟨(some 46), none, .bin .neq 32 (.t 45) (.c (.int .i64 0))⟩,
   ⟨(some 47), none, .move (.t 46)⟩,
   ⟨(some 48), (some (47, false)), .move (.t 8)⟩,
   ⟨(some 49), (some (47, false)), .bin .neq 3 (.t 48) (.c (.int .i64 2))⟩,
   ⟨(some 50), none, .pick (.t 47) (.c (.bool true)) (.t 49)⟩] (some [3, 5, 8, 9, 50]))
 (.cond (.t 50)
  (.seq (.ops [⟨(some 51), none, .move (.t 8)⟩,
    ⟨(some 52), none, .build [(.int .i64 0), (.int .u64 0), (.bool false), (.bool false), (.string .empty), (.int .u64 0), (.slice none 0 0), (.int .i64 0), (.int .u64 0), (.int .u64 0), (.int .u64 0), (.int .u64 0)] [(0, 1), (1, 1), (2, 1), (3, 3), (6, 1), (7, 5)] []⟩,
    ⟨(some 53), none, .move (.t 9)⟩,
    ⟨(some 2), none, .move (.t 51)⟩,
    ⟨none, none, .store 12 (.t 3) (.t 52)⟩,
    ⟨(some 4), none, .move (.t 53)⟩] (some [2, 3, 4]))
  .ret)
  .skip))
 (.seq (.ops [⟨(some 55), none, .move (.t 5)⟩,
   ⟨(some 56), none, .nilCheck (.t 55)⟩,
   ⟨(some 57), none, .fieldAddr 17 (.t 56)⟩,
   ⟨(some 58), none, .load false 1 (.t 57)⟩,
   ⟨(some 59), none, .call (.c (.func (.func 95) #[] #[])) [(.t 58)]⟩,
   ⟨(some 54), none, .move (.t 59)⟩,
   ⟨(some 60), none, .extract (.t 54) 0⟩,
   ⟨(some 61), none, .extract (.t 54) 1⟩,
   ⟨(some 62), none, .extract (.t 54) 2⟩,
   ⟨(some 10), none, .move (.t 60)⟩,
   ⟨(some 9), none, .move (.t 61)⟩,
   ⟨(some 11), none, .move (.t 62)⟩] (some [3, 9, 10]))
 (.seq (.ops [⟨(some 63), none, .move (.t 9)⟩,
   ⟨(some 64), none, .move (.t 10)⟩,
   ⟨(some 65), none, .build [(.int .i64 0), (.int .u64 0), (.bool false), (.bool false), (.string .empty), (.int .u64 0), (.slice none 0 0), (.int .i64 0), (.int .u64 0), (.int .u64 0), (.int .u64 0), (.int .u64 0)] [(0, 1), (1, 1), (2, 1), (3, 3), (6, 1), (7, 5)] [(0, (.t 63)), (1, (.t 64))]⟩,
   ⟨(some 2), none, .move (.c (.int .i64 2))⟩,
   ⟨none, none, .store 12 (.t 3) (.t 65)⟩,
   ⟨(some 4), none, .move (.c (.int .i64 0))⟩] (some [2, 3, 4]))
 .ret))))))), [.tmp 2, .cell true 12 3, .tmp 4]⟩

theorem is193 : FnIs Tryz.prog 193 x193 := ⟨Tryz.f193, _, Tryz.func193, by kernel_rfl, rfl, by kernel_rfl, by decide, by kernel_rfl⟩

/-- (*cloisonne/sess.Session).inside -/
def x195 : XDecl := .code ⟨2, 
 (.seq (.ops [⟨(some 3), none, .box (.t 1)⟩,
   ⟨(some 4), none, .alloc [(.int .i64 0), (.int .u64 0), (.bool false), (.bool false), (.string .empty), (.int .u64 0), (.slice none 0 0), (.int .i64 0), (.int .u64 0), (.int .u64 0), (.int .u64 0), (.int .u64 0)]⟩] (some [0, 3, 4]))
 (.seq (.seq (.ops [⟨(some 5), none, .fieldAddr 0 (.t 3)⟩,
   ⟨(some 6), none, .load false 1 (.t 5)⟩] (some [0, 3, 4, 6]))
 (.block 0
  (.seq (.ops [⟨(some 8), none, .bin .eql 3 (.t 6) (.c (.int .i64 8))⟩,
    ⟨(some 7), none, .move (.t 8)⟩] (some [0, 3, 4, 6, 7]))
  (.cond (.t 7)
   (.seq (.ops [⟨(some 9), none, .move (.t 0)⟩,
     ⟨(some 10), none, .load true 15 (.t 3)⟩,
     ⟨(some 11), none, .call (.c (.func (.func 262) #[] #[])) [(.t 9), (.t 10)]⟩,
     ⟨none, none, .store 12 (.t 4) (.t 11)⟩] (some [4]))
   .ret)
   (.seq (.seq (.ops [⟨(some 13), none, .bin .eql 3 (.t 6) (.c (.int .i64 9))⟩,
     ⟨(some 12), none, .move (.t 13)⟩] (some [0, 3, 4, 6, 12]))
   (.cond (.t 12)
    .skip
    (.ops [⟨(some 14), none, .bin .eql 3 (.t 6) (.c (.int .i64 10))⟩,
      ⟨(some 12), none, .move (.t 14)⟩] (some [0, 3, 4, 6, 12]))))
   (.cond (.t 12)
    (.seq (.ops [⟨(some 15), none, .move (.t 0)⟩,
      ⟨(some 16), none, .load true 15 (.t 3)⟩,
      ⟨(some 17), none, .call (.c (.func (.func 263) #[] #[])) [(.t 15), (.t 16)]⟩,
      ⟨none, none, .store 12 (.t 4) (.t 17)⟩] (some [4]))
    .ret)
    (.seq (.ops [⟨(some 19), none, .bin .eql 3 (.t 6) (.c (.int .i64 16))⟩,
      ⟨(some 18), none, .move (.t 19)⟩] (some [0, 3, 4, 6, 18]))
    (.cond (.t 18)
     (.seq (.ops [⟨(some 20), none, .move (.t 0)⟩,
       ⟨(some 21), none, .load true 15 (.t 3)⟩,
       ⟨(some 22), none, .call (.c (.func (.func 264) #[] #[])) [(.t 20), (.t 21)]⟩,
       ⟨none, none, .store 12 (.t 4) (.t 22)⟩] (some [4]))
     .ret)
     (.seq (.seq (.ops [⟨(some 24), none, .bin .eql 3 (.t 6) (.c (.int .i64 12))⟩,
       ⟨(some 23), none, .move (.t 24)⟩] (some [0, 3, 4, 6, 23]))
     (.cond (.t 23)
      .skip
      (.ops [⟨(some 25), none, .bin .eql 3 (.t 6) (.c (.int .i64 13))⟩,
        ⟨(some 23), none, .move (.t 25)⟩] (some [0, 3, 4, 23]))))
     (.cond (.t 23)
      (.seq (.ops [⟨(some 26), none, .move (.t 0)⟩,
        ⟨(some 27), none, .load true 15 (.t 3)⟩,
        ⟨(some 28), none, .call (.c (.func (.func 265) #[] #[])) [(.t 26), (.t 27)]⟩,
        ⟨none, none, .store 12 (.t 4) (.t 28)⟩] (some [4]))
      .ret)
      .skip))))))))))
 (.seq (.ops [⟨(some 29), none, .move (.t 0)⟩,
   ⟨(some 30), none, .nilCheck (.t 29)⟩,
   ⟨(some 31), none, .fieldAddr 6 (.t 30)⟩,
   ⟨none, none, .store 1 (.t 31) (.c (.pointer none))⟩] (some [4]))
 (.seq (.ops [⟨(some 32), none, .call (.c (.func (.func 191) #[] #[])) [(.c (.int .i64 0))]⟩,
   ⟨none, none, .store 12 (.t 4) (.t 32)⟩] (some [4]))
 .ret)))), [.cell true 12 4]⟩

theorem is195 : FnIs Tryz.prog 195 x195 := ⟨Tryz.f195, _, Tryz.func195, by kernel_rfl, rfl, by kernel_rfl, by decide, by kernel_rfl⟩

/-- (*cloisonne/tree.Tree).find -/
def x198 : XDecl := .code ⟨2, 
 (.seq (.ops [⟨(some 4), none, .move (.c (.pointer none))⟩,
   ⟨(some 5), none, .move (.c (.int .i64 0))⟩,
   ⟨(some 6), none, .move (.c (.bool false))⟩] (some [0, 1]))
 (.seq (.seq (.ops [⟨(some 10), none, .move (.t 0)⟩,
   ⟨(some 11), none, .isNil .ptr false (.t 10)⟩,
   ⟨(some 12), none, .move (.t 11)⟩,
   ⟨(some 13), (some (12, false)), .move (.t 0)⟩,
   ⟨(some 14), (some (12, false)), .nilCheck (.t 13)⟩,
   ⟨(some 15), (some (12, false)), .fieldAddr 2 (.t 14)⟩,
   ⟨(some 16), (some (12, false)), .load false 1 (.t 15)⟩,
   ⟨(some 17), (some (12, false)), .bin .lss 3 (.t 16) (.c (.int .i64 0))⟩,
   ⟨(some 18), none, .pick (.t 12) (.c (.bool true)) (.t 17)⟩] (some [0, 1, 18]))
 (.cond (.t 18)
  (.seq (.ops [⟨(some 4), none, .move (.c (.pointer none))⟩,
    ⟨(some 5), none, .move (.c (.int .i64 0))⟩,
    ⟨(some 6), none, .move (.c (.bool false))⟩] (some [4, 5, 6]))
  .ret)
  .skip))
 (.seq (.opsr [⟨(some 19), none, .move (.t 0)⟩,
   ⟨(some 20), none, .nilCheck (.t 19)⟩,
   ⟨(some 21), none, .fieldAddr 0 (.t 20)⟩,
   ⟨(some 22), none, .load false 1 (.t 21)⟩,
   ⟨(some 23), none, .move (.t 0)⟩,
   ⟨(some 24), none, .nilCheck (.t 23)⟩,
   ⟨(some 25), none, .fieldAddr 2 (.t 24)⟩,
   ⟨(some 26), none, .load false 1 (.t 25)⟩,
   ⟨(some 27), none, .indexAddr 3 (.t 22) (.t 26)⟩,
   ⟨(some 7), none, .move (.t 27)⟩] (some [0, 1, 7]))
 (.seq (.block 0
  (.loop
   (.seq (.seq (.ops [⟨(some 28), none, .move (.t 7)⟩,
     ⟨(some 29), none, .call (.c (.func (.func 205) #[] #[])) [(.t 28)]⟩,
     ⟨(some 30), none, .un .not (.t 29)⟩] (some [0, 1, 7, 30]))
   (.cond (.t 30)
    .skip
    (.exit 0)))
   (.block 1
    (.opsd [(0, 0, ⟨(some 31), none, .move (.t 0)⟩),
      (1, 1, ⟨(some 32), none, .nilCheck (.t 31)⟩),
      (2, 3, ⟨(some 33), none, .fieldAddr 0 (.t 32)⟩),
      (3, 7, ⟨(some 34), none, .load false 1 (.t 33)⟩),
      (4, 0, ⟨(some 35), none, .move (.t 7)⟩),
      (5, 16, ⟨(some 36), none, .nilCheck (.t 35)⟩),
      (6, 48, ⟨(some 37), none, .fieldAddr 2 (.t 36)⟩),
      (7, 112, ⟨(some 38), none, .load false 1 (.t 37)⟩),
      (8, 0, ⟨(some 39), none, .move (.t 7)⟩),
      (9, 0, ⟨(some 40), none, .move (.t 1)⟩),
      (10, 768, ⟨(some 41), none, .call (.c (.func (.func 268) #[] #[])) [(.t 39), (.t 40)]⟩),
      (11, 2032, ⟨(some 42), none, .indexAddr 1 (.t 38) (.t 41)⟩),
      (12, 4080, ⟨(some 43), none, .load false 1 (.t 42)⟩),
      (13, 8191, ⟨(some 44), none, .indexAddr 3 (.t 34) (.t 43)⟩),
      (14, 16383, ⟨(some 7), none, .move (.t 44)⟩)] (some [0, 1, 7]))))))
 (.seq (.ops [⟨(some 46), none, .move (.t 7)⟩,
   ⟨(some 47), none, .nilCheck (.t 46)⟩,
   ⟨(some 48), none, .fieldAddr 0 (.t 47)⟩,
   ⟨(some 49), none, .load false 1 (.t 48)⟩,
   ⟨(some 50), none, .move (.t 1)⟩,
   ⟨(some 51), none, .call (.c (.func (.func 269) #[] #[])) [(.t 49), (.t 50)]⟩,
   ⟨(some 45), none, .move (.t 51)⟩,
   ⟨(some 52), none, .extract (.t 45) 0⟩,
   ⟨(some 53), none, .extract (.t 45) 1⟩,
   ⟨(some 8), none, .move (.t 52)⟩,
   ⟨(some 9), none, .move (.t 53)⟩] (some [7, 8, 9]))
 (.seq (.ops [⟨(some 54), none, .move (.t 7)⟩,
   ⟨(some 55), none, .move (.t 8)⟩,
   ⟨(some 56), none, .move (.t 9)⟩,
   ⟨(some 4), none, .move (.t 54)⟩,
   ⟨(some 5), none, .move (.t 55)⟩,
   ⟨(some 6), none, .move (.t 56)⟩] (some [4, 5, 6]))
 .ret)))))), [.tmp 4, .tmp 5, .tmp 6]⟩

theorem is198 : FnIs Tryz.prog 198 x198 := ⟨Tryz.f198, _, Tryz.func198, by kernel_rfl, rfl, by kernel_rfl, by decide, by kernel_rfl⟩

/-- cloisonne/chain.right -/
def x199 : XDecl := .code ⟨1, 
 (.seq (.ops [⟨(some 1), none, .box (.t 0)⟩,
   ⟨(some 2), none, .move (.c (.bool false))⟩] (some [1]))
 (.seq (.ops [⟨(some 3), none, .fieldAddr 0 (.t 1)⟩,
   ⟨(some 4), none, .load false 1 (.t 3)⟩,
   ⟨(some 5), none, .bin .geq 3 (.t 4) (.c (.int .i64 1))⟩,
   ⟨(some 6), none, .move (.t 5)⟩,
   ⟨(some 7), (some (6, true)), .fieldAddr 0 (.t 1)⟩,
   ⟨(some 8), (some (6, true)), .load false 1 (.t 7)⟩,
   ⟨(some 9), (some (6, true)), .bin .leq 3 (.t 8) (.c (.int .i64 1073741824))⟩,
   ⟨(some 10), none, .pick (.t 6) (.t 9) (.c (.bool false))⟩,
   ⟨(some 11), none, .move (.t 10)⟩,
   ⟨(some 12), (some (11, true)), .fieldAddr 2 (.t 1)⟩,
   ⟨(some 13), (some (11, true)), .load true 3 (.t 12)⟩,
   ⟨(some 14), (some (11, true)), .call (.c (.func (.func 116) #[] #[])) [(.t 13)]⟩,
   ⟨(some 15), none, .pick (.t 11) (.t 14) (.c (.bool false))⟩,
   ⟨(some 16), none, .move (.t 15)⟩,
   ⟨(some 17), (some (16, true)), .fieldAddr 1 (.t 1)⟩,
   ⟨(some 18), (some (16, true)), .load false 1 (.t 17)⟩,
   ⟨(some 19), (some (16, true)), .un .not (.t 18)⟩,
   ⟨(some 20), (some (16, true)), .move (.t 19)⟩,
   ⟨(some 21), (some (20, false)), .fieldAddr 2 (.t 1)⟩,
   ⟨(some 22), (some (20, false)), .load true 3 (.t 21)⟩,
   ⟨(some 23), (some (20, false)), .build [(.bool false), (.string .empty), (.int .u64 0)] [(0, 1), (1, 1), (2, 1)] []⟩,
   ⟨(some 24), (some (20, false)), .bin .eql 79 (.t 22) (.t 23)⟩,
   ⟨(some 25), (some (16, true)), .pick (.t 20) (.c (.bool true)) (.t 24)⟩,
   ⟨(some 26), none, .pick (.t 16) (.t 25) (.c (.bool false))⟩,
   ⟨(some 2), none, .move (.t 26)⟩] (some [2]))
 .ret)), [.tmp 2]⟩

theorem is199 : FnIs Tryz.prog 199 x199 := ⟨Tryz.f199, _, Tryz.func199, by kernel_rfl, rfl, by kernel_rfl, by decide, by kernel_rfl⟩

/-- cloisonne/chain.Weight -/
def x202 : XDecl := .code ⟨1, 
 (.seq (.ops [⟨(some 2), none, .move (.c (.int .i64 0))⟩] (some [0]))
 (.seq (.ops [⟨(some 6), none, .move (.t 0)⟩,
   ⟨(some 7), none, .call (.c (.func (.func 270) #[] #[])) [(.t 6)]⟩,
   ⟨(some 5), none, .move (.t 7)⟩,
   ⟨(some 8), none, .extract (.t 5) 0⟩,
   ⟨(some 9), none, .extract (.t 5) 1⟩,
   ⟨(some 3), none, .alloc [(.int .i64 0), (.bool false), (.bool false), (.string .empty), (.int .u64 0)]⟩,
   ⟨none, none, .store 5 (.t 3) (.t 8)⟩,
   ⟨(some 4), none, .move (.t 9)⟩] (some [3, 4]))
 (.seq (.seq (.ops [⟨(some 10), none, .move (.t 4)⟩,
   ⟨(some 11), none, .un .not (.t 10)⟩,
   ⟨(some 12), none, .move (.t 11)⟩,
   ⟨(some 13), (some (12, false)), .fieldAddr 1 (.t 3)⟩,
   ⟨(some 14), (some (12, false)), .load false 1 (.t 13)⟩,
   ⟨(some 15), none, .pick (.t 12) (.c (.bool true)) (.t 14)⟩] (some [3, 15]))
 (.cond (.t 15)
  (.seq (.ops [⟨(some 2), none, .move (.c (.int .i64 0))⟩] (some [2]))
  .ret)
  .skip))
 (.seq (.ops [⟨(some 16), none, .fieldAddr 2 (.t 3)⟩,
   ⟨(some 17), none, .load true 3 (.t 16)⟩,
   ⟨(some 18), none, .call (.c (.func (.func 271) #[] #[])) [(.t 17)]⟩,
   ⟨(some 2), none, .move (.t 18)⟩] (some [2]))
 .ret)))), [.tmp 2]⟩

theorem is202 : FnIs Tryz.prog 202 x202 := ⟨Tryz.f202, _, Tryz.func202, by kernel_rfl, rfl, by kernel_rfl, by decide, by kernel_rfl⟩

/-- (*cloisonne/tree.node).leaf -/
def x205 : XDecl := .code ⟨1, 
 (.seq (.ops [⟨(some 2), none, .move (.c (.bool false))⟩] (some [0]))
 (.seq (.ops [⟨(some 3), none, .move (.t 0)⟩,
   ⟨(some 4), none, .nilCheck (.t 3)⟩,
   ⟨(some 5), none, .fieldAddr 2 (.t 4)⟩,
   ⟨(some 6), none, .load false 1 (.t 5)⟩,
   ⟨(some 7), none, .len (.t 6)⟩,
   ⟨(some 8), none, .bin .eql 3 (.t 7) (.c (.int .i64 0))⟩,
   ⟨(some 2), none, .move (.t 8)⟩] (some [2]))
 .ret)), [.tmp 2]⟩

theorem is205 : FnIs Tryz.prog 205 x205 := ⟨Tryz.f205, _, Tryz.func205, by kernel_rfl, rfl, by kernel_rfl, by decide, by kernel_rfl⟩

/-- (*cloisonne/tree.Tree).add -/
def x206 : XDecl := .code ⟨2, 
 (.seq (.ops [⟨(some 3), none, .box (.t 1)⟩,
   ⟨(some 4), none, .move (.c (.int .i64 0))⟩] (some [0, 3]))
 (.seq (.seq (.ops [⟨(some 7), none, .move (.t 0)⟩,
   ⟨(some 8), none, .nilCheck (.t 7)⟩,
   ⟨(some 9), none, .fieldAddr 1 (.t 8)⟩,
   ⟨(some 10), none, .load false 1 (.t 9)⟩,
   ⟨(some 11), none, .len (.t 10)⟩,
   ⟨(some 5), none, .move (.t 11)⟩] (some [0, 3, 5]))
 (.seq (.ops [⟨(some 12), none, .move (.t 5)⟩,
   ⟨(some 13), none, .bin .gtr 3 (.t 12) (.c (.int .i64 0))⟩] (some [0, 3, 5, 13]))
 (.cond (.t 13)
  (.seq (.ops [⟨(some 14), none, .move (.t 0)⟩,
    ⟨(some 15), none, .nilCheck (.t 14)⟩,
    ⟨(some 16), none, .fieldAddr 1 (.t 15)⟩,
    ⟨(some 17), none, .load false 1 (.t 16)⟩,
    ⟨(some 18), none, .move (.t 5)⟩,
    ⟨(some 19), none, .bin .sub 3 (.t 18) (.c (.int .i64 1))⟩,
    ⟨(some 20), none, .indexAddr 1 (.t 17) (.t 19)⟩,
    ⟨(some 21), none, .load false 1 (.t 20)⟩,
    ⟨(some 6), none, .move (.t 21)⟩] (some [0, 3, 5, 6]))
  (.seq (.ops [⟨(some 22), none, .move (.t 0)⟩,
    ⟨(some 23), none, .move (.t 0)⟩,
    ⟨(some 24), none, .nilCheck (.t 23)⟩,
    ⟨(some 25), none, .fieldAddr 1 (.t 24)⟩,
    ⟨(some 26), none, .load false 1 (.t 25)⟩,
    ⟨(some 27), none, .move (.t 5)⟩,
    ⟨(some 28), none, .bin .sub 3 (.t 27) (.c (.int .i64 1))⟩,
    ⟨(some 29), none, .slice 1 (.t 26) none (some (.t 28)) none⟩,
    ⟨(some 30), none, .nilCheck (.t 22)⟩,
    ⟨(some 31), none, .fieldAddr 1 (.t 30)⟩,
    ⟨none, none, .store 1 (.t 31) (.t 29)⟩] (some [0, 3, 6]))
  (.seq (.opsd [(0, 0, ⟨(some 32), none, .move (.t 0)⟩),
    (1, 1, ⟨(some 33), none, .nilCheck (.t 32)⟩),
    (2, 3, ⟨(some 34), none, .fieldAddr 0 (.t 33)⟩),
    (3, 7, ⟨(some 35), none, .load false 1 (.t 34)⟩),
    (4, 0, ⟨(some 36), none, .move (.t 6)⟩),
    (5, 0, ⟨(some 37), none, .load true 3 (.t 3)⟩),
    (6, 63, ⟨(some 38), none, .indexAddr 3 (.t 35) (.t 36)⟩),
    (7, 127, ⟨none, none, .store 3 (.t 38) (.t 37)⟩)] (some [6]))
  (.seq (.ops [⟨(some 39), none, .move (.t 6)⟩,
    ⟨(some 4), none, .move (.t 39)⟩] (some [4]))
  .ret))))
  .skip)))
 (.seq (.opsd [(0, 0, ⟨(some 40), none, .move (.t 0)⟩),
   (1, 0, ⟨(some 41), none, .move (.t 0)⟩),
   (2, 2, ⟨(some 42), none, .nilCheck (.t 41)⟩),
   (3, 6, ⟨(some 43), none, .fieldAddr 0 (.t 42)⟩),
   (4, 14, ⟨(some 44), none, .load false 1 (.t 43)⟩),
   (5, 0, ⟨(some 45), none, .load true 3 (.t 3)⟩),
   (6, 32, ⟨(some 46), none, .buildSlice [(.slice none 0 0), (.slice none 0 0), (.slice none 0 0)] 3 1 [(0, (.t 45))]⟩),
   (7, 126, ⟨(some 47), none, .append 3 72 [(.slice none 0 0), (.slice none 0 0), (.slice none 0 0)] (.t 44) (.t 46)⟩),
   (8, 255, ⟨(some 48), none, .nilCheck (.t 40)⟩),
   (9, 511, ⟨(some 49), none, .fieldAddr 0 (.t 48)⟩),
   (10, 1023, ⟨none, none, .store 1 (.t 49) (.t 47)⟩)] (some [0]))
 (.seq (.ops [⟨(some 50), none, .move (.t 0)⟩,
   ⟨(some 51), none, .nilCheck (.t 50)⟩,
   ⟨(some 52), none, .fieldAddr 0 (.t 51)⟩,
   ⟨(some 53), none, .load false 1 (.t 52)⟩,
   ⟨(some 54), none, .len (.t 53)⟩,
   ⟨(some 55), none, .bin .sub 3 (.t 54) (.c (.int .i64 1))⟩,
   ⟨(some 4), none, .move (.t 55)⟩] (some [4]))
 .ret)))), [.tmp 4]⟩

theorem is206 : FnIs Tryz.prog 206 x206 := ⟨Tryz.f206, _, Tryz.func206, by kernel_rfl, rfl, by kernel_rfl, by decide, by kernel_rfl⟩

/-- (*cloisonne/vault.Vault).there -/
def x210 : XDecl := .code ⟨2, 
 (.seq (.ops [⟨(some 4), none, .move (.c (.bool false))⟩] (some [0, 1]))
 (.seq (.ops [⟨(some 5), none, .move (.t 0)⟩,
   ⟨(some 6), none, .isNil .ptr true (.t 5)⟩,
   ⟨(some 7), none, .move (.t 6)⟩,
   ⟨(some 8), (some (7, true)), .move (.t 1)⟩,
   ⟨(some 9), (some (7, true)), .move (.t 0)⟩,
   ⟨(some 10), (some (7, true)), .nilCheck (.t 9)⟩,
   ⟨(some 11), (some (7, true)), .fieldAddr 6 (.t 10)⟩,
   ⟨(some 12), (some (7, true)), .load false 1 (.t 11)⟩,
   ⟨(some 13), (some (7, true)), .len (.t 12)⟩,
   ⟨(some 14), (some (7, true)), .bin .sub 3 (.t 13) (.c (.int .i64 1))⟩,
   ⟨(some 15), (some (7, true)), .call (.c (.func (.func 86) #[] #[])) [(.t 8), (.c (.int .i64 (-1))), (.t 14)]⟩,
   ⟨(some 16), none, .pick (.t 7) (.t 15) (.c (.bool false))⟩,
   ⟨(some 4), none, .move (.t 16)⟩] (some [4]))
 .ret)), [.tmp 4]⟩

theorem is210 : FnIs Tryz.prog 210 x210 := ⟨Tryz.f210, _, Tryz.func210, by kernel_rfl, rfl, by kernel_rfl, by decide, by kernel_rfl⟩

/-- (*cloisonne/vault.Vault).Hold -/
def x211 : XDecl := .code ⟨3, 
 (.seq (.ops [⟨(some 6), none, .move (.c (.bool false))⟩] (some [0, 1, 2]))
 (.seq (.seq (.ops [⟨(some 9), none, .move (.t 0)⟩,
   ⟨(some 10), none, .move (.t 1)⟩,
   ⟨(some 11), none, .call (.c (.func (.func 210) #[] #[])) [(.t 9), (.t 10)]⟩,
   ⟨(some 12), none, .un .not (.t 11)⟩] (some [0, 1, 2, 12]))
 (.cond (.t 12)
  (.seq (.ops [⟨(some 6), none, .move (.c (.bool false))⟩] (some [6]))
  .ret)
  .skip))
 (.seq (.seq (.ops [⟨(some 14), none, .move (.t 0)⟩,
   ⟨(some 15), none, .nilCheck (.t 14)⟩,
   ⟨(some 16), none, .fieldAddr 8 (.t 15)⟩,
   ⟨(some 17), none, .load false 1 (.t 16)⟩,
   ⟨(some 18), none, .move (.t 1)⟩,
   ⟨(some 19), none, .lookup true (.int .i64 0) true (.t 17) (.t 18)⟩,
   ⟨(some 13), none, .move (.t 19)⟩,
   ⟨(some 20), none, .extract (.t 13) 0⟩,
   ⟨(some 21), none, .extract (.t 13) 1⟩,
   ⟨(some 7), none, .move (.t 20)⟩,
   ⟨(some 8), none, .move (.t 21)⟩] (some [0, 1, 2, 8]))
 (.seq (.ops [⟨(some 22), none, .move (.t 8)⟩] (some [0, 1, 2, 22]))
 (.cond (.t 22)
  (.seq (.ops [⟨(some 6), none, .move (.c (.bool false))⟩] (some [6]))
  .ret)
  .skip)))
 (.seq (.ops [⟨(some 23), none, .move (.t 0)⟩,
   ⟨(some 24), none, .nilCheck (.t 23)⟩,
   ⟨(some 25), none, .fieldAddr 8 (.t 24)⟩,
   ⟨(some 26), none, .load false 1 (.t 25)⟩,
   ⟨(some 27), none, .move (.t 1)⟩,
   ⟨(some 28), none, .move (.t 2)⟩,
   ⟨none, none, .mapUpdate true (.t 26) (.t 27) (.t 28)⟩] (some []))
 (.seq (.ops [⟨(some 6), none, .move (.c (.bool true))⟩] (some [6]))
 .ret))))), [.tmp 6]⟩

theorem is211 : FnIs Tryz.prog 211 x211 := ⟨Tryz.f211, _, Tryz.func211, by kernel_rfl, rfl, by kernel_rfl, by decide, by kernel_rfl⟩

/-- (*cloisonne/job.Job).end -/
def x212 : XDecl := .code ⟨3, 
 (.seq (.ops [⟨(some 6), none, .move (.c (.int .i64 0))⟩,
   ⟨(some 7), none, .move (.c (.int .i64 0))⟩] (some [0, 1, 2]))
 (.seq (.opsd [(0, 0, ⟨(some 8), none, .move (.t 0)⟩),
   (1, 1, ⟨(some 9), none, .nilCheck (.t 8)⟩),
   (2, 3, ⟨(some 10), none, .fieldAddr 0 (.t 9)⟩),
   (3, 7, ⟨(some 11), none, .load false 1 (.t 10)⟩),
   (4, 0, ⟨(some 12), none, .move (.t 0)⟩),
   (5, 16, ⟨(some 13), none, .nilCheck (.t 12)⟩),
   (6, 48, ⟨(some 14), none, .fieldAddr 2 (.t 13)⟩),
   (7, 112, ⟨(some 15), none, .load false 1 (.t 14)⟩),
   (8, 255, ⟨(some 16), none, .call (.c (.func (.func 279) #[] #[])) [(.t 11), (.t 15)]⟩)] (some [0, 1, 2]))
 (.seq (.ops [⟨(some 17), none, .move (.t 0)⟩,
   ⟨(some 18), none, .move (.t 0)⟩,
   ⟨(some 19), none, .move (.t 2)⟩,
   ⟨(some 20), none, .nilCheck (.t 17)⟩,
   ⟨(some 21), none, .fieldAddr 4 (.t 20)⟩,
   ⟨none, none, .store 1 (.t 21) (.c (.int .i64 3))⟩,
   ⟨(some 22), none, .nilCheck (.t 18)⟩,
   ⟨(some 23), none, .fieldAddr 7 (.t 22)⟩,
   ⟨none, none, .store 1 (.t 23) (.t 19)⟩] (some [0, 1, 2]))
 (.seq (.seq (.ops [⟨(some 24), none, .move (.t 2)⟩,
   ⟨(some 25), none, .bin .eql 32 (.t 24) (.c (.int .i64 0))⟩] (some [0, 1, 25]))
 (.cond (.t 25)
  (.ops [⟨(some 26), none, .move (.t 0)⟩,
    ⟨(some 27), none, .move (.t 1)⟩,
    ⟨(some 28), none, .nilCheck (.t 26)⟩,
    ⟨(some 29), none, .fieldAddr 6 (.t 28)⟩,
    ⟨none, none, .store 1 (.t 29) (.t 27)⟩] (some []))
  .skip))
 (.seq (.ops [⟨(some 6), none, .move (.c (.int .i64 2))⟩,
   ⟨(some 7), none, .move (.c (.int .i64 0))⟩] (some [6, 7]))
 .ret))))), [.tmp 6, .tmp 7]⟩

theorem is212 : FnIs Tryz.prog 212 x212 := ⟨Tryz.f212, _, Tryz.func212, by kernel_rfl, rfl, by kernel_rfl, by decide, by kernel_rfl⟩

/-- (*cloisonne/seglog.Writer).Move -/
def x213 : XDecl := .code ⟨1, 
 (.seq (.ops [⟨(some 2), none, .move (.c (.int .i64 0))⟩,
   ⟨(some 3), none, .move (.c (.int .i64 0))⟩] (some [0]))
 (.seq (.ops [⟨(some 4), none, .move (.c (.int .i64 0))⟩] (some [0]))
 (.seq (.block 0
  (.seq (.ops [⟨(some 8), none, .move (.t 0)⟩,
    ⟨(some 9), none, .isNil .ptr false (.t 8)⟩,
    ⟨(some 7), none, .move (.t 9)⟩] (some [0, 7]))
  (.cond (.t 7)
   (.seq (.ops [⟨(some 2), none, .move (.c (.int .i64 0))⟩,
     ⟨(some 3), none, .move (.c (.int .i64 2))⟩] (some [2, 3]))
   .ret)
   (.seq (.ops [⟨(some 11), none, .move (.t 0)⟩,
     ⟨(some 12), none, .nilCheck (.t 11)⟩,
     ⟨(some 13), none, .fieldAddr 6 (.t 12)⟩,
     ⟨(some 14), none, .load false 1 (.t 13)⟩,
     ⟨(some 10), none, .move (.t 14)⟩] (some [0, 10]))
   (.cond (.t 10)
    (.seq (.ops [⟨(some 2), none, .move (.c (.int .i64 2))⟩,
      ⟨(some 3), none, .move (.c (.int .i64 0))⟩] (some [2, 3]))
    .ret)
    (.seq (.opsr [⟨(some 16), none, .move (.t 0)⟩,
      ⟨(some 17), none, .nilCheck (.t 16)⟩,
      ⟨(some 18), none, .fieldAddr 5 (.t 17)⟩,
      ⟨(some 19), none, .load false 1 (.t 18)⟩,
      ⟨(some 20), none, .move (.t 0)⟩,
      ⟨(some 21), none, .nilCheck (.t 20)⟩,
      ⟨(some 22), none, .fieldAddr 4 (.t 21)⟩,
      ⟨(some 23), none, .load false 1 (.t 22)⟩,
      ⟨(some 24), none, .len (.t 23)⟩,
      ⟨(some 25), none, .bin .lss 3 (.t 19) (.t 24)⟩,
      ⟨(some 15), none, .move (.t 25)⟩] (some [0, 15]))
    (.cond (.t 15)
     (.ops [⟨(some 26), none, .move (.t 0)⟩,
       ⟨(some 27), none, .call (.c (.func (.func 280) #[] #[])) [(.t 26)]⟩,
       ⟨(some 4), none, .move (.t 27)⟩] (some [0, 4]))
     (.seq (.opsr [⟨(some 29), none, .move (.t 0)⟩,
       ⟨(some 30), none, .nilCheck (.t 29)⟩,
       ⟨(some 31), none, .fieldAddr 5 (.t 30)⟩,
       ⟨(some 32), none, .load false 1 (.t 31)⟩,
       ⟨(some 33), none, .move (.t 0)⟩,
       ⟨(some 34), none, .nilCheck (.t 33)⟩,
       ⟨(some 35), none, .fieldAddr 4 (.t 34)⟩,
       ⟨(some 36), none, .load false 1 (.t 35)⟩,
       ⟨(some 37), none, .len (.t 36)⟩,
       ⟨(some 38), none, .bin .eql 3 (.t 32) (.t 37)⟩,
       ⟨(some 28), none, .move (.t 38)⟩] (some [0, 28]))
     (.cond (.t 28)
      (.opsd [(0, 0, ⟨(some 39), none, .move (.t 0)⟩),
        (1, 1, ⟨(some 40), none, .nilCheck (.t 39)⟩),
        (2, 3, ⟨(some 41), none, .fieldAddr 0 (.t 40)⟩),
        (3, 7, ⟨(some 42), none, .load false 1 (.t 41)⟩),
        (4, 15, ⟨(some 43), none, .nilCheck (.t 42)⟩),
        (5, 31, ⟨(some 44), none, .fieldAddr 0 (.t 43)⟩),
        (6, 63, ⟨(some 45), none, .load false 1 (.t 44)⟩),
        (7, 0, ⟨(some 46), none, .move (.t 0)⟩),
        (8, 128, ⟨(some 47), none, .nilCheck (.t 46)⟩),
        (9, 384, ⟨(some 48), none, .fieldAddr 1 (.t 47)⟩),
        (10, 896, ⟨(some 49), none, .load false 1 (.t 48)⟩),
        (11, 2047, ⟨(some 50), none, .call (.c (.func (.func 281) #[] #[])) [(.t 45), (.t 49)]⟩),
        (12, 4095, ⟨(some 4), none, .move (.t 50)⟩)] (some [0, 4]))
      (.seq (.ops [⟨(some 5), none, .move (.t 0)⟩,
        ⟨(some 6), none, .call (.c (.func (.func 282) #[] #[])) [(.t 5)]⟩] (some []))
      (.seq (.ops [⟨(some 2), none, .move (.c (.int .i64 2))⟩,
        ⟨(some 3), none, .move (.c (.int .i64 0))⟩] (some [2, 3]))
      .ret)))))))))))
 (.seq (.seq (.ops [⟨(some 51), none, .move (.t 4)⟩,
   ⟨(some 52), none, .bin .neq 32 (.t 51) (.c (.int .i64 0))⟩] (some [0, 4, 52]))
 (.cond (.t 52)
  (.seq (.ops [⟨(some 53), none, .move (.t 4)⟩,
    ⟨(some 2), none, .move (.c (.int .i64 0))⟩,
    ⟨(some 3), none, .move (.t 53)⟩] (some [2, 3]))
  .ret)
  .skip))
 (.seq (.ops [⟨(some 54), none, .move (.t 0)⟩,
   ⟨(some 55), none, .nilCheck (.t 54)⟩,
   ⟨(some 56), none, .fieldAddr 5 (.t 55)⟩,
   ⟨(some 57), none, .load false 1 (.t 56)⟩,
   ⟨(some 58), none, .bin .add 3 (.t 57) (.c (.int .i64 1))⟩,
   ⟨(some 59), none, .nilCheck (.t 54)⟩,
   ⟨(some 60), none, .fieldAddr 5 (.t 59)⟩,
   ⟨none, none, .store 1 (.t 60) (.t 58)⟩] (some []))
 (.seq (.ops [⟨(some 2), none, .move (.c (.int .i64 1))⟩,
   ⟨(some 3), none, .move (.c (.int .i64 0))⟩] (some [2, 3]))
 .ret)))))), [.tmp 2, .tmp 3]⟩

theorem is213 : FnIs Tryz.prog 213 x213 := ⟨Tryz.f213, _, Tryz.func213, by kernel_rfl, rfl, by kernel_rfl, by decide, by kernel_rfl⟩

/-- (*cloisonne/extent.World).there -/
def x214 : XDecl := .code ⟨2, 
 (.seq (.ops [⟨(some 4), none, .move (.c (.bool false))⟩] (some [0, 1]))
 (.seq (.ops [⟨(some 5), none, .move (.t 0)⟩,
   ⟨(some 6), none, .isNil .ptr true (.t 5)⟩,
   ⟨(some 7), none, .move (.t 6)⟩,
   ⟨(some 8), (some (7, true)), .move (.t 1)⟩,
   ⟨(some 9), (some (7, true)), .bin .geq 3 (.t 8) (.c (.int .i64 0))⟩,
   ⟨(some 10), none, .pick (.t 7) (.t 9) (.c (.bool false))⟩,
   ⟨(some 11), none, .move (.t 10)⟩,
   ⟨(some 12), (some (11, true)), .move (.t 1)⟩,
   ⟨(some 13), (some (11, true)), .move (.t 0)⟩,
   ⟨(some 14), (some (11, true)), .nilCheck (.t 13)⟩,
   ⟨(some 15), (some (11, true)), .fieldAddr 2 (.t 14)⟩,
   ⟨(some 16), (some (11, true)), .load false 1 (.t 15)⟩,
   ⟨(some 17), (some (11, true)), .len (.t 16)⟩,
   ⟨(some 18), (some (11, true)), .bin .lss 3 (.t 12) (.t 17)⟩,
   ⟨(some 19), none, .pick (.t 11) (.t 18) (.c (.bool false))⟩,
   ⟨(some 4), none, .move (.t 19)⟩] (some [4]))
 .ret)), [.tmp 4]⟩

theorem is214 : FnIs Tryz.prog 214 x214 := ⟨Tryz.f214, _, Tryz.func214, by kernel_rfl, rfl, by kernel_rfl, by decide, by kernel_rfl⟩

/-- cloisonne/vault.Right$1 -/
def x215 : XDecl := .code ⟨2, 
 (.seq (.ops [⟨(some 2), none, .box (.t 0)⟩,
   ⟨(some 3), none, .move (.c (.bool false))⟩] (some [1, 2]))
 (.seq (.ops [⟨(some 4), none, .fieldAddr 0 (.t 2)⟩,
   ⟨(some 5), none, .load false 1 (.t 4)⟩,
   ⟨(some 6), none, .fieldAddr 0 (.t 1)⟩,
   ⟨(some 7), none, .load false 1 (.t 6)⟩,
   ⟨(some 8), none, .call (.c (.func (.func 216) #[] #[])) [(.t 5), (.t 7)]⟩,
   ⟨(some 9), none, .bin .eql 3 (.t 8) (.c (.int .i64 0))⟩,
   ⟨(some 3), none, .move (.t 9)⟩] (some [3]))
 .ret)), [.tmp 3]⟩

theorem is215 : FnIs Tryz.prog 215 x215 := ⟨Tryz.f215, _, Tryz.func215, by kernel_rfl, rfl, by kernel_rfl, by decide, by kernel_rfl⟩

/-- cloisonne/label.Compare -/
def x216 : XDecl := .code ⟨2, 
 (.seq (.ops [⟨(some 4), none, .move (.c (.int .i64 0))⟩] (some [0, 1]))
 (.seq (.ops [⟨(some 5), none, .move (.t 0)⟩,
   ⟨(some 6), none, .len (.t 5)⟩,
   ⟨(some 7), none, .move (.t 1)⟩,
   ⟨(some 8), none, .len (.t 7)⟩,
   ⟨(some 9), none, .call (.c (.func (.func 62) #[] #[])) [(.t 6), (.t 8)]⟩,
   ⟨(some 10), none, .move (.t 0)⟩,
   ⟨(some 11), none, .move (.t 1)⟩,
   ⟨(some 12), none, .call (.c (.func (.func 284) #[] #[])) [(.t 10), (.t 11)]⟩,
   ⟨(some 13), none, .buildSlice [(.int .i64 0)] 1 2 [(0, (.t 9)), (1, (.t 12))]⟩,
   ⟨(some 14), none, .call (.c (.func (.func 283) #[] #[])) [(.t 13)]⟩,
   ⟨(some 4), none, .move (.t 14)⟩] (some [4]))
 .ret)), [.tmp 4]⟩

theorem is216 : FnIs Tryz.prog 216 x216 := ⟨Tryz.f216, _, Tryz.func216, by kernel_rfl, rfl, by kernel_rfl, by decide, by kernel_rfl⟩

def tabC : FuncId → Option XDecl
  | 149 => some x149
  | 150 => some x150
  | 151 => some x151
  | 152 => some x152
  | 153 => some x153
  | 154 => some x154
  | 155 => some x155
  | 156 => some x156
  | 157 => some x157
  | 158 => some x158
  | 159 => some x159
  | 160 => some x160
  | 163 => some x163
  | 172 => some x172
  | 173 => some x173
  | 174 => some x174
  | 175 => some x175
  | 179 => some x179
  | 180 => some x180
  | 182 => some x182
  | 183 => some x183
  | 184 => some x184
  | 187 => some x187
  | 188 => some x188
  | 189 => some x189
  | 190 => some x190
  | 191 => some x191
  | 192 => some x192
  | 193 => some x193
  | 195 => some x195
  | 198 => some x198
  | 199 => some x199
  | 202 => some x202
  | 205 => some x205
  | 206 => some x206
  | 210 => some x210
  | 211 => some x211
  | 212 => some x212
  | 213 => some x213
  | 214 => some x214
  | 215 => some x215
  | 216 => some x216
  | _ => none
theorem tabC_is : ∀ f d, tabC f = some d → FnIs Tryz.prog f d := by
  intro f d h
  unfold tabC at h
  split at h
  · cases h; exact is149
  · cases h; exact is150
  · cases h; exact is151
  · cases h; exact is152
  · cases h; exact is153
  · cases h; exact is154
  · cases h; exact is155
  · cases h; exact is156
  · cases h; exact is157
  · cases h; exact is158
  · cases h; exact is159
  · cases h; exact is160
  · cases h; exact is163
  · cases h; exact is172
  · cases h; exact is173
  · cases h; exact is174
  · cases h; exact is175
  · cases h; exact is179
  · cases h; exact is180
  · cases h; exact is182
  · cases h; exact is183
  · cases h; exact is184
  · cases h; exact is187
  · cases h; exact is188
  · cases h; exact is189
  · cases h; exact is190
  · cases h; exact is191
  · cases h; exact is192
  · cases h; exact is193
  · cases h; exact is195
  · cases h; exact is198
  · cases h; exact is199
  · cases h; exact is202
  · cases h; exact is205
  · cases h; exact is206
  · cases h; exact is210
  · cases h; exact is211
  · cases h; exact is212
  · cases h; exact is213
  · cases h; exact is214
  · cases h; exact is215
  · cases h; exact is216
  · cases h

end Go.Proofs.YtglefgcnafoafaaGreatDoor.X
